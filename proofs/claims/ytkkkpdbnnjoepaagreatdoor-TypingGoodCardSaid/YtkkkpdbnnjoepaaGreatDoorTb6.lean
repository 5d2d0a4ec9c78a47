/- Contracts of the functions that the law reaches, part 6. -/
import Derived.Test.YtkkkpdbnnjoepaaGreatDoorTb5
set_option linter.unusedVariables false
set_option linter.unusedSimpArgs false
namespace Go.Proofs.YtkkkpdbnnjoepaaGreatDoor
open Go.RowKit Lx Sx
set_option maxRecDepth 100000
set_option maxHeartbeats 1000000
set_option maxHeartbeats 4000000
open Go.RowKit
theorem Ab : nE jy (sW ve 10000 14 [.str AN]) = true := by kernel_rfl
theorem wM : Known [jy] := ⟨by decide +kernel, by decide +kernel, by decide +kernel⟩
theorem Ax : (dC [jy] 0 []).fa = [⟨⟨0, [0, 1, 1]⟩, 6⟩, ⟨⟨0, [1, 2, 2]⟩, 3⟩] := by kernel_rfl
theorem qP : (dC [jy] 0 [0, 1]).rs = 5 ∧ (dC [jy] 0 [0, 1]).rl = 0 := ⟨by kernel_rfl, by kernel_rfl⟩
def Bm : Tree := (atK jy [0, 1]).getD (.node 0 [] [] [])
theorem AH : dn Bm.kind = true := by decide +kernel
theorem Ad : vK 4000 jy [0, 1] Bm = true := by kernel_rfl
theorem xu : hW true := by
 have k := wM
 have e1 : br [jy] [⟨⟨0, [0, 1, 1]⟩, 6⟩, ⟨⟨0, [1, 2, 2]⟩, 3⟩] := k.errs (by
  rw [Ax]
  refine oc (by simp) fun i a b ha hb => ?_
  match i, ha, hb with
  | 0, ha, hb =>
   simp only [List.getElem?_cons_zero, Option.some.injEq, List.getElem?_cons_succ] at ha hb
   subst ha hb
   exact ⟨1, xq rfl rfl rfl (by decide), by decide⟩
  | n + 1, ha, hb => simp at hb)
 have e2 := AB (m := 0) (q := [0, 1]) (nc k.ok) k.b k.u rfl (zR Ad) AH qP.2
 have e3 : ofK [jy] ((0 : Nat) : Int) [0, 1] = (.node 5 [] [] [], 0) := by
  unfold ofK
  rw [show (dC [jy] ((0 : Nat) : Int) [0, 1]).rs = 5 from qP.1, show (dC [jy] ((0 : Nat) : Int) [0, 1]).rl = 0 from qP.2]
  rfl
 rw [e3] at e2
 exact lp 0 _ (⟨jy, 0, 0, zm Ab, _, e1, _, _, e2, fun _ => ⟨fun _ => ⟨fun _ => ⟨fun _ => ⟨_, rfl, fun _ => ⟨_, rfl, _, lU _, fun _ => ⟨_, rfl, fun _ => ⟨_, rfl, _, lU _, rfl⟩, fun h => absurd rfl h⟩, fun h => (by cases h)⟩, fun h => absurd rfl h⟩, fun h => absurd rfl h⟩, fun h => absurd rfl h⟩, fun h => absurd rfl h⟩, fun h => absurd rfl h⟩)
theorem vw : dI true := xu
theorem sU {a n : Int} (hn : 0 < n) (hn2 : n ≤ 1000000000) : ∃ r, dA a n r ∧ 0 ≤ r ∧ r < n := by
 have h1 := Int.tmod_lt_of_pos a hn
 have h2 : -n < Int.tmod a n := by
  have := Int.tmod_lt_of_pos (-a) hn
  rw [Int.neg_tmod] at this; omega
 by_cases h : Int.tmod a n < 0
 ·exact ⟨Int.tmod a n + n, jD 0 _ _ _ (⟨by omega, fun _ => ⟨⟨by omega, by omega⟩, rfl⟩, fun h' => absurd h h'⟩), by omega, by omega⟩
 ·exact ⟨Int.tmod a n, jD 0 _ _ _ (⟨by omega, fun h' => absurd h' h, fun _ => rfl⟩), by omega, by omega⟩
def aJ (k : Int) (b : Tree) : List Tree := [.node 1 [77] [] [.node 2 [102] [] [.node 4 [120] [] [.node 5 [] [] []], .node 5 [] [] [], .node 12 [120] [] []], .node 2 [103] [] [.node 4 [120] [] [.node 5 [] [] []], .node k [] [] [], b]]]
theorem sv (k : Int) (b : Tree) : cZ k b (aJ k b) := lx 0 _ _ _ (rfl)
inductive It where
 | seq (c : Code)
 | blk (id : Nat)
inductive Pt where
 | code (c : Code)
 | ops (all : Array Oper) (rest : List Oper)
 | ex (e : Exit)
def stk (P : Program) (Q : Exit → Act → World → Prop) : List It → Exit → Act → World → Prop
 | [] => Q
 | .seq c :: s => Exit.then (c.wp P (stk P Q s)) (stk P Q s)
 | .blk id :: s => Exit.inBlock id (stk P Q s)
def Pt.wp (P : Program) (Q : Exit → Act → World → Prop) (p : Pt) (s : List It) (a : Act) (w : World) : Prop :=
 match p with
 | .code c => c.wp P (stk P Q s) a w
 | .ops all rest => wpList P all (stk P Q s) rest a w
 | .ex e => stk P Q s e a w
def ri (b : Bool) : Option Value := match b with | true => some (.bool true) | false => some (.bool false)
def uH (ft : Nat → Nat → Option Nat) (f : Nat → Option Value) (op : Op) : Option Value :=
 match op with
 | .move x => aq f x
 | .assign x => aq f x
 |.pick c x y => match aq f c with
  | some (.bool true) => aq f x
  | some (.bool false) => aq f y
  | _ => none
 |.nilCheck x => match aq f x with
  | some (.pointer (some p)) => some (.pointer (some p))
  | _ => none
 |.extract x i => match aq f x with
  | some (.tuple vs) => vs[i]?
  | _ => none
 |.unOp .not _ x => match aq f x with
  | some (.bool b) => ri (!b)
  | _ => none
 |.fieldAddr t x i => match aq f x with
  |some (.pointer (some ⟨b, o, none⟩)) => match ft t i with
   | some k => some (.pointer (some ⟨b, o + k, none⟩))
   | none => none
  | _ => none
 |.binOp .eql _ x y _ => match aq f x with
  |some (.int k m) => match aq f y with
   | some (.int k' l) => if k = k' then ri (m == l) else none
   | _ => none
  | _ => none
 |.binOp .neq _ x y _ => match aq f x with
  |some (.int k m) => match aq f y with
   | some (.int k' l) => if k = k' then ri (m != l) else none
   | _ => none
  | _ => none
 | _ => none
def pn (ft : Nat → Nat → Option Nat) (n : Nat) (all : Array Oper) (o : Oper) (f : Nat → Option Value) : Option (Nat → Option Value) :=
 match cw f all o.guard with
 |true => match uH ft f o.op with
  |some v => match cf o.dst n with
   | true => some (upo f o.dst v)
   | false => none
  | none => none
 |false => match kI f all o.guard with
  |true => match cf o.dst n with
   | true => some (upo f o.dst undef)
   | false => none
  | false => none
def dy (ft : Nat → Nat → Option Nat) (n : Nat) : Nat → Pt → List It → (Nat → Option Value) → Option (Pt × List It × (Nat → Option Value))
 | 0, p, s, f => some (p, s, f)
 |k + 1, .code c, s, f => match c with
  | .seq x y => dy ft n k (.code x) (.seq y :: s) f
  | .block id c => dy ft n k (.code c) (.blk id :: s) f
  | .skip => dy ft n k (.ex .normal) s f
  | .ret => dy ft n k (.ex .ret) s f
  | .exit id => dy ft n k (.ex (.exit id)) s f
  |.cond c x y => match aq f c with
   | some (.bool true) => dy ft n k (.code x) s f
   | some (.bool false) => dy ft n k (.code y) s f
   | _ => none
  | .region _ ⟨l⟩ false => dy ft n k (.ops ⟨l⟩ l) s f
  | _ => none
 |k + 1, .ops all rest, s, f => match rest with
  | [] => dy ft n k (.ex .normal) s f
  |o :: r => match pn ft n all o f with
   | some f' => dy ft n k (.ops all r) s f'
   | none => none
 |k + 1, .ex e, s, f => match s with
  | [] => none
  |.seq c :: s => match e with
   | .normal => dy ft n k (.code c) s f
   | .exit i => dy ft n k (.ex (.exit i)) s f
   | .ret => dy ft n k (.ex .ret) s f
   | _ => none
  |.blk id :: s => match e with
   | .normal => dy ft n k (.ex .normal) s f
   |.exit i => match Nat.beq i id with
    | true => dy ft n k (.ex .normal) s f
    | false => dy ft n k (.ex (.exit i)) s f
   | .ret => dy ft n k (.ex .ret) s f
   | _ => none
section
variable {P : Program} {Q : Exit → Act → World → Prop} {a : Act} {w w' : World} {n : Nat} {f f' : Nat → Option Value} {ft : Nat → Nat → Option Nat} {p p' : Pt} {s s' : List It}
theorem mY {b : Bool} {v : Value} (h : ri b = some v) : v = .bool b := by cases b <;> simp [ri] at h <;> exact h.symm
theorem tf (hft : ∀ t i k, ft t i = some k → di P t i = some k) {op : Op} {v : Value} {ty : TypeId} (h : Fr a n f) (hv : uH ft f op = some v) : Runs P a ty op w (.value v) w := by
 unfold uH at hv
 split at hv
 ·exact ny h hv
 ·exact mM h hv
 ·split at hv
  ·exact qM h ‹_› hv
  ·exact sq h ‹_› hv
  ·cases hv
 ·split at hv
  ·injection hv with hv; subst hv; exact pu h ‹_›
  ·cases hv
 ·split at hv
  ·exact pw h ‹_› hv
  ·cases hv
 ·split at hv
  ·rw [mY hv]; exact wY h ‹_› rfl
  ·cases hv
 ·split at hv
  ·split at hv
   ·injection hv with hv; subst hv; exact qy h ‹_› (hft _ _ _ ‹_›) rfl
   ·cases hv
  ·cases hv
 ·split at hv
  ·split at hv
   ·split at hv
    ·rename_i e; subst e; rw [mY hv]; exact wH h ‹_› ‹_› rfl
    ·cases hv
   ·cases hv
  ·cases hv
 ·split at hv
  ·split at hv
   ·split at hv
    ·rename_i e; subst e; rw [mY hv]; exact ws h ‹_› ‹_› rfl
    ·cases hv
   ·cases hv
  ·cases hv
 ·cases hv
theorem xV (hft : ∀ t i k, ft t i = some k → di P t i = some k) {all : Array Oper} {o : Oper} {rest : List Oper} {Q : Exit → Act → World → Prop} (h : Fr a n f) (hs : pn ft n all o f = some f') (k : ∀ a', Fr a' n f' → wpList P all Q rest a' w) : wpList P all Q (o :: rest) a w := by
 obtain ⟨d, op, ty, ps, af, g⟩ := o
 unfold pn at hs
 dsimp only at hs
 split at hs
 ·split at hs
  ·split at hs
   ·injection hs with hs; subst hs
    exact yt h ‹_› ‹_› (tf hft h ‹_›) k
   ·cases hs
  ·cases hs
 ·split at hs
  ·split at hs
   ·injection hs with hs; subst hs
    exact CL h ‹_› ‹_› k
   ·cases hs
  ·cases hs
theorem bJ (hft : ∀ t i k, ft t i = some k → di P t i = some k) : ∀ (k : Nat) (p : Pt) (s : List It) (f : Nat → Option Value) (a : Act), Fr a n f → dy ft n k p s f = some (p', s', f') → (∀ a', Fr a' n f' → Pt.wp P Q p' s' a' w) → Pt.wp P Q p s a w
 | 0, p, s, f, a, h, hr, kk => by
  simp only [dy, Option.some.injEq, Prod.mk.injEq] at hr
  obtain ⟨rfl, rfl, rfl⟩ := hr
  exact kk a h
 | k + 1, .code c, s, f, a, h, hr, kk => by
  unfold dy at hr
  split at hr
  ·exact wp_seq (bJ hft k _ (.seq _ :: s) f a h hr kk)
  ·exact wp_block (bJ hft k _ (.blk _ :: s) f a h hr kk)
  ·exact wp_skip (bJ hft k _ s f a h hr kk)
  ·exact wp_ret (bJ hft k _ s f a h hr kk)
  ·exact wp_exit (bJ hft k _ s f a h hr kk)
  ·split at hr
   ·exact oh h ‹_› (bJ hft k _ s f a h hr kk)
   ·exact od h ‹_› (bJ hft k _ s f a h hr kk)
   ·cases hr
  ·exact wp_region_lit (bJ hft k _ s f a h hr kk)
  ·cases hr
 | k + 1, .ops all rest, s, f, a, h, hr, kk => by
  unfold dy at hr
  split at hr
  ·have ih := bJ hft k _ _ f a h hr kk
   exact (wA ih : wpList P all (stk P Q s) [] a w)
  ·split at hr
   ·exact xV hft h ‹_› (fun a' h' => bJ hft k _ s _ a' h' hr kk)
   ·cases hr
 | k + 1, .ex e, s, f, a, h, hr, kk => by
  unfold dy at hr
  split at hr
  ·cases hr
  ·split at hr
   ·have ih := bJ hft k _ _ f a h hr kk
    exact ih
   ·have ih := bJ hft k _ _ f a h hr kk
    exact ih
   ·have ih := bJ hft k _ _ f a h hr kk
    exact ih
   ·cases hr
  ·split at hr
   ·have ih := bJ hft k _ _ f a h hr kk
    exact ih
   ·split at hr
    ·rename_i hb
     have := Nat.eq_of_beq_eq_true hb
     subst this
     have := bJ hft k _ _ f a h hr kk
     simp only [Pt.wp, stk, Exit.inBlock, if_true] at this ⊢
     exact this
    ·rename_i hb
     have hne := Nat.ne_of_beq_eq_false hb
     have := bJ hft k _ _ f a h hr kk
     simp only [Pt.wp, stk, Exit.inBlock, if_neg hne] at this ⊢
     exact this
   ·have ih := bJ hft k _ _ f a h hr kk
    exact ih
   ·cases hr
end
def ftG : List (Nat × Nat × Nat) → Nat → Nat → Option Nat
 | [], _, _ => none
 |(t, i, k) :: r, t', i' => match Nat.beq t t' with
  |true => match Nat.beq i i' with
   | true => some k
   | false => ftG r t' i'
  | false => ftG r t' i'
def ftB (P : Program) : List (Nat × Nat × Nat) → Bool
 | [] => true
 | (t, i, k) :: r => (di P t i == some k) && ftB P r
theorem sK {P : Program} : ∀ (l : List (Nat × Nat × Nat)), ftB P l = true → ∀ t i k, ftG l t i = some k → di P t i = some k
 | [], _, _, _, _, h => by cases h
 | (t0, i0, k0) :: r, hb, t, i, k, h => by
  simp only [ftB, Bool.and_eq_true, beq_iff_eq] at hb
  simp only [ftG] at h
  split at h
  ·rename_i e1
   split at h
   ·rename_i e2
    have := Nat.eq_of_beq_eq_true e1
    have := Nat.eq_of_beq_eq_true e2
    subst_vars
    rw [hb.1]; exact h
   ·exact sK r hb.2 t i k h
  ·exact sK r hb.2 t i k h
section
variable {P : Program} {Q : Exit → Act → World → Prop} {a : Act} {w w' : World} {n : Nat} {f f' : Nat → Option Value} {p p' : Pt} {s s' : List It} {all : Array Oper} {rest : List Oper} {d : Option Tmp} {op : Op} {ty : TypeId} {ps : String} {af : Array Edge} {g : Option (Nat × Bool)} {v : Value}
theorem rV (h : Fr a n f) (hw : (cw f all g && cf d n) = true) (he : Runs P a ty op w (.value v) w') (k : ∀ a', Fr a' n (upo f d v) → Pt.wp P Q (.ops all rest) s a' w') : Pt.wp P Q (.ops all (⟨d, op, ty, ps, af, g⟩ :: rest)) s a w := yt h (Bool.and_eq_true_iff.1 hw).1 (Bool.and_eq_true_iff.1 hw).2 he k
theorem rS (h : Fr a n f) (hw : (cw f all g && cf d n) = true) (he : Runs P a ty op w .skip w') (k : ∀ a', Fr a' n (upo f d undef) → Pt.wp P Q (.ops all rest) s a' w') : Pt.wp P Q (.ops all (⟨d, op, ty, ps, af, g⟩ :: rest)) s a w := CV h (Bool.and_eq_true_iff.1 hw).1 (Bool.and_eq_true_iff.1 hw).2 he k
theorem rC {fid : FuncId} {args : List Operand} {tys : Array TypeId} {vs : List Value} {R : Ending → World → Prop} (h : Fr a n f) (hw : (cw f all g && cf d n) = true) (hv : jh f args = some vs) (he : aU P fid = true)
 (hC : Calls P fid vs.toArray w R) (k : ∀ e w', R e w' → ∃ v, e = .returned v ∧ ∀ a', Fr a' n (upo f d v) → Pt.wp P Q (.ops all rest) s a' w') :
 Pt.wp P Q (.ops all (⟨d, .call { callee := .value (.func fid), args := args.toArray, argTypes := tys }, ty, ps, af, g⟩ :: rest)) s a w := CN h (Bool.and_eq_true_iff.1 hw).1 (Bool.and_eq_true_iff.1 hw).2 hv he hC k
theorem rL {c : Code} (I : Nat → Act → World → Prop) (n₀ : Nat) (h₀ : I n₀ a w) (round : ∀ n a w, I n a w → Pt.wp P (Exit.then (fun a' w' => ∃ n', n' < n ∧ I n' a' w') (stk P Q s)) (.code c) [] a w) : Pt.wp P Q (.code (.loop c)) s a w := wp_loop_ghost I n₀ h₀ round
theorem rX {K : Act → World → Prop} (h : K a w) : Pt.wp P (Exit.then K Q) (.ex .normal) [] a w := h
theorem rO {K : Act → World → Prop} {i : Nat} (h : Pt.wp P Q (.ex (.exit i)) s a w) : Pt.wp P (Exit.then K (stk P Q s)) (.ex (.exit i)) [] a w := h
theorem rD {id : Nat} {l : List Oper} (S : World → Prop) (m sz : Nat) (hsz : l.length = sz) (hm : P.follows .mixedOrders = true) (hs : Region.noSelect l.toArray = true)
 (k : ∀ w', Chg [] w w' → Region.noSelect l.toArray = true → wpAnyL P .any l.toArray (NoPanic (stk P Q s)) S m sz (Array.replicate sz false) a w') : Pt.wp P Q (.code (.region id l.toArray true)) s a w := xy S m sz hsz hm hs k
theorem rN {S : World → Prop} {m fuel : Nat} {listed : Array Bool} (hr : Region.ready .any all listed = []) (k : Pt.wp P Q (.ex .normal) s a w) : wpAnyL P .any all (NoPanic (stk P Q s)) S m fuel listed a w := zz hr k
theorem rE {fid : FuncId} {fn : Func} {c : Code} {args : List Value} {R : Ending → World → Prop} (N : Nat) (hf : P.funcs[fid]? = some fn) (hb : fn.body = some c) (hN : fn.ntmps = N) (hl : Nat.ble args.length N = true)
 (k : ∀ a, Fr a N (fun i => args[i]?) → Pt.wp P (bodyPost P fn R) (.code c) [] a w) : Calls P fid args.toArray w R := xK N hf hb hN hl k
theorem rT {fn : Func} {R : Ending → World → Prop} {rs : List ResultVar} {vs : List Value} (h : Fr a n f) (hr : fn.results = rs.toArray) (hv : jc P f w rs vs) (hR : R (.returned (iC vs)) w) : Pt.wp P (bodyPost P fn R) (.ex .ret) [] a w := ret_of h hr hv hR
theorem rF {fn : Func} {R : Ending → World → Prop} {rs : List ResultVar} {vs : List Value} (h : Fr a n f) (hr : fn.results = rs.toArray) (hv : jc P f w rs vs) (hR : R (.returned (iC vs)) w) : Pt.wp P (bodyPost P fn R) (.ex .normal) [] a w := AE h hr hv hR
end
def vv (ops : Array Oper) (m : Nat) : List Nat → Array Bool → Bool
 | [], _ => true
 | i :: r, l => (!(Nat.beq i m) && Region.free .any ops l i && (Region.ready .any ops l).contains i) && vv ops m r (l.setIfInBounds i true)
def yv : List Nat → Array Bool → Array Bool
 | [], l => l
 | i :: r, l => yv r (l.setIfInBounds i true)
def rg (ft : Nat → Nat → Option Nat) (n : Nat) (ops : Array Oper) : List Nat → (Nat → Option Value) → Option (Nat → Option Value)
 | [], f => some f
 |i :: r, f => match ops[i]? with
  |some o => match pn ft n ops o f with
   | some f' => rg ft n ops r f'
   | none => none
  | none => none
theorem yl {l : Array Bool} {i m : Nat} (h : Nat.beq i m = false) (hm : l.getD m false = true) : (l.setIfInBounds i true).getD m false = true := by
 have hne : i ≠ m := Nat.ne_of_beq_eq_false h
 rw [Array.getD_eq_getD_getElem?] at hm ⊢
 rw [Array.getElem?_setIfInBounds, if_neg hne]; exact hm
theorem yU {P : Program} {Q : Exit → Act → World → Prop} {w : World} {n : Nat} {f' : Nat → Option Value} {ops : Array Oper} {S : World → Prop} {m : Nat} {ft : Nat → Nat → Option Nat} (hft : ∀ t i k, ft t i = some k → di P t i = some k) (hs : Region.noSelect ops = true) : ∀ (is : List Nat) (fuel : Nat) (listed : Array Bool) (f : Nat → Option Value) (a : Act), vv ops m is listed = true → Fr a n f → rg ft n ops is f = some f' → (S w ∨ listed.getD m false = true) → (∀ a', Fr a' n f' → wpAnyL P .any ops (NoPanic Q) S m fuel (yv is listed) a' w) → wpAnyL P .any ops (NoPanic Q) S m (fuel + is.length) listed a w
 | [], fuel, listed, f, a, hc, h, hr, hS, k => by
  simp only [rg, Option.some.injEq] at hr
  subst hr; exact k a h
 | i :: r, fuel, listed, f, a, hc, h, hr, hS, k => by
  simp only [vv, Bool.and_eq_true, Bool.not_eq_true'] at hc
  obtain ⟨⟨⟨h1, h2⟩, h3⟩, h4⟩ := hc
  unfold rg at hr
  split at hr
  ·rename_i o ho
   obtain ⟨d, op, ty, ps, af, g⟩ := o
   split at hr
   ·rename_i f1 hf1
    have hS' : S w ∨ (listed.setIfInBounds i true).getD m false = true := hS.imp id (yl h1)
    have go : ∀ a', Fr a' n f1 → wpAnyL P .any ops (NoPanic Q) S m (fuel + r.length) (listed.setIfInBounds i true) a' w := fun a' h' => yU hft hs r fuel _ f1 a' h4 h' hr hS' k
    show wpAnyL P .any ops (NoPanic Q) S m (fuel + r.length + 1) listed a w
    unfold pn at hf1
    dsimp only at hf1
    split at hf1
    ·split at hf1
     ·rename_i v hv
      split at hf1
      ·injection hf1 with e; subst e
       exact dl_v i h1 ho hs h2 h3 h ‹_› ‹_› hS (fun w' => tf hft h hv) go
      ·cases hf1
     ·cases hf1
    ·split at hf1
     ·split at hf1
      ·injection hf1 with e; subst e
       exact CQ i h1 ho hs h2 h3 h ‹_› ‹_› hS go
      ·cases hf1
     ·cases hf1
   ·cases hr
  ·cases hr
abbrev zT : List Value := [.int .i64 0, .string ⟨([] : List UInt8).toArray⟩, .slice none 0 0, .slice none 0 0]
theorem Chg.t0 {X : List Nat} {w w1 w2 : World} (h : Chg X w w1) (k : Chg [] w1 w2) : Chg X w w2 := h.trans k Bp
theorem Chg.n1 {X : List Nat} {w w1 w2 : World} {c : Nat} (h : Chg X w w1) (k : Chg [c] w1 w2) (g : w.heap.size ≤ c) : Chg X w w2 := h.trans k (allc (.inr g) Bp)
section
variable {w w1 : World} {b c : Nat} {t : TypeId} {cs : List Value}
theorem Blk.c0 (h : Blk w b t cs) (hx : Chg [] w w1) : Blk w1 b t cs := h.chg hx nm0
end
theorem eT (a : Act) (w : World) (ty : TypeId) : ∃ w' b, Runs Tryz.prog a ty (.alloc 29) w (.value (.pointer (some ⟨b, 0, none⟩))) w' ∧ Blk w' b 29 zT ∧ Chg [] w w' ∧ b = w.heap.size ∧ b < w'.heap.size := rk zT (by kernel_rfl) a w ty
section
variable {a : Act} {w : World} {n : Nat} {f : Nat → Option Value} {tb : TypeId} {b o : Nat} {v : Value} {vs cs : List Value}
theorem eN (x y : Operand) (h : Fr a n f) (hx : aq f x = some (.pointer (some ⟨b, 0, none⟩))) (hy : aq f y = some (.agg vs.toArray)) (hv : vs.length = 4) (hone : vs.all (·.oneCell') = true) (hb : Blk w b tb cs) (hm : cs.length = 4) (ty : TypeId) :
 ∃ w', Runs Tryz.prog a ty (.store 29 x y) w .skip w' ∧ Blk w' b tb vs ∧ Chg [b] w w' := wa (m := 4) h hx hy (by kernel_rfl) hv hone hb hm ty
theorem eS (t : TypeId) (x y : Operand) (h : Fr a n f) (hx : aq f x = some (.pointer (some ⟨b, o, none⟩))) (hy : aq f y = some v) (hz : bq Tryz.prog t = some 1) (h1 : v.oneCell' = true) (hb : Blk w b tb cs) (ho : Nat.ble (o + 1) cs.length = true) (ty : TypeId) :
 ∃ w', Runs Tryz.prog a ty (.store t x y) w .skip w' ∧ Blk w' b tb (cs.set o v) ∧ Chg [b] w w' := ss h hx hy hz h1 hb (Nat.le_of_ble_eq_true ho) ty
end
theorem dL {Q : Exit → Act → World → Prop} {a : Act} {w : World} {n : Nat} {f : Nat → Option Value} {ops : Array Oper} {d : Option Tmp} {op : Op} {ty : TypeId} {ps : String} {af : Array Edge} {g : Option (Nat × Bool)} {v : Value} {P : Program} {S : World → Prop} {m fuel : Nat} {listed : Array Bool} (i : Nat) (him : Nat.beq i m = false) (hi : ops[i]? = some ⟨d, op, ty, ps, af, g⟩) (hs : Region.noSelect ops = true) (hf : (fq .any ops m i && !listed.getD m false && Region.free .any ops listed i && (Region.ready .any ops listed).contains i) = true)
  (h : Fr a n f) (hw : (cw f ops g && cf d n) = true) (hS : S w) (he : ∀ w', S w' → Runs P a ty op w' (.value v) w')
  (k : ∀ a', Fr a' n (upo f d v) → wpAnyL P .any ops (NoPanic Q) S m fuel (listed.setIfInBounds i true) a' w) : wpAnyL P .any ops (NoPanic Q) S m (fuel + 1) listed a w := by
 simp only [Bool.and_eq_true, Bool.not_eq_true'] at hf
 exact CY i him hf.1.1.1 hf.1.1.2 hi hs hf.1.2 hf.2 h (Bool.and_eq_true_iff.1 hw).1 (Bool.and_eq_true_iff.1 hw).2 hS he k
abbrev wR := @wp_region_lit
abbrev wS := @wp_seq_k
abbrev sN := @wA
abbrev cdT := @oh
abbrev cdF := @od
abbrev nlt := @Nat.le_trans
theorem qA {α : Type} [BEq α] [LawfulBEq α] {a b : α} : (a == b) = false ↔ a ≠ b := beq_eq_false_iff_ne
theorem qB {α : Type} [BEq α] [LawfulBEq α] {a b : α} : (a == b) = true ↔ a = b := beq_iff_eq
theorem qC {α : Type} [BEq α] [LawfulBEq α] {a b : α} : (a != b) = true ↔ a ≠ b := bne_iff_ne
theorem qD {α : Type} [BEq α] [LawfulBEq α] {a b : α} : (a != b) = false ↔ a = b := bne_eq_false_iff_eq
theorem qE {p : Prop} [Decidable p] : (decide p = true) ↔ p := decide_eq_true_iff
theorem qF {p : Prop} [Decidable p] : (decide p = false) ↔ ¬ p := decide_eq_false_iff_not
section
variable {P : Program} {ops : Array Oper} {Q : Exit → Act → World → Prop} {a : Act} {w w' : World} {rest : List Oper} {n : Nat} {f : Nat → Option Value} {ty : TypeId} {d : Option Tmp} {op : Op} {ps : String} {af : Array Edge} {g : Option (Nat × Bool)} {v : Value} {x : Operand}
theorem sV (h : Fr a n f) (hw : (cw f ops g && cf d n) = true) (he : Runs P a ty op w (.value v) w') (k : ∀ a', Fr a' n (upo f d v) → wpList P ops Q rest a' w') : wpList P ops Q (⟨d, op, ty, ps, af, g⟩ :: rest) a w := yt h (Bool.and_eq_true_iff.1 hw).1 (Bool.and_eq_true_iff.1 hw).2 he k
theorem sA (h : Fr a n f) (hw : (cw f ops g && cf d n) = true) (hx : aq f x = some v) (k : ∀ a', Fr a' n (upo f d v) → wpList P ops Q rest a' w) : wpList P ops Q (⟨d, .assign x, ty, ps, af, g⟩ :: rest) a w := sV h hw (mM h hx) k
theorem sM (h : Fr a n f) (hw : (cw f ops g && cf d n) = true) (hx : aq f x = some v) (k : ∀ a', Fr a' n (upo f d v) → wpList P ops Q rest a' w) : wpList P ops Q (⟨d, .move x, ty, ps, af, g⟩ :: rest) a w := sV h hw (ny h hx) k
variable {S : World → Prop} {m fuel : Nat} {listed : Array Bool}
theorem dV (i : Nat) (him : Nat.beq i m = false) (hi : ops[i]? = some ⟨d, op, ty, ps, af, g⟩) (hs : Region.noSelect ops = true) (hf : (Region.free .any ops listed i && (Region.ready .any ops listed).contains i) = true)
    (h : Fr a n f) (hw : (cw f ops g && cf d n) = true) (hS : S w ∨ listed.getD m false = true) (he : ∀ w', Runs P a ty op w' (.value v) w')
    (k : ∀ a', Fr a' n (upo f d v) → wpAnyL P .any ops (NoPanic Q) S m fuel (listed.setIfInBounds i true) a' w) : wpAnyL P .any ops (NoPanic Q) S m (fuel + 1) listed a w :=
  dl_v i him hi hs (Bool.and_eq_true_iff.1 hf).1 (Bool.and_eq_true_iff.1 hf).2 h (Bool.and_eq_true_iff.1 hw).1 (Bool.and_eq_true_iff.1 hw).2 hS he k
theorem dM (i : Nat) (him : Nat.beq i m = false) (hi : ops[i]? = some ⟨d, .move x, ty, ps, af, g⟩) (hs : Region.noSelect ops = true) (hf : (Region.free .any ops listed i && (Region.ready .any ops listed).contains i) = true)
    (h : Fr a n f) (hw : (cw f ops g && cf d n) = true) (hS : S w) (hx : aq f x = some v)
    (k : ∀ a', Fr a' n (upo f d v) → wpAnyL P .any ops (NoPanic Q) S m fuel (listed.setIfInBounds i true) a' w) : wpAnyL P .any ops (NoPanic Q) S m (fuel + 1) listed a w :=
  dV i him hi hs hf h hw (.inl hS) (fun _ => ny h hx) k
end
abbrev TT : TypeId := 29
mutual
def NestC (w : World) : Nat → Nat → Tree → List Value → Prop
 | lo, hi, .node k s _ ks, c => ∃ B n g cs, c = [.int .i64 k, ch s, .slice none 0 0, .slice B ks.length n] ∧ ks.length ≤ n ∧ n ≤ maxLen ∧ lo ≤ hi ∧ (ks ≠ [] → B = some ⟨g, 0, none⟩ ∧ lo ≤ g ∧ g < hi ∧ Blk w g TT cs) ∧ NestK w (g + 1) hi ks cs
def NestK (w : World) : Nat → Nat → List Tree → List Value → Prop
 | lo, hi, [], cs => cs = []
 | lo, hi, t :: r, cs => ∃ c d mid, cs = c ++ d ∧ lo ≤ mid ∧ mid ≤ hi ∧ NestC w lo mid t c ∧ NestK w mid hi r d
end
section
variable {w w' : World}
theorem kz {b : Nat} {t : TypeId} {cs : List Value} (h : w'.heap[b]? = w.heap[b]?) (k : Blk w b t cs) : Blk w' b t cs := h.trans k
mutual
theorem NestC.keep : ∀ {lo hi : Nat} {t : Tree} {c : List Value}, (∀ x, lo ≤ x → x < hi → w'.heap[x]? = w.heap[x]?) → NestC w lo hi t c → NestC w' lo hi t c
 | lo, hi, .node k s ls ks, c, hk, h => by
  simp only [NestC] at h ⊢
  obtain ⟨B, n, g, cs, e, h1, h2, h3, h4, h5⟩ := h
  by_cases hn : ks = []
  ·subst hn
   exact ⟨B, n, g, cs, e, h1, h2, h3, fun h => absurd rfl h, by simpa only [NestK] using h5⟩
  ·obtain ⟨e1, e2, e3, e4⟩ := h4 hn
   exact ⟨B, n, g, cs, e, h1, h2, h3, fun _ => ⟨e1, e2, e3, kz (hk g e2 e3) e4⟩, NestK.keep (fun x h1 h2 => hk x (by omega) h2) h5⟩
theorem NestK.keep : ∀ {lo hi : Nat} {ts : List Tree} {cs : List Value}, (∀ x, lo ≤ x → x < hi → w'.heap[x]? = w.heap[x]?) → NestK w lo hi ts cs → NestK w' lo hi ts cs
 | lo, hi, [], cs, hk, h => by simpa only [NestK] using h
 | lo, hi, t :: r, cs, hk, h => by
  simp only [NestK] at h ⊢
  obtain ⟨c, d, mid, e, h1, h2, h3, h4⟩ := h
  exact ⟨c, d, mid, e, h1, h2, NestC.keep (fun x g1 g2 => hk x g1 (by omega)) h3, NestK.keep (fun x g1 g2 => hk x (by omega) g2) h4⟩
end
theorem NestC.lo_ {lo lo' hi : Nat} {t : Tree} {c : List Value} (h : NestC w lo hi t c) (hl : lo' ≤ lo) : NestC w lo' hi t c := by
 obtain ⟨k, s, ls, ks⟩ := t
 simp only [NestC] at h ⊢
 obtain ⟨B, n, g, cs, e, h1, h2, h3, h4, h5⟩ := h
 exact ⟨B, n, g, cs, e, h1, h2, by omega, fun hn => by obtain ⟨e1, e2, e3, e4⟩ := h4 hn; exact ⟨e1, by omega, e3, e4⟩, h5⟩
theorem NestC.le {lo hi : Nat} {t : Tree} {c : List Value} (h : NestC w lo hi t c) : lo ≤ hi := by
 obtain ⟨k, s, ls, ks⟩ := t
 simp only [NestC] at h
 obtain ⟨B, n, g, cs, e, h1, h2, h3, h4, h5⟩ := h
 exact h3
theorem NestC.four {lo hi : Nat} {t : Tree} {c : List Value} (h : NestC w lo hi t c) : c.length = 4 := by
 obtain ⟨k, s, ls, ks⟩ := t
 simp only [NestC] at h
 obtain ⟨B, n, g, cs, e, _⟩ := h
 rw [e]; rfl
theorem NestC.one {lo hi : Nat} {t : Tree} {c : List Value} (h : NestC w lo hi t c) : c.all (·.oneCell') = true := by
 obtain ⟨k, s, ls, ks⟩ := t
 simp only [NestC] at h
 obtain ⟨B, n, g, cs, e, _⟩ := h
 rw [e]; rfl
theorem NestK.length : ∀ {ts : List Tree} {lo hi : Nat} {cs : List Value}, NestK w lo hi ts cs → cs.length = ts.length * 4
 | [], lo, hi, cs, h => by simp only [NestK] at h; simp [h]
 | t :: r, lo, hi, cs, h => by
  simp only [NestK] at h
  obtain ⟨c, d, mid, e, h1, h2, h3, h4⟩ := h
  have := NestK.length h4
  have := h3.four
  rw [e]; simp; omega
theorem NestK.hi_ : ∀ {ts : List Tree} {lo hi hi' : Nat} {cs : List Value}, NestK w lo hi ts cs → hi ≤ hi' → NestK w lo hi' ts cs
 | [], lo, hi, hi', cs, h, hl => by simpa only [NestK] using h
 | t :: r, lo, hi, hi', cs, h, hl => by
  simp only [NestK] at h ⊢
  obtain ⟨c, d, mid, e, h1, h2, h3, h4⟩ := h
  exact ⟨c, d, mid, e, h1, by omega, h3, NestK.hi_ h4 hl⟩
theorem NestK.snoc : ∀ {ts : List Tree} {lo mid hi : Nat} {cs c : List Value} {t : Tree}, NestK w lo mid ts cs → NestC w mid hi t c → lo ≤ mid → mid ≤ hi → NestK w lo hi (ts ++ [t]) (cs ++ c)
 | [], lo, mid, hi, cs, c, t, h, hc, h1, h2 => by
  simp only [NestK] at h
  subst h
  simp only [List.nil_append, NestK]
  exact ⟨c, [], hi, by simp, by omega, Nat.le_refl _, hc.lo_ h1, rfl⟩
 | u :: r, lo, mid, hi, cs, c, t, h, hc, h1, h2 => by
  simp only [NestK] at h
  obtain ⟨c', d, m, e, g1, g2, g3, g4⟩ := h
  simp only [List.cons_append, NestK]
  exact ⟨c', d ++ c, m, by rw [e]; simp, g1, by omega, g3, NestK.snoc g4 hc g2 h2⟩
end
section
variable {P : Program} {a : Act} {w : World} {n : Nat} {f : Nat → Option Value} {S : Nat → Prop}
theorem zD {x y : Operand} {A : Option Addr} {m : Nat} {ls : List (List UInt8)} {t e : TypeId} {by_ : Nat} {z : Value} (h : Fr a n f) (hx : aq f x = some (.slice none 0 0)) (hy : aq f y = some (.slice A ls.length m)) (hrow : RowIn S w 1 A ls.length (ls.map ch)) (hl : ls.length ≤ 1000000000)
  (ht : P.underlying t = some (.slice e)) (hi : (P.info? e).map (fun i => (i.zero, i.size, i.bytes)) = some (some z, 1, by_)) (hzs : z.cells.size = 1) (hb : Nat.ble by_ 64 = true) (ty : TypeId) :
  ∃ A' m' w', Runs P a ty (.call { callee := .builtin .append, args := #[x, y], argTypes := #[t, t] }) w (.value (.slice A' ls.length m')) w' ∧ ls.length ≤ m' ∧ m' ≤ maxLen ∧ RowIn (fun b => w.heap.size ≤ b) w' 1 A' ls.length (ls.map ch) ∧ Chg [] w w' := by
 have hb' : by_ ≤ 64 := Nat.le_of_ble_eq_true hb
 obtain ⟨i0, hi0, hx0⟩ := Option.map_eq_some_iff.1 hi
 simp only [Prod.mk.injEq] at hx0
 obtain ⟨hz, hs, hbb⟩ := hx0
 have hsize : bq P e = some 1 := by simp [bq, hi0, hs]
 by_cases hn : ls = []
 ·subst hn
  refine ⟨none, 0, w, fun _ _ _ _ => ?_, Nat.le_refl _, Nat.zero_le _, RowIn.none_, Chg.refl _ _⟩
  simp only [execOp, resolve, invoke, builtin, List.map_toArray, List.map_cons, List.map_nil, h.eval hx, h.eval hy]
  have := kO (P := P) (w := w) (ty := ty) (A := none) (B := A) (k := 0) (c := 0) (d := m) ht hsize (Nat.le_refl _)
  simp only [List.length_nil]
  simp [this]
 ·have hpos : 0 < ls.length := List.length_pos_iff.2 hn
  obtain ⟨b, off, rfl, _, _, hc⟩ := hrow.2 hpos
  have hlen : (ls.map ch).length = ls.length * 1 := by simp
  have h63 : 0 + ls.length ≤ maxLen := by simp only [maxLen]; omega
  have hby : (0 + ls.length) * by_ ≤ 140737488355328 := by
   have := Nat.mul_le_mul hl hb'
   rw [Nat.zero_add]; omega
  obtain ⟨v', w', hrun, h2, h3, _, h5⟩ := run_append_own_at (P := P) w w.heap.size t ty e i0 z 1 by_ ht hi0 hz hs hbb hzs (by omega) (.slice none 0 0) 0 [] (World.ownsRow_nil w _ e 1) ⟨b, off, none⟩ ls.length m (ls.map ch) hlen
   (fun j q hq => by
    have hj : j < (ls.map ch).length := (List.getElem?_eq_some_iff.1 hq).1
    rw [fH, hc j (by rw [← hlen]; exact hj)]; exact hq) (fun u hu => by simp only [List.mem_map] at hu; obtain ⟨_, _, rfl⟩ := hu; rfl) h63 hby (Nat.le_refl _)
  rw [Nat.zero_add] at h2
  rw [List.nil_append] at h2
  obtain ⟨A', m', rfl, hm1, hm2⟩ := wZ h2
  refine ⟨A', m', w', fun _ _ _ _ => ?_, hm1, hm2, RowIn.of_own h2, Chg.grown h3⟩
  simp only [execOp, resolve, invoke, builtin, List.map_toArray, List.map_cons, List.map_nil, h.eval hx, h.eval hy]
  simp [hrun]
end
theorem xW {pre post : List Value} {x0 x1 x2 x3 u : Value} : (pre ++ [x0, x1, x2, x3] ++ post).set (pre.length + 2) u = pre ++ [x0, x1, u, x3] ++ post := by
 rw [List.append_assoc, List.set_append_right _ _ (by omega)]
 simp
theorem sh (pre post : List Value) (x0 x1 x2 x3 : Value) : (pre ++ [x0, x1, x2, x3] ++ post)[pre.length + 3]? = some x3 := by
 rw [List.append_assoc, List.getElem?_append_right (by omega)]
 simp
section
variable {P : Program}
theorem we {a : Act} {w : World} {n : Nat} {f : Nat → Option Value} {t tb : TypeId} {x y : Operand} {b o m : Nat} {vs pre old post : List Value} (h : Fr a n f) (hx : aq f x = some (.pointer (some ⟨b, o, none⟩))) (hy : aq f y = some (.agg vs.toArray)) (hz : bq P t = some m) (hv : vs.length = m) (hone : vs.all (·.oneCell') = true) (hb : Blk w b tb (pre ++ old ++ post)) (hp : pre.length = o) (hm : old.length = m) (ty : TypeId) :
  ∃ w', Runs P a ty (.store t x y) w .skip w' ∧ Blk w' b tb (pre ++ vs ++ post) ∧ Chg [b] w w' := by
 obtain ⟨i, hi, hs⟩ := Option.map_eq_some_iff.1 (show (P.info? t).map (·.size) = some m from hz)
 subst hp
 have key : ∀ (l : List Value) (j : Nat) (w : World) (cs : List Value), Blk w b tb cs → pre.length + j + l.length ≤ cs.length → l.all (·.oneCell') = true → ∃ w', (storeCells ⟨b, pre.length, none⟩ l j).run P w = .ok () w' ∧ Blk w' b tb (cs.take (pre.length + j) ++ l ++ cs.drop (pre.length + j + l.length)) ∧ Chg [b] w w' := by
  intro l
  induction l with
  | nil => intro j w cs hb hj _; exact ⟨w, by simp [storeCells], by simpa using hb, Chg.refl _ _⟩
  | cons c r ih =>
   intro j w cs hb hj hone
   simp only [List.all_cons, Bool.and_eq_true] at hone
   simp only [List.length_cons] at hj
   have ho : pre.length + j < cs.length := by omega
   have hc : w.cell? ⟨b, pre.length + j, none⟩ = some cs[pre.length + j] := by rw [hb.cell]; simp [ho]
   have hfz := hb.frozen (pre.length + j)
   have ha : (⟨b, pre.length, none⟩ : Addr).add j = ⟨b, pre.length + j, none⟩ := fH _ _ _
   obtain ⟨w2, h1, h2, h3⟩ := ih (j + 1) (w.setCell ⟨b, pre.length + j, none⟩ c) (cs.set (pre.length + j) c) (hb.set _ c) (by simp; omega) hone.2
   refine ⟨w2, ?_, ?_, (Chg.set w b _ c).trans h3 (fun x hx => .inl hx)⟩
   ·simp only [storeCells, ha]
    have hst := run_store P w ⟨b, pre.length + j, none⟩ c .plain hone.1
    simp [hst, stored, hc, hfz]
    exact h1
   ·have e1 : (cs.set (pre.length + j) c).take (pre.length + (j + 1)) = cs.take (pre.length + j) ++ [c] := by
     rw [← Nat.add_assoc, List.take_succ_eq_append_getElem (by simpa using ho), List.take_set_of_le (Nat.le_refl _)]
     simp
    have e2 : (cs.set (pre.length + j) c).drop (pre.length + (j + 1) + r.length) = cs.drop (pre.length + j + (r.length + 1)) := by
     rw [List.drop_set_of_lt (by omega)]; congr 1; omega
    rw [e1, e2] at h2
    simpa using h2
 obtain ⟨w1, h1, h2, h3⟩ := key vs 0 w _ hb (by simp; omega) hone
 have e1 : (pre ++ old ++ post).take (pre.length + 0) = pre := by simp
 have e2 : (pre ++ old ++ post).drop (pre.length + 0 + vs.length) = post := by
  have : pre.length + 0 + vs.length = (pre ++ old).length := by simp; omega
  rw [this]; simp
 rw [e1, e2] at h2
 refine ⟨w1, fun _ _ _ _ => ?_, h2, h3⟩
 simp only [execOp, h.eval hx, h.eval hy]
 simp [Instr.storeAt, Instr.sureAddr, storeVar, sizeOf, typeInfo, hi, hs, hv, Value.cells, h1]
end
def rn (ft : Nat → Nat → Option Nat) (n : Nat) : Nat → Pt → List It → (Nat → Option Value) → Pt × List It × (Nat → Option Value)
 | 0, p, s, f => (p, s, f)
 |k + 1, p, s, f => match dy ft n 1 p s f with
  | some (p', s', f') => rn ft n k p' s' f'
  | none => (p, s, f)
def ftR : Nat → Nat → Option Nat := ftG [(TT, 3, 3), (TT, 2, 2), (TT, 1, 1), (TT, 0, 0)]
theorem wN : ∀ t i k, ftR t i = some k → di Tryz.prog t i = some k := sK _ (by kernel_rfl)
section
variable {Q : Exit → Act → World → Prop} {a : Act} {w : World} {n : Nat} {f f' : Nat → Option Value} {p p' : Pt} {s s' : List It}
theorem tJ : ∀ (k : Nat) (p : Pt) (s : List It) (f : Nat → Option Value) (a : Act), Fr a n f → rn ftR n k p s f = (p', s', f') → (∀ a', Fr a' n f' → Pt.wp Tryz.prog Q p' s' a' w) → Pt.wp Tryz.prog Q p s a w
 | 0, p, s, f, a, h, hr, kk => by
  simp only [rn, Prod.mk.injEq] at hr
  obtain ⟨rfl, rfl, rfl⟩ := hr
  exact kk a h
 | k + 1, p, s, f, a, h, hr, kk => by
  simp only [rn] at hr
  split at hr
  ·rename_i p1 s1 f1 he
   exact bJ wN 1 p s f a h he fun a' h' => tJ k p1 s1 f1 a' h' hr kk
  ·simp only [Prod.mk.injEq] at hr
   obtain ⟨rfl, rfl, rfl⟩ := hr
   exact kk a h
theorem rG (k : Nat) (h : Fr a n f) (hr : rn ftR n k p s f = (p', s', f')) (kk : ∀ a', Fr a' n f' → Pt.wp Tryz.prog Q p' s' a' w) : Pt.wp Tryz.prog Q p s a w := tJ k p s f a h hr kk
theorem dG {fuel c : Nat} {ops : Array Oper} {S : World → Prop} {m : Nat} {listed : Array Bool} (is : List Nat) (hs : Region.noSelect ops = true) (hc : vv ops m is listed = true) (h : Fr a n f) (hl : is.length = c) (hr : rg ftR n ops is f = some f') (hS : S w ∨ listed.getD m false = true) (k : ∀ a', Fr a' n f' → wpAnyL Tryz.prog .any ops (NoPanic Q) S m fuel (yv is listed) a' w) : wpAnyL Tryz.prog .any ops (NoPanic Q) S m (fuel + c) listed a w := by
 subst hl; exact yU wN hs is fuel listed f a hc h hr hS k
end
theorem wT {S : Nat → Prop} {w : World} {ks : List Tree} {cs : List Value} {i : Nat} (hK : KidsAre S w ks cs) (hi : i < ks.length) : ∃ d0 d1 d2 d3, TreeIs S w ks[i] [d0, d1, d2, d3] ∧ ∀ j, j < 4 → cs[i * 4 + j]? = ([d0, d1, d2, d3] : List Value)[j]? := by
 obtain ⟨c0, c1, c2, c3, hT, h0, h1, h2, h3⟩ := hK.at_ hi
 refine ⟨c0, c1, c2, c3, hT, fun j hj => ?_⟩
 rcases (by omega : j = 0 ∨ j = 1 ∨ j = 2 ∨ j = 3) with rfl | rfl | rfl | rfl
 ·exact h0
 ·exact h1
 ·exact h2
 ·exact h3
theorem ry {ks : List Tree} {i : Nat} (hi : i < ks.length) : tbulk ks[i] ≤ kbulk ks := co (List.getElem?_eq_getElem hi)
def rc (t : Tree) : Prop := ∀ (w : World) (b : Nat) (pre c post ct : List Value) (lo hi : Nat) (Sf : Nat → Prop), tbulk t ≤ 1000000000 →
 Blk w b TT (pre ++ c ++ post) → NestC w lo hi t c → ¬ (lo ≤ b ∧ b < hi) → hi ≤ w.heap.size → TreeIs Sf w t ct → (∀ x, Sf x → x ≠ b ∧ ¬ (lo ≤ x ∧ x < hi)) →
 Calls Tryz.prog 54 #[.pointer (some ⟨b, pre.length, none⟩), .agg ct.toArray] w fun e w' => e = .returned (.tuple #[]) ∧ ∃ c', Blk w' b TT (pre ++ c' ++ post) ∧ ChgP (fun x => x = b ∨ (lo ≤ x ∧ x < hi)) w w' ∧ TreeIs (fun x => (lo ≤ x ∧ x < hi) ∨ w.heap.size ≤ x) w' t c'
def sd (t : Tree) : Prop := ∀ (w : World) (S : Nat → Prop) (ct : List Value), tbulk t ≤ 1000000000 → TreeIs S w t ct →
 Calls Tryz.prog 53 #[.agg ct.toArray] w fun e w' => ∃ c, e = .returned (.agg c.toArray) ∧ Chg [] w w' ∧ NestC w' w.heap.size w'.heap.size t c
theorem wg (t : Tree) (ih : ∀ (i : Nat) (u : Tree), t.kids[i]? = some u → sd u) : sd t := by
  obtain ⟨k, s, ls, ks⟩ := t
  intro w S ct hbk hT
  simp only [TreeIs] at hT
  obtain ⟨A, m, B', n', rfl, hm1, hm2, hm3, hm4, hA, kcs, hKT, hKR⟩ := hT
  simp only [Tree.kids] at ih
  simp only [tbulk] at hbk
  have hkl := du ks
  refine rE 36 Tryz.func53 rfl rfl rfl ?_
  intro a hf
  refine rG 60 hf rfl ?_
  clear hf a; intro a hf
  obtain ⟨w1, b1, he, hB1, hx1, e1, l1⟩ := pq (P := Tryz.prog) (t := TT) (x := (.tmp 0)) hf rfl rfl w 0
  refine rV hf rfl he ?_
  clear he hf a; intro a hf
  obtain ⟨w2, b2, he, hB2, hx2, e2, l2⟩ := eT a w1 0
  refine rV hf rfl he ?_
  clear he hf a; intro a hf
  replace hB1 := hB1.c0 hx2
  refine rG 60 hf rfl ?_
  clear hf a; intro a hf
  refine rV hf rfl (dD hf rfl (by kernel_rfl) hB1 rfl) ?_
  clear hf a; intro a hf
  refine rG 60 hf rfl ?_
  clear hf a; intro a hf
  refine rV hf rfl (dD hf rfl (by kernel_rfl) hB1 rfl) ?_
  clear hf a; intro a hf
  refine rV hf rfl (CE (z := zT) (os := [0, 1]) (cs := [.int .i64 k, ch s, .slice none 0 0, .slice none 0 0]) hf rfl (by kernel_rfl) (by kernel_rfl) (by kernel_rfl) rfl rfl) ?_
  clear hf a; intro a hf
  obtain ⟨w3, b3, he, hB3, hx3, e3, l3⟩ := eT a w2 0
  refine rV hf rfl he ?_
  clear he hf a; intro a hf
  replace hB1 := hB1.c0 hx3
  replace hB2 := hB2.c0 hx3
  obtain ⟨w4, he, hB3', hx4⟩ := eN (.tmp 3) (.tmp 10) hf rfl rfl rfl rfl hB3 rfl 0
  refine rS hf rfl he ?_
  clear he hf a; intro a hf
  clear hB3; have hB3 := hB3'
  clear hB3'
  have s1 := hx1.size
  have s2 := hx2.size
  have s3 := hx3.size
  have s4 := hx4.size
  replace hB1 := hB1.chg hx4 (by simp; omega)
  replace hB2 := hB2.chg hx4 (by simp; omega)
  have hC : Chg [] w w4 := ((hx1.t0 hx2).t0 hx3).n1 hx4 (by omega)
  clear hx1 hx2 hx3 hx4
  refine rG 60 hf rfl ?_
  clear hf a; intro a hf
  refine rV hf rfl (dD hf rfl (by kernel_rfl) hB1 rfl) ?_
  clear hf a; intro a hf
  refine rV hf rfl (jp hf Tryz.underlying27 rfl) ?_
  clear hf a; intro a hf
  have hfin : ∀ (B : Option Addr) (nn g : Nat) (cs : List Value) (w' : World), Chg [] w w' → ks.length ≤ nn → nn ≤ maxLen → (ks ≠ [] → B = some ⟨g, 0, none⟩ ∧ w.heap.size ≤ g ∧ g < w'.heap.size ∧ Blk w' g TT cs) → NestK w' (g + 1) w'.heap.size ks cs → NestC w' w.heap.size w'.heap.size (.node k s ls ks) [.int .i64 k, ch s, .slice none 0 0, .slice B ks.length nn] := fun B nn g cs w' h1 h2 h3 h4 h5 => by
    simp only [NestC]
    exact ⟨B, nn, g, cs, rfl, h2, h3, h1.size, h4, h5⟩
  by_cases hk0 : ks = []
  · skip
    subst hk0
    refine rV hf rfl (qJ (c := false) hf rfl rfl (by simp)) ?_
    clear hf a; intro a hf
    refine rG 60 hf rfl ?_
    clear hf a; intro a hf
    refine rV hf rfl (dD hf rfl (by kernel_rfl) hB1 rfl) ?_
    clear hf a; intro a hf
    refine rV hf rfl (jp hf Tryz.underlying27 rfl) ?_
    clear hf a; intro a hf
    refine rG 60 hf rfl ?_
    clear hf a; intro a hf
    refine rL (fun m a w' => m = 0 ∧ w' = w4 ∧ Fr a 36 (fm [(2, .pointer (some ⟨b2, 0, none⟩)), (3, .pointer (some ⟨b3, 0, none⟩)), (22, .int .i64 ((0 : Nat) : Int)), (23, .int .i64 0)])) 0 ⟨rfl, rfl, hf.pick ⟨rfl, rfl, rfl, rfl, trivial⟩⟩ ?_
    clear hf a
    rintro _ a _ ⟨rfl, rfl, hf⟩
    refine rG 60 hf rfl ?_
    clear hf a; intro a hf
    refine rV hf rfl (lK (c := false) hf rfl rfl (by simp)) ?_
    clear hf a; intro a hf
    refine rG 60 hf rfl ?_
    clear hf a; intro a hf
    refine rO ?_
    refine rG 60 hf rfl ?_
    clear hf a; intro a hf
    refine rV hf rfl (hO (m := 4) hf rfl (by kernel_rfl) hB3 rfl) ?_
    clear hf a; intro a hf
    obtain ⟨w9, he, hB2', hx9⟩ := eN (.tmp 2) (.tmp 35) hf rfl rfl rfl rfl hB2 rfl 0
    refine rS hf rfl he ?_
    clear he hf a; intro a hf
    refine rG 60 hf rfl ?_
    clear hf a; intro a hf
    exact rT (rs := [.cell 2 TT]) hf rfl ⟨_, _, _, _, _, rfl, rfl, by kernel_rfl, hB2', rfl, rfl⟩ ⟨_, rfl, hC.n1 hx9 (by omega), hfin none 0 0 [] w9 (hC.n1 hx9 (by omega)) (Nat.le_refl _) (Nat.zero_le _) (fun h => absurd rfl h) (by simp only [NestK])⟩
  have hpos : 0 < ks.length := List.length_pos_iff.2 hk0
  obtain ⟨kb, ko, rfl, hkS, hkb, hcell⟩ := hKR.2 hpos
  refine rV hf rfl (qJ (c := true) hf rfl rfl (by simp; omega)) ?_
  clear hf a; intro a hf
  refine rG 60 hf rfl ?_
  clear hf a; intro a hf
  refine rV hf rfl (dD hf rfl (by kernel_rfl) hB1 rfl) ?_
  clear hf a; intro a hf
  refine rV hf rfl (jp hf Tryz.underlying27 rfl) ?_
  clear hf a; intro a hf
  obtain ⟨C, hCd⟩ : ∃ C, C = (madeCells (Value.agg zT.toArray).cells (ks.length * 4)).toList := ⟨_, rfl⟩
  have hCl : C.length = ks.length * 4 := by rw [hCd, Array.length_toList, size_madeCells]
  obtain ⟨w5, g, he, hG, hx5, eg, lg⟩ := tM (P := Tryz.prog) (x := .tmp 17) (y := .tmp 17) (t := 27) (e := TT) (m := ks.length) (z := .agg zT.toArray) (sz := 4) (by_ := 72) (cs := C) hf rfl rfl Tryz.underlying27 (by kernel_rfl) (Nat.ble_eq_true_of_le (by omega)) (Nat.ble_eq_true_of_le (by omega)) (by rw [hCd]) w4 0
  refine rV hf rfl he ?_
  clear he hf a; intro a hf
  replace hB1 := hB1.c0 hx5
  replace hB2 := hB2.c0 hx5
  replace hB3 := hB3.c0 hx5
  refine rG 60 hf rfl ?_
  clear hf a; intro a hf
  obtain ⟨w6, he, hB3', hx6⟩ := eS 27 (.tmp 19) (.tmp 18) hf rfl rfl (by kernel_rfl) rfl hB3 rfl 0
  refine rS hf rfl he ?_
  clear he hf a; intro a hf
  clear hB3; have hB3 := hB3'
  clear hB3'
  have s5 := hx5.size
  have s6 := hx6.size
  replace hB1 := hB1.chg hx6 (by simp; omega)
  replace hB2 := hB2.chg hx6 (by simp; omega)
  replace hG := hG.chg hx6 (by simp; omega)
  replace hC : Chg [] w w6 := (hC.t0 hx5).n1 hx6 (by omega)
  clear hx5 hx6
  refine rG 60 hf rfl ?_
  clear hf a; intro a hf
  refine rV hf rfl (dD hf rfl (by kernel_rfl) hB1 rfl) ?_
  clear hf a; intro a hf
  refine rV hf rfl (jp hf Tryz.underlying27 rfl) ?_
  clear hf a; intro a hf
  refine rG 60 hf rfl ?_
  clear hf a; intro a hf
  have hg0 : w.heap.size ≤ g := by omega
  have hgb : g ≠ b2 ∧ g ≠ b3 ∧ b2 ≠ b3 := by omega
  have hl2 : w.heap.size ≤ b2 := by omega
  have hl3 : w.heap.size ≤ b3 := by omega
  have hlg : g + 1 ≤ w6.heap.size := hG.lt
  refine rL (fun m a w' => ∃ (i : Nat) (done rest : List Value) (mi : Nat), m = ks.length - i ∧ i ≤ ks.length ∧ Fr a 36 (fm [(2, .pointer (some ⟨b2, 0, none⟩)), (3, .pointer (some ⟨b3, 0, none⟩)), (21, .slice (some ⟨kb, ko, none⟩) ks.length n'), (22, .int .i64 (ks.length : Nat)), (23, .int .i64 (i : Nat))]) ∧
      Chg [] w w' ∧ Blk w' b2 TT zT ∧ Blk w' b3 TT [.int .i64 k, ch s, .slice none 0 0, .slice (some ⟨g, 0, none⟩) ks.length ks.length] ∧ Blk w' g TT (done ++ rest) ∧ done.length = i * 4 ∧ rest.length = (ks.length - i) * 4 ∧ g + 1 ≤ mi ∧ mi ≤ w'.heap.size ∧ NestK w' (g + 1) mi (ks.take i) done) ks.length
    ⟨0, [], C, g + 1, by omega, Nat.zero_le _, hf.pick ⟨rfl, rfl, rfl, rfl, rfl, trivial⟩, hC, hB2, hB3, hG, rfl, by omega, Nat.le_refl _, hlg, by simp only [List.take_zero, NestK]⟩ ?_
  clear hf a hC hB1 hB2 hB3 hG hlg
  rintro _ a w7 ⟨i, done, rest, mi, rfl, hi, hf, hC, hB2, hB3, hG, hdl, hrl, hgm, hmw, hNK⟩
  by_cases hlt : i < ks.length
  · skip
    obtain ⟨d0, d1, d2, d3, hT, hK⟩ := wT hKT hlt
    have on_T := hT.one
    replace hT := hT.keepB (S' := fun x => x < w7.heap.size) (w' := w7) (fun x _ hx => Nat.lt_of_lt_of_le hx hC.size) (fun x _ hx => hC.block x hx nm0)
    have hK7 : ∀ j, j < 4 → w7.cell? ⟨kb, ko + i * 4 + j, none⟩ = ([d0, d1, d2, d3] : List Value)[j]? := fun j hj => by
      rw [hC.cell hkb nm0, Nat.add_assoc, hcell _ (by omega)]; exact hK j hj
    have htb := ry hlt
    match rest, hrl, hG with
    | [], hrl, hG => simp only [List.length_nil] at hrl; omega
    | [_], hrl, hG => simp only [List.length_cons, List.length_nil] at hrl; omega
    | [_, _], hrl, hG => simp only [List.length_cons, List.length_nil] at hrl; omega
    | [_, _, _], hrl, hG => simp only [List.length_cons, List.length_nil] at hrl; omega
    | r0 :: r1 :: r2 :: r3 :: rest, hrl, hG =>
      replace hG : Blk w7 g TT (done ++ [r0, r1, r2, r3] ++ rest) := by simpa using hG
      refine rG 60 hf rfl ?_
      clear hf a; intro a hf
      refine rV hf rfl (lK (c := true) hf rfl rfl (by simp; omega)) ?_
      clear hf a; intro a hf
      refine rG 60 hf rfl ?_
      clear hf a; intro a hf
      refine rV hf rfl (iM (sz := 4) (k := i) hf Tryz.underlying27 (by kernel_rfl) rfl rfl rfl hlt rfl) ?_
      clear hf a; intro a hf
      refine rV hf rfl (ex_loadN (cs := [d0, d1, d2, d3]) (m := 4) hf rfl (by kernel_rfl) rfl hK7) ?_
      clear hf a; intro a hf
      obtain ⟨w8, b5, he, hB5, hx8, e5, l5⟩ := eT a w7 0
      refine rV hf rfl he ?_
      clear he hf a; intro a hf
      replace hB2 := hB2.c0 hx8
      replace hB3 := hB3.c0 hx8
      replace hG := hG.c0 hx8
      replace hC := hC.t0 hx8
      have s8 := hx8.size
      replace hT := hT.keepB (S' := fun x => x < w7.heap.size) (w' := w8) (fun x hx _ => hx) (fun x _ hx => hx8.block x hx nm0)
      replace hNK := hNK.keep (w' := w8) (fun x _ hx => hx8.block x (by omega) nm0)
      refine rG 60 hf rfl ?_
      clear hf a; intro a hf
      obtain ⟨w9, he, hB5', hx9⟩ := eN (.tmp 5) (.tmp 27) hf rfl rfl rfl on_T hB5 rfl 0
      refine rS hf rfl he ?_
      clear he hf a; intro a hf
      clear hB5; have hB5 := hB5'
      clear hB5'
      have s9 := hx9.size
      have n5 : b2 ≠ b5 ∧ b3 ≠ b5 ∧ g ≠ b5 := ⟨by omega, by omega, by omega⟩
      replace hB2 := hB2.chg hx9 (by simp; omega)
      replace hB3 := hB3.chg hx9 (by simp; omega)
      replace hG := hG.chg hx9 (by simp; omega)
      replace hC := hC.n1 hx9 (by omega)
      replace hT := hT.keepB (S' := fun x => x < w7.heap.size) (w' := w9) (fun x hx _ => hx) (fun x hx1 hx => hx9.block x hx (by simp; omega))
      replace hNK := hNK.keep (w' := w9) (fun x _ hx => hx9.block x (by omega) (by simp; omega))
      refine rG 60 hf rfl ?_
      clear hf a; intro a hf
      refine rD (fun x => Blk x b3 TT [.int .i64 k, ch s, .slice none 0 0, .slice (some ⟨g, 0, none⟩) ks.length ks.length] ∧ Blk x b5 TT [d0, d1, d2, d3]) 6 7 rfl (by kernel_rfl) (by kernel_rfl) ?_
      intro w10 hx10 hsel
      replace hB2 := hB2.c0 hx10
      replace hB3 := hB3.c0 hx10
      replace hB5 := hB5.c0 hx10
      replace hG := hG.c0 hx10
      replace hC := hC.t0 hx10
      have s10 := hx10.size
      replace hT := hT.keepB (S' := fun x => x < w7.heap.size) (w' := w10) (fun x hx _ => hx) (fun x hx1 hx => hx10.block x hx nm0)
      replace hNK := hNK.keep (w' := w10) (fun x _ hx => hx10.block x (by omega) nm0)
      refine dG [0] hsel (by kernel_rfl) hf rfl rfl (.inl ⟨hB3, hB5⟩) ?_
      clear hf a; intro a hf
      refine dL 1 rfl rfl hsel (by kernel_rfl) hf rfl ⟨hB3, hB5⟩ (fun x hS => dD hf rfl (by kernel_rfl) hS.1 rfl) ?_
      clear hf a; intro a hf
      refine dG [2] hsel (by kernel_rfl) hf rfl rfl (.inl ⟨hB3, hB5⟩) ?_
      clear hf a; intro a hf
      refine dL 3 rfl rfl hsel (by kernel_rfl) hf rfl ⟨hB3, hB5⟩ (fun x hS => hO (m := 4) hf rfl (by kernel_rfl) hS.2 rfl) ?_
      clear hf a; intro a hf
      refine Az 4 (by kernel_rfl) rfl hf rfl rfl rfl (by kernel_rfl) (ih i ks[i] (List.getElem?_eq_getElem hlt) w10 _ _ (by omega) hT) ?_
      rintro _ w11 ⟨c, rfl, hx11, hN⟩
      refine ⟨_, rfl, ?_⟩
      clear hf a; intro a hf
      replace hB2 := hB2.c0 hx11
      replace hB3 := hB3.c0 hx11
      replace hB5 := hB5.c0 hx11
      replace hG := hG.c0 hx11
      replace hC := hC.t0 hx11
      have s11 := hx11.size
      replace hNK := hNK.keep (w' := w11) (fun x _ hx => hx11.block x (by omega) nm0)
      refine ⟨.inl ⟨hB3, hB5⟩, ?_⟩
      refine dV 5 rfl rfl hsel (by kernel_rfl) hf rfl (.inl ⟨hB3, hB5⟩) (fun x => iM (sz := 4) (k := i) (r := i * 4) hf Tryz.underlying27 (by kernel_rfl) rfl rfl rfl hlt (Nat.zero_add _)) ?_
      clear hf a; intro a hf
      obtain ⟨w12, he, hG', hx12⟩ := we (P := Tryz.prog) (t := TT) (x := (.tmp 33)) (y := (.tmp 32)) (m := 4) hf rfl rfl (by kernel_rfl) hN.four hN.one hG hdl rfl 0
      refine CX 6 (by kernel_rfl) rfl hf rfl rfl he ?_
      clear he hf a; intro a hf
      refine ⟨.inr (by rfl), ?_⟩
      refine rN (by kernel_rfl) ?_
      clear hG; have hG := hG'
      clear hG'
      have s12 := hx12.size
      have hGl := hG.lt
      replace hB2 := hB2.chg hx12 (by simp; omega)
      replace hB3 := hB3.chg hx12 (by simp; omega)
      replace hC := hC.n1 hx12 (by omega)
      replace hNK := hNK.keep (w' := w12) (fun x h1 h2 => hx12.block x (by omega) (by simp; omega))
      replace hN := hN.keep (w' := w12) (fun x h1 h2 => hx12.block x h2 (by simp; omega))
      have hN4 := hN.four
      refine rG 60 hf rfl ?_
      clear hf a; intro a hf
      refine rV hf rfl (ur (r := ((i + 1 : Nat) : Int)) hf rfl rfl (by simp) (by omega)) ?_
      clear hf a; intro a hf
      refine rG 60 hf rfl ?_
      clear hf a; intro a hf
      refine rX ?_
      refine ⟨ks.length - (i + 1), by omega, i + 1, done ++ c, rest, w11.heap.size, rfl, hlt, hf.pick ⟨rfl, rfl, rfl, rfl, rfl, trivial⟩, hC, hB2, hB3, hG, by rw [List.length_append, hN4]; omega, by simp only [List.length_cons] at hrl; omega, by omega, by omega, ?_⟩
      rw [List.take_succ_eq_append_getElem hlt]
      exact NestK.snoc hNK (hN.lo_ (by omega)) hgm (by omega)
  have hi' : i = ks.length := by omega
  subst hi'
  have hr0 : rest = [] := List.eq_nil_of_length_eq_zero (by omega)
  subst hr0
  rw [List.append_nil] at hG
  rw [List.take_length] at hNK
  refine rG 60 hf rfl ?_
  clear hf a; intro a hf
  refine rV hf rfl (lK (c := false) hf rfl rfl (by simp)) ?_
  clear hf a; intro a hf
  refine rG 60 hf rfl ?_
  clear hf a; intro a hf
  refine rO ?_
  refine rG 60 hf rfl ?_
  clear hf a; intro a hf
  refine rV hf rfl (hO (m := 4) hf rfl (by kernel_rfl) hB3 rfl) ?_
  clear hf a; intro a hf
  obtain ⟨w9, he, hB2', hx9⟩ := eN (.tmp 2) (.tmp 35) hf rfl rfl rfl rfl hB2 rfl 0
  refine rS hf rfl he ?_
  clear he hf a; intro a hf
  refine rG 60 hf rfl ?_
  clear hf a; intro a hf
  have s9 := hx9.size
  have hGl := hG.lt
  refine rT (rs := [.cell 2 TT]) hf rfl ⟨_, _, _, _, _, rfl, rfl, by kernel_rfl, hB2', rfl, rfl⟩ ⟨_, rfl, hC.n1 hx9 (by omega), hfin (some ⟨g, 0, none⟩) ks.length g done w9 (hC.n1 hx9 (by omega)) (Nat.le_refl _) (by simp only [maxLen]; omega) (fun _ => ⟨rfl, hg0, by omega, hG.chg hx9 (by simp; omega)⟩) ?_⟩
  exact NestK.hi_ (hNK.keep (w' := w9) (fun x h1 h2 => hx9.block x (by omega) (by simp; omega))) (by omega)
theorem ye : ∀ t, sd t := iL wg
def nj (md : Region.Mode) (ops : Array Oper) : Nat → List Nat → Nat → Bool
 | m, [], i => fq md ops m i
 | m, q :: r, i => fq md ops m q && nj md ops q r i
theorem sP {md : Region.Mode} {ops : Array Oper} {listed : Array Bool} {m i : Nat} (h : fq md ops m i = true) (hi : listed.getD i true = false) : m ∉ Region.ready md ops listed := fun hr => by
 obtain ⟨_, o, ho, hall⟩ := mem_ready.1 hr
 unfold fq at h
 rw [ho] at h
 obtain ⟨e, he, hb⟩ := Array.any_eq_true'.1 h
 simp only [Bool.and_eq_true, beq_iff_eq] at hb
 have h1 := hall e he hb.1
 rw [hb.2] at h1
 rcases Nat.lt_or_ge i listed.size with h' | h'
 ·simp [h'] at hi h1; rw [hi] at h1; cases h1
 ·simp [Array.getElem?_eq_none h'] at h1
theorem qe {md : Region.Mode} {ops : Array Oper} {listed : Array Bool} {i : Nat} (hi : listed.getD i true = false) : ∀ (qs : List Nat) (m : Nat), nj md ops m qs i = true → (∀ q ∈ qs, listed.getD q true = false) → ∀ x ∈ m :: qs, x ∉ Region.ready md ops listed
 | [], m, h, _, x, hx => by simp only [List.mem_singleton] at hx; subst hx; exact sP h hi
 | q :: r, m, h, hu, x, hx => by
  simp only [nj, Bool.and_eq_true] at h
  rcases List.mem_cons.1 hx with rfl | hx
  ·exact sP h.1 (hu q (by simp))
  ·exact qe hi r q h.2 (fun p hp => hu p (by simp [hp])) x hx
section
variable {P : Program} {ops : Array Oper} {Q : Exit → Act → World → Prop} {md : Region.Mode} {S : World → Prop}
theorem qL {m : Nat} {i : Nat} {qs : List Nat} {oi : Oper} {v : Value} (him : i ≠ m) (hch : nj md ops m qs i = true) (hi : ops[i]? = some oi) (hsel : ∀ (j : Nat) (o : Oper) cs b, ops[j]? = some o → o.op ≠ .select cs b)
    (hQ : ∀ c a w, Q (.panic c) (a.put oi.dst v) w → Q (.panic c) a w) :
    ∀ (fuel : Nat) (listed : Array Bool) (a : Act) (w : World),
      (∀ j oj, ops[j]? = some oj → j ≠ i → listed.getD j true = false → (∀ e ∈ oj.after, Region.binds md e = true → e.on ≠ i) → oi.apart ops oj = true) → (∀ q ∈ qs, listed.getD q true = false) →
      i ∈ Region.ready md ops listed → YieldsIf P ops S oi v a → S w → listed.getD m false = false →
      wpAnyL P md ops Q S m fuel (listed.setIfInBounds i true) (a.put oi.dst v) w → wpAnyL P md ops Q S m (fuel + 1) listed a w := by
  intro fuel
  induction fuel with
  | zero =>
    intro listed a w _ _ hr hy hS _ H
    refine ⟨fun h => (by rw [h] at hr; cases hr), fun j hj => ?_⟩
    by_cases hji : j = i
    · subst hji; exact hy.wpOp hi hS ⟨.inl hS, H⟩
    · have := ready_mono hj hji
      rw [H.1] at this
      cases this
  | succ fuel ih =>
    intro listed a w hfree hqs hr hy hS hlm H
    refine ⟨fun h => (by rw [h] at hr; cases hr), fun j hj => ?_⟩
    by_cases hji : j = i
    · subst hji; exact hy.wpOp hi hS ⟨.inl hS, H⟩
    · have h1 := H.2 j (ready_mono hj hji)
      obtain ⟨hjun, oj, hoj, hall⟩ := mem_ready.1 hj
      have hnot := jo (j := j) hr hall
      have hcn := qe (mem_ready.1 hr).1 qs m hch hqs
      have hjm : j ≠ m := fun e => hcn m (by simp) (e ▸ hj)
      have hjq : ∀ q ∈ qs, j ≠ q := fun q hq e => hcn q (by simp [hq]) (e ▸ hj)
      have h2 := wpOp_putIf hoj (hfree j oj hoj hji hjun hnot) (fun cs b => hsel i oi cs b hi) (fun cs b => hsel j oj cs b hoj) hQ hy h1
      have hfree' : ∀ k ok, ops[k]? = some ok → k ≠ i → (listed.setIfInBounds j true).getD k true = false →
          (∀ e ∈ ok.after, Region.binds md e = true → e.on ≠ i) → oi.apart ops ok = true := fun k ok hk hki hun hno => by
        refine hfree k ok hk hki ?_ hno
        by_cases hjk : j = k
        · subst hjk; exact hjun
        · rw [getD_set_ne true hjk] at hun; exact hun
      refine wpOp_mono (fun a' w' h3 => ?_) h2
      have hlm' : (listed.setIfInBounds j true).getD m false = false := by rw [getD_set_ne false hjm]; exact hlm
      have hqs' : ∀ q ∈ qs, (listed.setIfInBounds j true).getD q true = false := fun q hq => by rw [getD_set_ne true (hjq q hq)]; exact hqs q hq
      have hS' : S w' := by
        rcases h3.2.1 with h | h
        · exact h
        · rw [Array.setIfInBounds_comm _ _ (fun e => hji e.symm), getD_set_ne false him, hlm'] at h
          cases h
      refine ⟨.inl hS', ih (listed.setIfInBounds j true) a' w' hfree' hqs' (ready_mono hr (Ne.symm hji)) h3.1 hS' hlm' ?_⟩
      rw [Array.setIfInBounds_comm _ _ hji]
      exact h3.2.2
theorem dLc {a : Act} {w : World} {n : Nat} {f : Nat → Option Value} {d : Option Tmp} {op : Op} {ty : TypeId} {ps : String} {af : Array Edge} {g : Option (Nat × Bool)} {v : Value} {m fuel : Nat} {listed : Array Bool} (i : Nat) (qs : List Nat) (him : Nat.beq i m = false) (hi : ops[i]? = some ⟨d, op, ty, ps, af, g⟩) (hs : Region.noSelect ops = true) (hf : (nj .any ops m qs i && qs.all (fun q => !listed.getD q true) && !listed.getD m false && Region.free .any ops listed i && (Region.ready .any ops listed).contains i) = true)
  (h : Fr a n f) (hw : (cw f ops g && cf d n) = true) (hS : S w) (he : ∀ w', S w' → Runs P a ty op w' (.value v) w')
  (k : ∀ a', Fr a' n (upo f d v) → wpAnyL P .any ops (NoPanic Q) S m fuel (listed.setIfInBounds i true) a' w) : wpAnyL P .any ops (NoPanic Q) S m (fuel + 1) listed a w := by
 simp only [Bool.and_eq_true, Bool.not_eq_true'] at hf
 obtain ⟨⟨⟨⟨h1, h2⟩, h3⟩, h4⟩, h5⟩ := hf
 exact qL (Nat.ne_of_beq_eq_false him) h1 hi (Region.noSelect_spec hs) (fun _ _ _ h => h.elim) fuel listed a w (Region.free_spec hi h4) (fun q hq => by simpa using List.all_eq_true.1 h2 q hq) (by simpa using h5)
  (.inl ⟨eJ h (Bool.and_eq_true_iff.1 hw).1, fun w' hS' => he w' hS' _ _ _ _⟩) hS h3 (k _ (h.puto (Bool.and_eq_true_iff.1 hw).2 v))
end
theorem KidsAre.mono {S S' : Nat → Prop} {w : World} {ts : List Tree} {cs : List Value} (h : KidsAre S w ts cs) (hS : ∀ b, S b → S' b) : KidsAre S' w ts cs := h.keep hS (fun _ _ _ => rfl)
theorem xn (t : Tree) (ih : ∀ (i : Nat) (u : Tree), t.kids[i]? = some u → rc u) : rc t := by
  obtain ⟨k, s, ls, ks⟩ := t
  intro w b pre c post ct lo hi Sf hbk hB hN hbo hhi hT hSf
  simp only [NestC] at hN
  obtain ⟨B, n, g, cs, rfl, hn1, hn2, hlh, hg, hK⟩ := hN
  simp only [TreeIs] at hT
  obtain ⟨A, m, B', n', rfl, hm1, hm2, hm3, hm4, hA, kcs, hKT, hKR⟩ := hT
  simp only [Tree.kids] at ih
  simp only [tbulk] at hbk
  have hkl := du ks
  have hll := sJ ls
  have hbl := hB.lt
  refine rE 32 Tryz.func54 rfl rfl rfl ?_
  intro a hf
  refine rG 60 hf rfl ?_
  clear hf a; intro a hf
  obtain ⟨w1, bb, he, hbb, hx1, eb, lb⟩ := pq (P := Tryz.prog) (t := TT) (x := (.tmp 1)) hf rfl rfl w 0
  refine rV hf rfl he ?_
  clear he hf a; intro a hf
  replace hB := hB.c0 hx1
  have hA1 := hA.keepB (w' := w1) (S' := Sf) (fun _ h _ => h) (fun x _ hx => hx1.block x hx nm0)
  refine rG 60 hf rfl ?_
  clear hf a; intro a hf
  refine rV hf rfl (dD hf rfl (by kernel_rfl) hbb rfl) ?_
  clear hf a; intro a hf
  obtain ⟨A', m', w2, he, ha1, ha2, ha3, hx2⟩ := zD (P := Tryz.prog) (x := .const (.slice none 0 0)) (y := .tmp 7) (t := 26) (e := 9) (z := .string ⟨#[]⟩) (by_ := 16) hf rfl rfl hA1 (by omega) Tryz.underlying26 (by kernel_rfl) rfl rfl 0
  refine rV hf rfl he ?_
  clear he hf a; intro a hf
  replace hB := hB.c0 hx2
  replace hbb := hbb.c0 hx2
  refine rG 60 hf rfl ?_
  clear hf a; intro a hf
  obtain ⟨w3, he, hB3, hx3⟩ := ss (P := Tryz.prog) (t := 26) (x := .tmp 10) (y := .tmp 8) hf rfl rfl (by kernel_rfl) rfl hB (by simp) 0
  refine rS hf rfl he ?_
  clear he hf a; intro a hf
  rw [xW] at hB3
  have s1 := hx1.size
  have s2 := hx2.size
  have s3 := hx3.size
  have hbb3 := hbb.chg hx3 (by simp; omega)
  have hA3 := ha3.keepB (w' := w3) (S' := fun x => w.heap.size ≤ x) (fun x hx _ => by omega) (fun x hx hlt => hx3.block x hlt (by simp; omega))
  have hC : ChgP (fun x => x = b ∨ (lo ≤ x ∧ x < hi)) w w3 := ((ChgP.of0 hx1 (X := fun x => x = b ∨ (lo ≤ x ∧ x < hi))).trans (ChgP.of0 hx2 (X := fun _ => False)) (fun _ h => h.elim)).trans (ChgP.of hx3) (fun x hx => by simp at hx; exact .inl (.inl hx))
  have hin : ∀ x, lo ≤ x → x < hi → w3.heap[x]? = w.heap[x]? := fun x h1 h2 => by
    rw [hx3.block x (by omega) (by simp; omega), hx2.block x (by omega) nm0, hx1.block x (by omega) nm0]
  have hK3 : NestK w3 (g + 1) hi ks cs := by
    by_cases hk0 : ks = []
    · subst hk0; simpa only [NestK] using hK
    · obtain ⟨_, h1, h2, _⟩ := hg hk0
      exact hK.keep fun x g1 g2 => hin x (by omega) g2
  have hG3 : ks ≠ [] → Blk w3 g TT ([] ++ cs) ∧ g + 1 ≤ g + 1 ∧ g + 1 ≤ hi := fun h => by
    obtain ⟨_, h1, h2, h3⟩ := hg h
    exact ⟨kz (hin g h1 h2) h3, Nat.le_refl _, h2⟩
  have hbw : w.heap.size ≤ bb := by omega
  clear hx1 hx2 hx3 hB hbb hA1 hA hK ha3 hin
  refine rG 60 hf rfl ?_
  clear hf a; intro a hf
  refine rV hf rfl (dD hf rfl (by kernel_rfl) hB3 (sh _ _ _ _ _ _)) ?_
  clear hf a; intro a hf
  refine rV hf rfl (jp hf Tryz.underlying27 rfl) ?_
  clear hf a; intro a hf
  refine rG 60 hf rfl ?_
  clear hf a; intro a hf
  refine rL (fun mm a w' => ∃ (i : Nat) (done rest : List Value) (mi : Nat), mm = ks.length - i ∧ i ≤ ks.length ∧ Fr a 32 (fm [(0, .pointer (some ⟨b, pre.length, none⟩)), (3, .pointer (some ⟨bb, 0, none⟩)), (15, .int .i64 (ks.length : Nat)), (16, .int .i64 (i : Nat))]) ∧
      ChgP (fun x => x = b ∨ (lo ≤ x ∧ x < hi)) w w' ∧ Blk w' b TT (pre ++ [.int .i64 k, ch s, .slice A' ls.length m', .slice B ks.length n] ++ post) ∧ Blk w' bb TT [.int .i64 k, ch s, .slice A ls.length m, .slice B' ks.length n'] ∧
      RowIn (fun x => w.heap.size ≤ x) w' 1 A' ls.length (ls.map ch) ∧ (ks ≠ [] → Blk w' g TT (done ++ rest) ∧ g + 1 ≤ mi ∧ mi ≤ hi) ∧ KidsAre (fun x => (g + 1 ≤ x ∧ x < mi) ∨ w.heap.size ≤ x) w' (ks.take i) done ∧ NestK w' mi hi (ks.drop i) rest) ks.length
    ⟨0, [], cs, g + 1, rfl, Nat.zero_le _, hf.pick ⟨rfl, rfl, rfl, rfl, trivial⟩, hC, hB3, hbb3, hA3, hG3, by simp [KidsAre], by simpa using hK3⟩ ?_
  clear hf a hC hB3 hbb3 hA3 hG3 hK3 s1 s2 s3
  rintro _ a w4 ⟨i, done, rest, mi, rfl, hi1, hf, hC, hB, hbb, hA, hG, hKA, hNK⟩
  by_cases hlt : i < ks.length
  · skip
    have hne : ks ≠ [] := fun h => by subst h; simp at hlt
    obtain ⟨rfl, hg1, hg2, _⟩ := hg hne
    obtain ⟨hG, hgm, hmh⟩ := hG hne
    obtain ⟨kb, ko, rfl, hkS, hkb, hcell⟩ := hKR.2 (by omega)
    obtain ⟨d0, d1, d2, d3, hT, hK⟩ := wT hKT hlt
    have hdl := hKA.length
    rw [List.length_take, Nat.min_eq_left hi1] at hdl
    rw [List.drop_eq_getElem_cons hlt] at hNK
    simp only [NestK] at hNK
    obtain ⟨c, d, mid, rfl, hm5, hm6, hNc, hNk⟩ := hNK
    rw [← List.append_assoc] at hG
    have htb := ry hlt
    have sC := hC.size
    have out : ∀ x, Sf x → x < w.heap.size → w4.heap[x]? = w.heap[x]? := fun x h1 h2 => hC.block x h2 (fun h => by have := hSf x h1; omega)
    replace hT := hT.keepB (S' := fun x => Sf x ∧ x < w.heap.size) (w' := w4) (fun x h1 h2 => ⟨h1, h2⟩) out
    have hK4 : ∀ j, j < 4 → w4.cell? ⟨kb, ko + i * 4 + j, none⟩ = ([d0, d1, d2, d3] : List Value)[j]? := fun j hj => by
      rw [World.cell?_of_block (a := ⟨kb, ko + i * 4 + j, none⟩) (out kb hkS hkb), Nat.add_assoc, hcell _ (by omega)]; exact hK j hj
    refine rG 60 hf rfl ?_
    clear hf a; intro a hf
    refine rV hf rfl (lK (c := true) hf rfl rfl (by simp; omega)) ?_
    clear hf a; intro a hf
    refine rG 60 hf rfl ?_
    clear hf a; intro a hf
    refine rD (fun x => Blk x b TT (pre ++ [.int .i64 k, ch s, .slice A' ls.length m', .slice (some ⟨g, 0, none⟩) ks.length n] ++ post) ∧ Blk x bb TT [.int .i64 k, ch s, .slice A ls.length m, .slice (some ⟨kb, ko, none⟩) ks.length n'] ∧ ∀ j, j < 4 → x.cell? ⟨kb, ko + i * 4 + j, none⟩ = ([d0, d1, d2, d3] : List Value)[j]?) 11 12 rfl (by kernel_rfl) (by kernel_rfl) ?_
    intro w5 hx5 hsel
    have e5 : ∀ x, x < w4.heap.size → w5.heap[x]? = w4.heap[x]? := fun x hx => hx5.block x hx nm0
    have s5 := hx5.size
    have hlb := hB.lt
    have hlbb := hbb.lt
    have hlg := hG.lt
    replace hB := hB.c0 hx5
    replace hbb := hbb.c0 hx5
    replace hG := hG.c0 hx5
    replace hT := hT.keepB (S' := fun x => Sf x ∧ x < w.heap.size) (w' := w5) (fun x h1 h2 => h1) (fun x _ hx => e5 x hx)
    replace hNc := hNc.keep (w' := w5) (fun x _ hx => e5 x (by omega))
    replace hNk := hNk.keep (w' := w5) (fun x _ hx => e5 x (by omega))
    replace hA := hA.keepB (w' := w5) (S' := fun x => w.heap.size ≤ x) (fun x h1 h2 => h1) (fun x _ hx => e5 x hx)
    replace hKA := hKA.keepB (w' := w5) (S' := fun x => (g + 1 ≤ x ∧ x < mi) ∨ w.heap.size ≤ x) (fun x h1 h2 => h1) (fun x _ hx => e5 x hx)
    replace hK4 : ∀ j, j < 4 → w5.cell? ⟨kb, ko + i * 4 + j, none⟩ = ([d0, d1, d2, d3] : List Value)[j]? := fun j hj => by
      rw [World.cell?_of_block (a := ⟨kb, ko + i * 4 + j, none⟩) (e5 kb (by show kb < w4.heap.size; omega))]; exact hK4 j hj
    have hS := And.intro hB (And.intro hbb hK4)
    replace hC : ChgP (fun x => x = b ∨ (lo ≤ x ∧ x < hi)) w w5 := hC.trans (ChgP.of0 hx5 (X := fun _ => False)) (fun _ h => h.elim)
    clear e5 hx5
    refine dG [0, 1, 2] hsel (by kernel_rfl) hf rfl rfl (.inl hS) ?_
    clear hf a; intro a hf
    refine dLc 3 [5] rfl rfl hsel (by kernel_rfl) hf rfl hS (fun x hS => dD hf rfl (by kernel_rfl) hS.1 (sh _ _ _ _ _ _)) ?_
    clear hf a; intro a hf
    refine dG [4] hsel (by kernel_rfl) hf rfl rfl (.inl hS) ?_
    clear hf a; intro a hf
    refine dV 5 rfl rfl hsel (by kernel_rfl) hf rfl (.inl hS) (fun x => iM (sz := 4) (k := i) (r := done.length) hf Tryz.underlying27 (by kernel_rfl) rfl rfl rfl hlt (by omega)) ?_
    clear hf a; intro a hf
    refine dG [6] hsel (by kernel_rfl) hf rfl rfl (.inl hS) ?_
    clear hf a; intro a hf
    refine dLc 7 [10, 9] rfl rfl hsel (by kernel_rfl) hf rfl hS (fun x hS => dD hf rfl (by kernel_rfl) hS.2.1 rfl) ?_
    clear hf a; intro a hf
    refine dG [8] hsel (by kernel_rfl) hf rfl rfl (.inl hS) ?_
    clear hf a; intro a hf
    refine dV 9 rfl rfl hsel (by kernel_rfl) hf rfl (.inl hS) (fun x => iM (sz := 4) (k := i) (r := ko + i * 4) hf Tryz.underlying27 (by kernel_rfl) rfl rfl rfl hlt rfl) ?_
    clear hf a; intro a hf
    refine dLc 10 [] rfl rfl hsel (by kernel_rfl) hf rfl hS (fun x hS => ex_loadN (cs := [d0, d1, d2, d3]) (m := 4) hf rfl (by kernel_rfl) rfl hS.2.2) ?_
    clear hf a; intro a hf
    refine Az 11 (by kernel_rfl) rfl hf rfl rfl rfl (by kernel_rfl) (ih i ks[i] (List.getElem?_eq_getElem hlt) w5 g done c d [d0, d1, d2, d3] mi mid (fun x => Sf x ∧ x < w.heap.size) (by omega) hG hNc (by omega) (by omega) hT (fun x h => by have := hSf x h.1; omega)) ?_
    rintro _ w6 ⟨rfl, c', hG', hx6, hT'⟩
    refine ⟨_, rfl, ?_⟩
    clear hf a; intro a hf
    refine ⟨.inr (by rfl), ?_⟩
    refine rN (by kernel_rfl) ?_
    have e6 : ∀ x, x < w5.heap.size → x ≠ g → ¬ (mi ≤ x ∧ x < mid) → w6.heap[x]? = w5.heap[x]? := fun x hx h1 h2 => hx6.block x hx (by omega)
    have s6 := hx6.size
    replace hC : ChgP (fun x => x = b ∨ (lo ≤ x ∧ x < hi)) w w6 := hC.trans hx6 (fun x h => by left; right; omega)
    replace hB := kz (e6 b (by omega) (by omega) (by omega)) hB
    replace hbb := kz (e6 bb (by omega) (by omega) (by omega)) hbb
    replace hA := hA.keepB (w' := w6) (S' := fun x => w.heap.size ≤ x) (fun x h1 h2 => h1) (fun x h1 hx => e6 x hx (by omega) (by omega))
    replace hKA := hKA.keepB (w' := w6) (S' := fun x => (g + 1 ≤ x ∧ x < mid) ∨ w.heap.size ≤ x) (fun x h1 h2 => by omega) (fun x h1 hx => e6 x hx (by omega) (by omega))
    replace hNk := hNk.keep (w' := w6) (fun x h1 h2 => e6 x (by omega) (by omega) (by omega))
    replace hT' := hT'.keep (S' := fun x => (g + 1 ≤ x ∧ x < mid) ∨ w.heap.size ≤ x) (w' := w6) (fun x h => by omega) (fun _ _ _ => rfl)
    refine rG 60 hf rfl ?_
    clear hf a; intro a hf
    refine rV hf rfl (ur (r := ((i + 1 : Nat) : Int)) hf rfl rfl (by simp) (by omega)) ?_
    clear hf a; intro a hf
    refine rG 60 hf rfl ?_
    clear hf a; intro a hf
    refine rX ?_
    refine ⟨ks.length - (i + 1), by omega, i + 1, done ++ c', d, mid, rfl, hlt, hf.pick ⟨rfl, rfl, rfl, rfl, trivial⟩, hC, hB, hbb, hA, fun _ => ⟨hG', by omega, by omega⟩, ?_, hNk⟩
    rw [List.take_succ_eq_append_getElem hlt]
    exact hKA.snoc hT'
  have hi' : i = ks.length := by omega
  subst hi'
  rw [List.take_length] at hKA
  rw [List.drop_length] at hNK
  simp only [NestK] at hNK
  subst hNK
  refine rG 60 hf rfl ?_
  clear hf a; intro a hf
  refine rV hf rfl (lK (c := false) hf rfl rfl (by simp)) ?_
  clear hf a; intro a hf
  refine rG 60 hf rfl ?_
  clear hf a; intro a hf
  refine rO ?_
  refine rG 60 hf rfl ?_
  clear hf a; intro a hf
  refine rF (rs := []) (vs := []) hf rfl rfl ⟨rfl, _, hB, hC, ?_⟩
  have hdl := hKA.length
  by_cases hk0 : ks = []
  · subst hk0
    simp only [KidsAre] at hKA
    subst hKA
    exact pD (cs := []) ha1 ha2 hn1 hn2 (hA.keep (fun x h => .inr h) (fun _ _ _ => rfl)) (by simp only [KidsAre]) ⟨by simp, fun h => by simp at h⟩
  · obtain ⟨rfl, hg1, hg2, _⟩ := hg hk0
    obtain ⟨hG, hgm, hmh⟩ := hG hk0
    refine pD ha1 ha2 hn1 hn2 (hA.keep (fun x h => .inr h) (fun _ _ _ => rfl)) (hKA.mono fun x h => by omega) ⟨hdl, fun _ => ⟨g, 0, rfl, .inl ⟨hg1, hg2⟩, hG.lt, fun j hj => ?_⟩⟩
    rw [hG.cell, Nat.zero_add, List.append_nil]
theorem xM : ∀ t, rc t := iL xn
theorem tG (t : Tree) (w : World) (S : Nat → Prop) (ct : List Value) (hbk : tbulk t ≤ 1000000000) (hT : TreeIs S w t ct) :
    Calls Tryz.prog 30 #[.agg ct.toArray] w fun e w' => ∃ c, e = .returned (.agg c.toArray) ∧ Chg [] w w' ∧ TreeIs (fun x => w.heap.size ≤ x) w' t c := by
  have h4 := hT.four
  match ct, h4, hT with
  | [c0, c1, c2, c3], _, hT =>
  have on_T := hT.one
  replace hT := hT.keepB (S' := fun x => x < w.heap.size) (w' := w) (fun x _ hx => hx) (fun _ _ _ => rfl)
  refine rE 9 Tryz.func30 rfl rfl rfl ?_
  intro a hf
  refine rG 60 hf rfl fun a hf => ?_
  obtain ⟨w1, b1, he, hB1, hx1, e1, l1⟩ := pq (P := Tryz.prog) (t := TT) (x := (.tmp 0)) hf rfl rfl w 0
  refine rV hf rfl he fun a hf => ?_
  replace hT := hT.keepB (S' := fun x => x < w.heap.size) (w' := w1) (fun x hx _ => hx) (fun x _ hx => hx1.block x hx nm0)
  obtain ⟨w2, b2, he, hB2, hx2, e2, l2⟩ := eT a w1 0
  refine rV hf rfl he fun a hf => ?_
  replace hB1 := hB1.c0 hx2
  replace hT := hT.keepB (S' := fun x => x < w.heap.size) (w' := w2) (fun x hx _ => hx) (fun x _ hx => hx2.block x hx nm0)
  refine rG 60 hf rfl fun a hf => rV hf rfl (hO (m := 4) hf rfl (by kernel_rfl) hB1 rfl) fun a hf => rC hf rfl rfl (by kernel_rfl) (ye t w2 _ _ hbk hT) ?_
  rintro _ w3 ⟨c, rfl, hx3, hN⟩
  refine ⟨_, rfl, fun a hf => ?_⟩
  replace hB1 := hB1.c0 hx3
  replace hB2 := hB2.c0 hx3
  replace hT := hT.keepB (S' := fun x => x < w.heap.size) (w' := w3) (fun x hx _ => hx) (fun x _ hx => hx3.block x hx nm0)
  obtain ⟨w4, b4, he, hB4, hx4, e4, l4⟩ := eT a w3 0
  refine rV hf rfl he fun a hf => ?_
  replace hB1 := hB1.c0 hx4
  replace hB2 := hB2.c0 hx4
  replace hT := hT.keepB (S' := fun x => x < w.heap.size) (w' := w4) (fun x hx _ => hx) (fun x _ hx => hx4.block x hx nm0)
  replace hN := hN.keep (w' := w4) (fun x _ hx => hx4.block x hx nm0)
  obtain ⟨w5, he, hB5, hx5⟩ := eN (.tmp 3) (.tmp 5) hf rfl rfl hN.four hN.one hB4 rfl 0
  refine rS hf rfl he fun a hf => ?_
  have s1 := hx1.size
  have s2 := hx2.size
  have s3 := hx3.size
  have s4 := hx4.size
  have s5 := hx5.size
  replace hB1 := hB1.chg hx5 (by simp; omega)
  replace hB2 := hB2.chg hx5 (by simp; omega)
  replace hT := hT.keepB (S' := fun x => x < w.heap.size) (w' := w5) (fun x hx _ => hx) (fun x h1 hx => hx5.block x hx (by simp; omega))
  replace hN := hN.keep (w' := w5) (fun x _ hx => hx5.block x (by omega) (by simp; omega))
  have hC : Chg [] w w5 := (((hx1.t0 hx2).t0 hx3).t0 hx4).n1 hx5 (by omega)
  clear hx1 hx2 hx3 hx4 hx5 hB4
  refine rG 60 hf rfl fun a hf => rV hf rfl (hO (m := 4) hf rfl (by kernel_rfl) hB1 rfl) fun a hf => rC hf rfl rfl (by kernel_rfl) (xM t w5 b4 [] c [] [c0, c1, c2, c3] w2.heap.size w3.heap.size (fun x => x < w.heap.size) hbk (by simpa using hB5) hN (by omega) (by omega) hT (fun x hx => by omega)) ?_
  rintro _ w6 ⟨rfl, c', hB6, hx6, hT'⟩
  refine ⟨_, rfl, fun a hf => ?_⟩
  have s6 := hx6.size
  replace hB2 := kz (hx6.block b2 (by omega) (by omega)) hB2
  have hC6 : Chg [] w w6 := ⟨hx6.os.trans hC.os, hx6.tape.trans hC.tape, hx6.output.trans hC.output, nlt hC.size s6, fun x hx h0 => by rw [hx6.block x (by omega) (by omega), hC.block x hx h0]⟩
  rw [List.nil_append, List.append_nil] at hB6
  have h4' := hT'.four
  have on' := hT'.one
  refine rG 60 hf rfl fun a hf => rV hf rfl (hO (m := 4) hf rfl (by kernel_rfl) hB6 h4') fun a hf => ?_
  obtain ⟨w7, he, hB7, hx7⟩ := eN (.tmp 2) (.tmp 8) hf rfl rfl h4' on' hB2 rfl 0
  refine rS hf rfl he fun a hf => rG 60 hf rfl fun a hf => ?_
  exact rT (rs := [.cell 2 TT]) hf rfl ⟨_, _, _, _, _, rfl, rfl, by kernel_rfl, hB7, h4', rfl⟩ ⟨_, rfl, hC6.n1 hx7 (by omega), hT'.keepB (fun x h _ => by omega) (fun x h hx => hx7.block x hx (by simp; omega))⟩
section
variable {S : Nat → Prop} {w : World}
theorem qc {ρ : Nat → Option Value} : ∀ {ls : List (List UInt8)} {xs : List Value}, CRel S w ρ 1 (ls.map .str) xs → xs = ls.map ch
 | [], xs, h => by simpa [CRel] using h
 | s :: r, xs, h => by
  simp only [List.map_cons, CRel, VRel] at h
  obtain ⟨x, ys, rfl, _, rfl, h2⟩ := h
  rw [qc h2]
  simp [Value.cells, ch]
mutual
theorem LRel.tree : ∀ {ρ : Nat → Option Value} {t : Tree} {c : List Value}, LRel S w ρ (ao t) c → TreeIs S w t c
 | ρ, .node k s ls ks, c, h => by
  simp only [ao, Tree.kind, Tree.text, Tree.leads, Tree.kids, LRel, VRel] at h
  obtain ⟨_, _, rfl, rfl, _, _, rfl, rfl, _, _, rfl, ⟨A, m, xs, rfl, h1, h2, h3, h4⟩, _, _, rfl, ⟨B, n, cs, rfl, h5, h6, h7, h8⟩, rfl⟩ := h
  have e := qc h3
  subst e
  simp only [TreeIs]
  exact ⟨A, m, B, n, by simp [eQ], by simpa using h1, h2, by simpa [eQ] using h5, h6, by simpa using h4, cs, CRel.kids h7, by simpa [eQ] using h8⟩
theorem CRel.kids : ∀ {ρ : Nat → Option Value} {ts : List Tree} {cs : List Value}, CRel S w ρ 4 (kidsV ts) cs → KidsAre S w ts cs
 | ρ, [], cs, h => by simpa only [kidsV, CRel, KidsAre] using h
 | ρ, t :: r, cs, h => by
  simp only [kidsV, CRel, fM, VRel] at h
  obtain ⟨x, ys, rfl, ⟨g1, g2⟩, ⟨xs, rfl, h2⟩, h3⟩ := h
  simp only [KidsAre]
  exact ⟨xs, ys, by simp [Value.cells], LRel.tree h2, CRel.kids h3⟩
end
end
theorem wl (t : Tree) (ht : tbulk t ≤ 1000000000) : lP t t := by
 refine ⟨rfl, rfl, fun S w ρ xs hr hx => ?_⟩
 simp only [LRel] at hx
 obtain ⟨x, ys, rfl, hx, rfl⟩ := hx
 simp only [VRel] at hx
 obtain ⟨ct, rfl, hx⟩ := hx
 refine (tG t w S ct ht (LRel.tree hx)).mono ?_
 rintro e w' ⟨c, rfl, hch, hT⟩
 have g := hr.chg0 hch
 refine ⟨_, fun b => S b ∨ (w.heap.size ≤ b ∧ b < w'.heap.size), ρ, _, ⟨0, []⟩, rfl, rfl, ⟨fun i => ?_, fun i b hb => ?_, fun i j b hb _ => ?_, g.slt.up (ρ := ρ0) (ρ' := ρ0) ⟨fun _ h => .inl h, fun _ _ _ => rfl, fun _ _ h => h⟩ (fun b hb => hb.elim (g.slt b) (·.2))⟩, ⟨ChgP.of0 hch, fun _ h => .inl h, fun b hb => hb.elim .inl (fun h => .inr (.inr h.1)), fun id b hb => by rw [dZ] at hb; exact hb.elim, fun id x h => ?_⟩, ?_⟩
 ·have := g.ob i; rw [dZ] at this ⊢; exact this
 ·rw [dZ] at hb; exact hb.elim
 ·rw [dZ] at hb; exact hb.elim
 ·simp only [kn] at h
  split at h
  ·exact h
  ·cases h
 ·simp only [VRel]
  exact ⟨c, rfl, (hT.keepB (S' := fun b => S b ∨ (w.heap.size ≤ b ∧ b < w'.heap.size)) (fun b h1 h2 => .inr ⟨h1, h2⟩) (fun _ _ _ => rfl)).vrel⟩
theorem zA (t : Tree) (q : List Int) (hq : q.length ≤ 1000000000) : lw t q ((atK t q).getD (.node 0 [] [] [])) (atK t q).isSome := by
 have loop : ∀ m i (u : Tree), q.length - i ≤ m → il (m + 1) q u i ((atK u (q.drop i)).getD (.node 0 [] [] [])) (atK u (q.drop i)).isSome := fun m => by
  induction m with
  | zero =>
   intro i u hi
   refine mx 0 _ _ _ _ _ ⟨fun h => by omega, fun h => ?_⟩
   rw [List.drop_of_length_le (by omega)]; exact ⟨rfl, rfl⟩
  | succ m ihm =>
   intro i u hi
   refine mx (m + 1) _ _ _ _ _ ⟨fun h => ?_, fun h => ?_⟩
   ·obtain ⟨x, hx, _⟩ | h' := gz q i
    ·rw [be hx, atK]
     refine ⟨x, hx, fun h1 => by simp [h1], fun h1 => ⟨fun h2 => ?_, fun h2 => ?_⟩⟩
     ·have : u.kids[x.toNat]? = none := List.getElem?_eq_none (by omega)
      simp [h1, this]
     ·obtain ⟨y, hy, _⟩ | h3 := gz u.kids x.toNat
      ·refine ⟨x.toNat, by omega, y, hy, by omega, ?_⟩
       simp only [if_neg h1, hy]
       exact ihm (i + 1) y (by omega)
      ·omega
    ·exact absurd h h'
   ·rw [List.drop_of_length_le (by omega)]; exact ⟨rfl, rfl⟩
 have := loop q.length 0 t (by omega)
 exact rY _ _ _ _ _ (by simpa using this)
theorem ub : ∀ (q : List Int) (t u : Tree), atK t q = some u → tbulk u ≤ tbulk t
 | [], t, u, h => by simp only [atK, Option.some.injEq] at h; subst h; exact Nat.le_refl _
 | x :: q, t, u, h => by
  simp only [atK] at h
  split at h
  ·cases h
  ·split at h
   ·cases h
   ·rename_i y hy
    have := ub q y u h
    have := bd hy
    omega
theorem CH (t : Tree) (q : List Int) (ht : tbulk t ≤ 1000000000) (hq : q.length ≤ 1000000000) : ie t q ((atK t q).getD (.node 0 [] [] [])) (atK t q).isSome := by
 refine uF 0 _ _ _ _ ⟨_, _, zA t q hq, fun h => ?_, fun h => ?_⟩
 ·cases ha : atK t q with
  | none => exact ⟨rfl, rfl⟩
  | some u => rw [ha] at h; cases h
 ·cases ha : atK t q with
  | none => rw [ha] at h; cases h
  | some u => exact ⟨u, wl u (Nat.le_trans (ub q t u ha) ht), rfl, rfl⟩
def Dg (L : List Int) (a : Int) : Prop := 0 ≤ a ∧ a ≤ L.length ∧ L.length ≤ 1000000000
theorem pC {L : List Int} {a n : Int} (hd : Dg L a) (hn : 0 < n) (hn2 : n ≤ 1000000000) : ∃ r a', cO L a n r L a' ∧ (0 ≤ r ∧ r < n) ∧ Dg L a' := by
 obtain ⟨h0, h1, h2⟩ := hd
 by_cases h : (L.length : Int) ≤ a
 ·exact ⟨0, a, gj 0 _ _ _ _ _ _ (⟨fun _ => ⟨rfl, rfl, rfl⟩, fun h' => absurd h h'⟩), by omega, h0, h1, h2⟩
 ·obtain ⟨x, hx, _⟩ | h' := gz L a.toNat
  ·obtain ⟨r, hr, hr1⟩ := sU (a := x) hn hn2
   exact ⟨r, a + 1, gj 0 _ _ _ _ _ _ (⟨fun h' => absurd h' h, fun _ => ⟨⟨by omega, by omega⟩, ⟨by omega, by omega⟩, a.toNat, by omega, x, hx, r, hr, rfl, rfl, rfl⟩⟩), hr1, by omega, by omega, h2⟩
  ·omega
abbrev bn (t : Tree) : Tree := .node 22 [] [] [t]
inductive GdT : Nat → Int → Tree → Prop
 | num (d : Nat) : GdT d 5 (.node 10 [52] [] [])
 | var (d : Nat) : GdT d 5 (.node 12 [120] [] [])
 | str (d : Nat) : GdT d 6 (.node 11 [34, 115, 34] [] [])
 | tru (d : Nat) : GdT d 7 (.node 13 [] [] [])
 | iff {d : Nat} {k : Int} {a b c : Tree} : GdT d 7 a → GdT d k b → GdT d k c → GdT (d + 1) k (.node 19 [] [] [a, b, c])
 | lett {d : Nat} {k : Int} {a b : Tree} : GdT d 6 a → GdT d k b → GdT (d + 1) k (.node 20 [121] [] [a, b])
 | par {d : Nat} {k : Int} {a : Tree} : GdT d k a → GdT (d + 1) k (.node 22 [] [] [a])
 | lss {d : Nat} {a b : Tree} : GdT d 5 a → GdT d 5 b → GdT (d + 1) 7 (.node 21 [60] [] [bn a, bn b])
 | call {d : Nat} {a : Tree} : GdT d 5 a → GdT (d + 1) 5 (.node 16 [102] [] [.node 17 [] [] [a]])
 | add {d : Nat} {k : Int} {a b : Tree} : (k = 5 ∨ k = 6) → GdT d k a → GdT d k b → GdT (d + 1) k (.node 21 [43] [] [bn a, bn b])
abbrev iR (k : Int) : Prop := k = 5 ∨ k = 6 ∨ k = 7
theorem nq (t : Tree) : ca t (bn t) := mC 0 _ _ (rfl)
theorem wo {L : List Int} {d : Nat} {D : Int} {k z : Int} {a : Int} (m : Nat) (hd : Dg L a) (hk : iR k) (hz : z = 0) : ∃ t a', cC (m + 3) k D L a z t L a' ∧ GdT d k t ∧ Dg L a' := by
 have key : ∃ t a', cH (m + 1) k D L a z false t L a' ∧ GdT d k t ∧ Dg L a' := by
  rcases hk with rfl | rfl | rfl
  ·obtain ⟨r, a', h1, h2, h3⟩ := pC hd (n := 2) (by decide) (by decide)
   by_cases h0 : r = 0
   ·exact ⟨_, a', bz m _ _ _ _ _ _ _ _ _ (⟨fun h => (by cases h), fun _ => ⟨fun h => absurd h (by omega), fun _ => ⟨fun h => absurd h (by decide), fun _ => ⟨fun h => absurd h (by decide), fun _ => ⟨_, _, _, h1, fun _ => ⟨rfl, rfl, rfl⟩, fun h => absurd h0 h⟩⟩⟩⟩⟩), .var d, h3⟩
   ·exact ⟨_, a', bz m _ _ _ _ _ _ _ _ _ (⟨fun h => (by cases h), fun _ => ⟨fun h => absurd h (by omega), fun _ => ⟨fun h => absurd h (by decide), fun _ => ⟨fun h => absurd h (by decide), fun _ => ⟨_, _, _, h1, fun h => absurd h h0, fun _ => ⟨rfl, rfl, rfl⟩⟩⟩⟩⟩⟩), .num d, h3⟩
  ·exact ⟨_, a, bz m _ _ _ _ _ _ _ _ _ (⟨fun h => (by cases h), fun _ => ⟨fun h => absurd h (by omega), fun _ => ⟨fun _ => ⟨rfl, rfl, rfl⟩, fun h => absurd rfl h⟩⟩⟩), .str d, hd⟩
  ·exact ⟨_, a, bz m _ _ _ _ _ _ _ _ _ (⟨fun h => (by cases h), fun _ => ⟨fun h => absurd h (by omega), fun _ => ⟨fun h => absurd h (by decide), fun _ => ⟨fun _ => ⟨rfl, rfl, rfl⟩, fun h => absurd rfl h⟩⟩⟩⟩), .tru d, hd⟩
 obtain ⟨t, a', h1, h2, h3⟩ := key
 refine ⟨t, a', cm (m + 2) _ _ _ _ _ _ _ _ (⟨fun h => absurd h (by omega), fun _ => ⟨fun h => absurd h (by omega), fun _ => ⟨fun h => absurd h (by omega), fun _ => ⟨fun h => absurd h (by omega), fun _ => ?_⟩⟩⟩⟩), h2, h3⟩
 exact fb (m + 1) _ _ _ _ _ _ _ _ _ (⟨fun h => (by cases h), fun _ => ⟨fun h => absurd h (by omega), fun _ => h1⟩⟩)
theorem xh {L : List Int} : ∀ (d : Nat) {k a : Int}, d ≤ 100 → iR k → Dg L a → ∃ t a', ax L a k d t L a' ∧ GdT d k t ∧ Dg L a'
 | 0, k, a, _, hk, hd => by
  obtain ⟨r, a1, h1, h2, h3⟩ := pC hd (n := 6) (by decide) (by decide)
  obtain ⟨t, a', g1, g2, g3⟩ := wo (d := 0) (D := ((0 : Nat) : Int)) 0 h3 hk rfl
  exact ⟨t, a', iE 3 _ _ _ _ _ _ _ (⟨_, _, _, h1, fun _ => g1, fun h => absurd (by decide) h⟩), g2, g3⟩
 | d + 1, k, a, hdd, hk, hd => by
  obtain ⟨r, a1, h1, ⟨r0, r6⟩, h3⟩ := pC hd (n := 6) (by decide) (by decide)
  have up : ∀ {t a'} (m : Nat), cC m k ((d + 1 : Nat) : Int) L a1 r t L a' → ax L a k ((d + 1 : Nat) : Int) t L a' := fun m h => iE m _ _ _ _ _ _ _ (⟨_, _, _, h1, fun h => absurd h (by omega), fun _ => h⟩)
  have hi : InI (((d + 1 : Nat) : Int) - 1) := ⟨by omega, by omega⟩
  have e : ((d + 1 : Nat) : Int) - 1 = (d : Int) := by omega
  have ih : ∀ {k a : Int}, iR k → Dg L a → ∃ t a', ax L a k (((d + 1 : Nat) : Int) - 1) t L a' ∧ GdT d k t ∧ Dg L a' := fun h1 h2 => by rw [e]; exact xh d (by omega) h1 h2
  by_cases e0 : r = 0
  ·obtain ⟨t, a', g1, g2, g3⟩ := wo (d := d + 1) (D := ((d + 1 : Nat) : Int)) 0 h3 hk e0
   exact ⟨t, a', up 3 g1, g2, g3⟩
  by_cases e1 : r = 1
  ·obtain ⟨t1, a2, f1, f2, f3⟩ := ih (.inr (.inr rfl)) h3
   obtain ⟨t2, a3, f4, f5, f6⟩ := ih hk f3
   obtain ⟨t3, a4, f7, f8, f9⟩ := ih hk f6
   exact ⟨_, a4, up 1 (cm 0 _ _ _ _ _ _ _ _ (⟨fun _ => ⟨hi, _, _, _, f1, hi, _, _, _, f4, hi, _, _, _, f7, rfl, rfl, rfl⟩, fun h => absurd e1 h⟩)), .iff f2 f5 f8, f9⟩
  by_cases e2 : r = 2
  ·obtain ⟨t1, a2, f1, f2, f3⟩ := ih (.inr (.inl rfl)) h3
   obtain ⟨t2, a3, f4, f5, f6⟩ := ih hk f3
   exact ⟨_, a3, up 1 (cm 0 _ _ _ _ _ _ _ _ (⟨fun h => absurd h e1, fun _ => ⟨fun _ => ⟨hi, _, _, _, f1, hi, _, _, _, f4, rfl, rfl, rfl⟩, fun h => absurd e2 h⟩⟩)), .lett f2 f5, f6⟩
  by_cases e3 : r = 3
  ·obtain ⟨t1, a2, f1, f2, f3⟩ := ih hk h3
   exact ⟨_, a2, up 1 (cm 0 _ _ _ _ _ _ _ _ (⟨fun h => absurd h e1, fun _ => ⟨fun h => absurd h e2, fun _ => ⟨fun _ => ⟨hi, _, _, _, f1, rfl, rfl, rfl⟩, fun h => absurd e3 h⟩⟩⟩)), .par f2, f3⟩
  have e4 : 3 < r := by omega
  have up1 : ∀ {t a'} (m : Nat), dE m k ((d + 1 : Nat) : Int) L a1 r (k == 7) t L a' → ax L a k ((d + 1 : Nat) : Int) t L a' := fun m h => up (m + 1) (cm m _ _ _ _ _ _ _ _ (⟨fun h => absurd h e1, fun _ => ⟨fun h => absurd h e2, fun _ => ⟨fun h => absurd h e3, fun _ => ⟨fun _ => h, fun h => absurd e4 h⟩⟩⟩⟩))
  by_cases k7 : k = 7
  ·subst k7
   obtain ⟨t1, a2, f1, f2, f3⟩ := ih (k := 5) (.inl rfl) h3
   obtain ⟨t2, a3, f4, f5, f6⟩ := ih (k := 5) (.inl rfl) f3
   exact ⟨_, a3, up1 1 (fb 0 _ _ _ _ _ _ _ _ _ (⟨fun _ => ⟨hi, _, _, _, f1, _, nq _, hi, _, _, _, f4, _, nq _, rfl, rfl, rfl⟩, fun h => (by cases h)⟩)), .lss f2 f5, f6⟩
  have k56 : k = 5 ∨ k = 6 := by rcases hk with h | h | h; exact .inl h; exact .inr h; exact absurd h k7
  have up2 : ∀ {t a' : _} (m : Nat) (b : Bool), (r = 4 → b = (k == 5)) → (r ≠ 4 → b = false) → cH m k ((d + 1 : Nat) : Int) L a1 r b t L a' → ax L a k ((d + 1 : Nat) : Int) t L a' := fun m b hb1 hb2 h => up1 (m + 1) (by
   rw [show (k == 7) = false by simp [k7]]
   exact fb m _ _ _ _ _ _ _ _ _ (⟨fun h => (by cases h), fun _ => ⟨fun h4 => hb1 h4 ▸ h, fun h4 => hb2 h4 ▸ h⟩⟩))
  by_cases e5 : r = 4 ∧ k = 5
  ·obtain ⟨e5, rfl⟩ := e5
   obtain ⟨t1, a2, f1, f2, f3⟩ := ih (k := 5) (.inl rfl) h3
   exact ⟨_, a2, up2 1 true (fun _ => rfl) (fun h => absurd e5 h) (bz 0 _ _ _ _ _ _ _ _ _ (⟨fun _ => ⟨hi, _, _, _, f1, rfl, rfl, rfl⟩, fun h => (by cases h)⟩)), .call f2, f3⟩
  ·obtain ⟨t1, a2, f1, f2, f3⟩ := ih hk h3
   obtain ⟨t2, a3, f4, f5, f6⟩ := ih hk f3
   exact ⟨_, a3, up2 1 false (fun h => by by_cases h5 : k = 5; exact absurd ⟨h, h5⟩ e5; simp [h5]) (fun _ => rfl) (bz 0 _ _ _ _ _ _ _ _ _ (⟨fun h => (by cases h), fun _ => ⟨fun _ => ⟨hi, _, _, _, f1, _, nq _, hi, _, _, _, f4, _, nq _, rfl, rfl, rfl⟩, fun h => absurd e4 h⟩⟩)), .add k56 f2 f5, f6⟩
theorem dv {d : Nat} {k : Int} {t : Tree} (h : GdT d k t) : dn t.kind = true := by cases h <;> rfl
theorem rB {d : Nat} {k : Int} {t : Tree} (h : GdT d k t) : iR k := by
 induction h with
 | num | var => exact .inl rfl
 | str => exact .inr (.inl rfl)
 | tru => exact .inr (.inr rfl)
 | iff _ _ _ _ h _ => exact h
 | lett _ _ _ h => exact h
 | par _ h => exact h
 | lss => exact .inr (.inr rfl)
 | call => exact .inl rfl
 | add h => rcases h with h | h; exact .inl h; exact .inr (.inl h)
theorem yi {k : Int} {w : List UInt8} {a : Tree} (h1 : decide (0 ≤ lz k 1) = true) (h2 : jm k w = true) (h3 : bc k 1 0 a.kind = true) (ha : shapeK a = true) : shapeK (.node k w [] [a]) = true := by
 simp only [shapeK, shapeKs, List.length_cons, List.length_nil, Bool.and_true, Bool.and_eq_true]
 exact ⟨⟨h1, h2⟩, h3, ha⟩
theorem va {k : Int} {w : List UInt8} {a b : Tree} (h1 : decide (0 ≤ lz k 2) = true) (h2 : jm k w = true) (h3 : bc k 2 0 a.kind = true) (h4 : bc k 2 1 b.kind = true) (ha : shapeK a = true) (hb : shapeK b = true) : shapeK (.node k w [] [a, b]) = true := by
 simp only [shapeK, shapeKs, List.length_cons, List.length_nil, Bool.and_true, Bool.and_eq_true]
 exact ⟨⟨h1, h2⟩, ⟨h3, ha⟩, h4, hb⟩
theorem BQ {k : Int} {w : List UInt8} {a b c : Tree} (h1 : decide (0 ≤ lz k 3) = true) (h2 : jm k w = true) (h3 : bc k 3 0 a.kind = true) (h4 : bc k 3 1 b.kind = true) (h5 : bc k 3 2 c.kind = true) (ha : shapeK a = true) (hb : shapeK b = true) (hc : shapeK c = true) : shapeK (.node k w [] [a, b, c]) = true := by
 simp only [shapeK, shapeKs, List.length_cons, List.length_nil, Bool.and_true, Bool.and_eq_true]
 exact ⟨⟨h1, h2⟩, ⟨h3, ha⟩, ⟨h4, hb⟩, h5, hc⟩
theorem CM {a : Tree} (h : dn a.kind = true) : bc 22 1 0 a.kind = true := by simpa [bc] using h
theorem qZ {a : Tree} (h : dn a.kind = true) (ha : shapeK a = true) : shapeK (bn a) = true := yi (by decide +kernel) (by decide +kernel) (CM h) ha
theorem yu {d : Nat} {k : Int} {t : Tree} (h : GdT d k t) : shapeK t = true := by
 induction h with
 | num => decide +kernel
 | var => decide +kernel
 | str => decide +kernel
 | tru => decide +kernel
 | iff a b c ha hb hc => exact BQ (by decide +kernel) (by decide +kernel) (by simpa [bc] using dv a) (by simpa [bc] using dv b) (by simpa [bc] using dv c) ha hb hc
 | lett a b ha hb => exact va (by decide +kernel) (by decide +kernel) (by simpa [bc] using dv a) (by simpa [bc] using dv b) ha hb
 | par a ha => exact qZ (dv a) ha
 | lss a b ha hb => exact va (by decide +kernel) (by decide +kernel) (show bc 21 2 0 22 = true by decide +kernel) (show bc 21 2 1 22 = true by decide +kernel) (qZ (dv a) ha) (qZ (dv b) hb)
 | call a ha => exact yi (by decide +kernel) (by decide +kernel) (show bc 16 1 0 17 = true by decide +kernel) (yi (by decide +kernel) (by decide +kernel) (by simpa [bc] using dv a) ha)
 | add _ a b ha hb => exact va (by decide +kernel) (by decide +kernel) (show bc 21 2 0 22 = true by decide +kernel) (show bc 21 2 1 22 = true by decide +kernel) (qZ (dv a) ha) (qZ (dv b) hb)
theorem zB {d : Nat} {k : Int} {t : Tree} (h : GdT d k t) : tbulk t ≤ 10 * 4 ^ d := by
 induction h with
 | num d | var d | str d | tru d => have := Nat.one_le_two_pow (n := d); have : 1 ≤ 4 ^ d := Nat.one_le_pow _ _ (by decide); simp [tbulk, kbulk, lsum]; omega
 | @iff d _ _ _ _ _ _ _ ha hb hc => have : 1 ≤ 4 ^ d := Nat.one_le_pow _ _ (by decide); simp [tbulk, kbulk, lsum, Nat.pow_succ]; omega
 | @lett d _ _ _ _ _ ha hb => have : 1 ≤ 4 ^ d := Nat.one_le_pow _ _ (by decide); simp [tbulk, kbulk, lsum, Nat.pow_succ]; omega
 | @par d _ _ _ ha => have : 1 ≤ 4 ^ d := Nat.one_le_pow _ _ (by decide); simp [tbulk, kbulk, lsum, Nat.pow_succ]; omega
 | @lss d _ _ _ _ ha hb => have : 1 ≤ 4 ^ d := Nat.one_le_pow _ _ (by decide); simp [tbulk, kbulk, lsum, Nat.pow_succ]; omega
 | @call d _ _ ha => have : 1 ≤ 4 ^ d := Nat.one_le_pow _ _ (by decide); simp [tbulk, kbulk, lsum, Nat.pow_succ]; omega
 | @add d _ _ _ _ _ _ ha hb => have : 1 ≤ 4 ^ d := Nat.one_le_pow _ _ (by decide); simp [tbulk, kbulk, lsum, Nat.pow_succ]; omega
def sdr (s : Sv) (u : Nat) : Sv := { s with tg := s.tg.drop u }
theorem lM (s : Sv) (u v : Nat) : sdr (sdr s u) v = sdr s (u + v) := by simp only [sdr, List.drop_drop]
abbrev pS : aa := ⟨[⟨5, 0⟩], ⟨5, 0⟩⟩
structure GE (x : Cx) (env : Env) (s : Sv) (u : Nat) : Prop where
 v : eX [120] env = some ⟨5, 0⟩
 sg : mlook (0, 0) x.sg = some pS
 tg : ∀ (i : Nat) (g : GTarget), s.tg[i]? = some g → i < u → g.Free = false ∧ g.Module = 0 ∧ g.Def = 0
 tl : u ≤ s.tg.length
 wp : x.wp.length ≤ x.pa.length
theorem GE.go {x : Cx} {env : Env} {s : Sv} {u v : Nat} (h : GE x env s v) (i : Int) (hu : u ≤ v) : GE (x.go i) env s u := ⟨h.v, h.sg, fun j g h1 h2 => h.tg j g h1 (by omega), by have := h.tl; omega, by have := h.wp; simp [Cx.go]; omega⟩
theorem GE.dr {x : Cx} {env : Env} {s : Sv} {u v w : Nat} (h : GE x env s w) (hu : u + v ≤ w) : GE x env (sdr s u) v := ⟨h.v, h.sg, fun j g h1 h2 => h.tg (u + j) g (by simpa [sdr, List.getElem?_drop] using h1) (by omega), by have := h.tl; simp [sdr]; omega, h.wp⟩
theorem xo {x : Cx} (i : Nat) (k : Kn) (s : Sv) (h : x.wp.length ≤ x.pa.length) : knS x i k s = s := by
 unfold knS
 rw [if_neg]
 rintro ⟨_, h2⟩
 have := congrArg List.length h2
 simp at this; omega
def Gsay (n : Nat) (t : Tree) (k : Int) : Prop := ∀ x env s, GE x env s (uN t) → dS n x t env s = (⟨k, 0⟩, sdr s (uN t))
theorem eF {n : Nat} {t u : Tree} {k : Int} {i : Nat} {x : Cx} {env : Env} {s : Sv} {v : Nat} (hu : t.kids[i]? = some u) (hs : Gsay n u k) (h : GE x env s v) (hv : uN u ≤ v) : aR (dS n) x t i env s = (⟨k, 0⟩, sdr s (uN u)) := by
 unfold aR
 rw [fZ hu, hs _ _ _ (h.go i hv)]
 simp only [uI]
 rw [xo _ _ _ h.wp]
theorem mI {n : Nat} {a : Tree} {k : Int} (h : Gsay n a k) : Gsay (n + 1) (bn a) k := fun x env s hg => by
 have e : uN (bn a) = uN a := by simp [uN, uNs]
 rw [e] at hg ⊢
 have := eF (t := bn a) (i := 0) rfl h hg (Nat.le_refl _)
 simp only [dS, bC, Tree.kind]
 simpa using this
theorem BN {d : Nat} {k : Int} {t : Tree} (h : GdT d k t) : ∀ n, tbulk t ≤ n → Gsay n t k := by
 induction h with
 | num d =>
  intro n hn
  obtain ⟨m, rfl⟩ : ∃ m, n = m + 1 := ⟨n - 1, by simp [tbulk] at hn; omega⟩
  exact fun x env s hg => rfl
 | var d =>
  intro n hn
  obtain ⟨m, rfl⟩ : ∃ m, n = m + 1 := ⟨n - 1, by simp [tbulk] at hn; omega⟩
  exact fun x env s hg => by
   show iG x s (eX [120] env) = _
   rw [hg.v]; rfl
 | str d =>
  intro n hn
  obtain ⟨m, rfl⟩ : ∃ m, n = m + 1 := ⟨n - 1, by simp [tbulk] at hn; omega⟩
  exact fun x env s hg => rfl
 | tru d =>
  intro n hn
  obtain ⟨m, rfl⟩ : ∃ m, n = m + 1 := ⟨n - 1, by simp [tbulk] at hn; omega⟩
  exact fun x env s hg => rfl
 | @iff d k a b c ga gb gc ha hb hc =>
  intro n hn
  simp only [tbulk, kbulk, lsum, List.length_nil] at hn
  obtain ⟨m, rfl⟩ : ∃ m, n = m + 1 := ⟨n - 1, by omega⟩
  intro x env s hg
  have e : uN (.node 19 [] [] [a, b, c]) = uN a + uN b + uN c := by simp [uN, uNs]; omega
  rw [e] at hg ⊢
  have k1 := eF (t := .node 19 [] [] [a, b, c]) (i := 0) rfl (ha m (by omega)) hg (by omega)
  have k2 := eF (t := .node 19 [] [] [a, b, c]) (i := 1) rfl (hb m (by omega)) (hg.dr (u := uN a) (v := uN b) (by omega)) (Nat.le_refl _)
  have k3 := eF (t := .node 19 [] [] [a, b, c]) (i := 2) rfl (hc m (by omega)) (hg.dr (u := uN a + uN b) (v := uN c) (by omega)) (Nat.le_refl _)
  show ifP (dS m) x (.node 19 [] [] [a, b, c]) env s = _
  rw [lM] at k2 k3
  have hk0 : k ≠ 0 := by rcases rB gb with h | h | h <;> omega
  unfold ifP
  rw [k1]
  simp only [ifS]
  rw [show aP ⟨7, 0⟩ ⟨7, 0⟩ = false from rfl, if_neg (by simp), k2]
  simp only [ifR]
  rw [k3]
  simp only [ifQ]
  rw [if_neg hk0, if_neg (by simp [aP])]
 | @lett d k a b ga gb ha hb =>
  intro n hn
  simp only [tbulk, kbulk, lsum, List.length_nil] at hn
  obtain ⟨m, rfl⟩ : ∃ m, n = m + 1 := ⟨n - 1, by omega⟩
  intro x env s hg
  have e : uN (.node 20 [121] [] [a, b]) = uN a + uN b := by simp [uN, uNs]
  rw [e] at hg ⊢
  have k1 := eF (t := .node 20 [121] [] [a, b]) (i := 0) rfl (ha m (by omega)) hg (by omega)
  have hg2 : GE x (⟨[121], ⟨6, 0⟩⟩ :: env) (sdr s (uN a)) (uN b) := by
   have h := hg.dr (u := uN a) (v := uN b) (by omega)
   exact ⟨by rw [eX, if_neg (by simp)]; exact h.v, h.sg, h.tg, h.tl, h.wp⟩
  have k2 := eF (t := .node 20 [121] [] [a, b]) (i := 1) rfl (hb m (by omega)) hg2 (Nat.le_refl _)
  show vc (dS m) x (.node 20 [121] [] [a, b]) env (aR (dS m) x (.node 20 [121] [] [a, b]) 0 env s) = _
  rw [k1]
  simp only [vc]
  rw [lM] at k2
  exact k2
 | @par d k a ga ha =>
  intro n hn
  simp only [tbulk, kbulk, lsum, List.length_nil] at hn
  obtain ⟨m, rfl⟩ : ∃ m, n = m + 1 := ⟨n - 1, by omega⟩
  exact mI (ha m (by omega))
 | @lss d a b ga gb ha hb =>
  intro n hn
  simp only [tbulk, kbulk, lsum, List.length_nil] at hn
  obtain ⟨m, rfl⟩ : ∃ m, n = m + 1 + 1 := ⟨n - 2, by omega⟩
  intro x env s hg
  have e : uN (.node 21 [60] [] [bn a, bn b]) = uN (bn a) + uN (bn b) := by simp [uN, uNs]
  rw [e] at hg ⊢
  have k1 := eF (t := .node 21 [60] [] [bn a, bn b]) (i := 0) rfl (mI (ha m (by omega))) hg (by omega)
  have k2 := eF (t := .node 21 [60] [] [bn a, bn b]) (i := 1) rfl (mI (hb m (by omega))) (hg.dr (u := uN (bn a)) (v := uN (bn b)) (by omega)) (Nat.le_refl _)
  show ma (dS (m + 1)) x (.node 21 [60] [] [bn a, bn b]) env (aR (dS (m + 1)) x (.node 21 [60] [] [bn a, bn b]) 0 env s) = _
  rw [k1]
  simp only [ma]
  rw [lM] at k2
  rw [k2]
  rfl
 | @call d a ga ha =>
  intro n hn
  simp only [tbulk, kbulk, lsum, List.length_nil] at hn
  obtain ⟨m, rfl⟩ : ∃ m, n = m + 1 := ⟨n - 1, by omega⟩
  intro x env s hg
  have e : uN (.node 16 [102] [] [.node 17 [] [] [a]]) = 1 + uN a := by simp [uN, uNs]
  rw [e] at hg ⊢
  show kR (dS m) x (.node 16 [102] [] [.node 17 [] [] [a]]) env s = _
  obtain ⟨tg, fa, rs, rl⟩ := s
  cases tg with
  | nil => have := hg.tl; simp at this
  | cons g r =>
   obtain ⟨g1, g2, g3⟩ := hg.tg 0 g rfl (by omega)
   have hG : lR x g = pS := by
    unfold lR
    rw [g1, g2, g3, hg.sg]; rfl
   have k1 := eF (t := .node 17 [] [] [a]) (i := 0) rfl (ha m (by omega)) ((hg.dr (u := 1) (v := uN a) (by omega)).go 0 (Nat.le_refl _)) (Nat.le_refl _)
   unfold kR
   simp only [List.headD_cons]
   rw [hG]
   have hF : pm x (.node 16 [102] [] [.node 17 [] [] [a]]) g pS (cr ⟨g :: r, fa, rs, rl⟩) = sdr ⟨g :: r, fa, rs, rl⟩ 1 := by
    unfold pm
    rw [g1]
    rfl
   rw [hF]
   simp only [Tree.kids, en]
   rw [show ((0 : Nat) : Int) = 0 from rfl] 
   rw [k1]
   simp only [lV, List.getElem?_cons_zero]
   rw [show aP ⟨5, 0⟩ ⟨5, 0⟩ = false from rfl, if_neg (by simp), lM]
 | @add d k a b hk ga gb ha hb =>
  intro n hn
  simp only [tbulk, kbulk, lsum, List.length_nil] at hn
  obtain ⟨m, rfl⟩ : ∃ m, n = m + 1 + 1 := ⟨n - 2, by omega⟩
  intro x env s hg
  have e : uN (.node 21 [43] [] [bn a, bn b]) = uN (bn a) + uN (bn b) := by simp [uN, uNs]
  rw [e] at hg ⊢
  have k1 := eF (t := .node 21 [43] [] [bn a, bn b]) (i := 0) rfl (mI (ha m (by omega))) hg (by omega)
  have k2 := eF (t := .node 21 [43] [] [bn a, bn b]) (i := 1) rfl (mI (hb m (by omega))) (hg.dr (u := uN (bn a)) (v := uN (bn b)) (by omega)) (Nat.le_refl _)
  show ma (dS (m + 1)) x (.node 21 [43] [] [bn a, bn b]) env (aR (dS (m + 1)) x (.node 21 [43] [] [bn a, bn b]) 0 env s) = _
  rw [k1]
  simp only [ma]
  rw [lM] at k2
  rw [k2]
  rcases hk with rfl | rfl <;> rfl
mutual
def useG : Tree → Bool
 | .node k w _ ks => (!(k == 16 || k == 9) || w == [102]) && useGs ks
def useGs : List Tree → Bool
 | [] => true
 | t :: r => useG t && useGs r
end
mutual
theorem useG_nod : ∀ (t : Tree) (q : List Int), useG t = true → ∀ x ∈ nodK t q, mq x.2 = true → x.2.text = [102]
 | .node k w ls ks, q, h, x, hx, hu => by
  simp only [useG, Bool.and_eq_true] at h
  simp only [nodK, List.mem_cons] at hx
  rcases hx with rfl | hx
  ·simp only [mq, Tree.kind] at hu
   rw [hu] at h
   simpa [Tree.text] using h.1
  ·exact useGs_nod ks q 0 h.2 x hx hu
theorem useGs_nod : ∀ (l : List Tree) (q : List Int) (i : Nat), useGs l = true → ∀ x ∈ nodKs l q i, mq x.2 = true → x.2.text = [102]
 | [], q, i, h, x, hx, hu => by simp [nodKs] at hx
 | t :: r, q, i, h, x, hx, hu => by
  simp only [useGs, Bool.and_eq_true] at h
  simp only [nodKs, List.mem_append] at hx
  rcases hx with hx | hx
  ·exact useG_nod t _ h.1 x hx hu
  ·exact useGs_nod r q (i + 1) h.2 x hx hu
end
theorem AI {d : Nat} {k : Int} {t : Tree} (h : GdT d k t) : useG t = true := by
 induction h with
 | num | var | str | tru => rfl
 | iff _ _ _ ha hb hc => simp [useG, useGs, ha, hb, hc]
 | lett _ _ ha hb => simp [useG, useGs, ha, hb]
 | par _ ha => simp [useG, useGs, ha]
 | lss _ _ ha hb => simp [useG, useGs, ha, hb]
 | call _ ha => simp [useG, useGs, ha]
 | add _ _ _ ha hb => simp [useG, useGs, ha, hb]
mutual
theorem tgs_uN (p : List Tree) (m : Int) : ∀ (t : Tree) (q : List Int), (ds p m (nodK t q)).length = uN t
 | .node k w ls ks, q => by
  simp only [nodK, ds, List.length_append, uN, tgs_uNs p m ks q 0, mq, Tree.kind]
  by_cases h : k = 16 ∨ k = 9
  ·have h' : (k == 16 || k == 9) = true := by simpa using h
   simp only [h', if_pos h, if_true, List.length_cons, List.length_nil, Nat.zero_add]
  ·have h' : (k == 16 || k == 9) = false := by simpa using h
   simp only [h', if_neg h, Bool.false_eq_true, if_false, List.length_nil]
theorem tgs_uNs (p : List Tree) (m : Int) : ∀ (l : List Tree) (q : List Int) (i : Nat), (ds p m (nodKs l q i)).length = uNs l
 | [], q, i => by simp [nodKs, ds, uNs]
 | t :: r, q, i => by simp only [nodKs, oe, List.length_append, uNs, tgs_uN p m t, tgs_uNs p m r]
end
theorem rr (p : List Tree) : ∀ (l : List Tree) (i : Nat), (jM p i l).length = uNs l
 | [], i => rfl
 | t :: r, i => by simp only [jM, List.length_append, uNs, tgs_uN, rr p r]
theorem uy (p : List Tree) (m : Int) : ∀ (l : List (List Int × Tree)) (g : GTarget), g ∈ ds p m l → ∃ x ∈ l, mq x.2 = true ∧ g = tgK p m x.1 x.2
 | [], g, h => by simp [ds] at h
 | x :: r, g, h => by
  simp only [ds, List.mem_append] at h
  rcases h with h | h
  ·split at h
   ·rename_i hu
    simp only [List.mem_singleton] at h
    exact ⟨x, by simp, hu, h⟩
   ·simp at h
  ·obtain ⟨y, h1, h2⟩ := uy p m r g h
   exact ⟨y, by simp [h1], h2⟩
theorem Cj {n i kk : Int} (h : i = n - 1) (hk : dn kk = true) : bc 2 n i kk = true := by
 simp only [bc]
 rw [if_neg (by decide), if_pos trivial, if_pos h]; exact hk
theorem uZ {d : Nat} {k r : Int} {b : Tree} (h : GdT d k b) (hd : d ≤ 4) (hr : iR r) : lJ (aJ r b) = true ∧ jH (aJ r b) = true ∧ kbulk (aJ r b) ≤ 10000000 := by
 have h1 := yu h
 have h2 := dv h
 have h3 := zB h
 have h4 : 4 ^ d ≤ 4 ^ 4 := Nat.pow_le_pow_right (by decide) hd
 have sp : shapeK (.node 4 [120] [] [.node 5 [] [] []]) = true := by decide +kernel
 have sr : shapeK (.node r [] [] []) = true := by rcases hr with rfl | rfl | rfl <;> decide +kernel
 have sf : shapeK (.node 2 [102] [] [.node 4 [120] [] [.node 5 [] [] []], .node 5 [] [] [], .node 12 [120] [] []]) = true := by decide +kernel
 have sg : shapeK (.node 2 [103] [] [.node 4 [120] [] [.node 5 [] [] []], .node r [] [] [], b]) = true := BQ (by decide +kernel) (by decide +kernel) (by decide +kernel) (by rcases hr with rfl | rfl | rfl <;> decide +kernel) (Cj (by decide) h2) sp sr h1
 have sm : shapeK (.node 1 [77] [] [.node 2 [102] [] [.node 4 [120] [] [.node 5 [] [] []], .node 5 [] [] [], .node 12 [120] [] []], .node 2 [103] [] [.node 4 [120] [] [.node 5 [] [] []], .node r [] [] [], b]]) = true := va (by decide +kernel) (by decide +kernel) (by decide +kernel) (show bc 1 2 1 2 = true by decide +kernel) sf sg
 refine ⟨?_, ?_, ?_⟩
 ·unfold aJ lJ
  simp only [List.all_cons, List.all_nil, Bool.and_true, sm, Tree.kind, Tree.kids, Bool.and_eq_true]
  refine ⟨rfl, by decide +kernel, ?_⟩
  unfold po
  rw [sg]
  rcases hr with rfl | rfl | rfl <;> rfl
 ·unfold aJ
  simp only [jH, sm, Bool.and_true]
  rfl
 ·simp only [aJ, kbulk, tbulk, lsum, List.length_cons, List.length_nil]; omega
theorem Cv (r : Int) (b : Tree) : jI (aJ r b) 0 [102] = (0, 0, true) := rfl
theorem uE {d : Nat} {k r : Int} {b : Tree} (h : GdT d k b) (hd : d ≤ 4) (hr : iR r) : (bl (aJ r b)).length = uNs (aJ r b) ∧ uNs (aJ r b) = uN b ∧ ∀ g ∈ bl (aJ r b), g.Free = false ∧ g.Module = 0 ∧ g.Def = 0 := by
 have hk := (uZ h hd hr).2.1
 have hr' : ¬ (r = 16 ∨ r = 9) := by rcases hr with rfl | rfl | rfl <;> decide
 refine ⟨by rw [bl, if_pos hk, rr], ?_, fun g hg => ?_⟩
 ·simp [aJ, uN, uNs, hr']
 ·rw [bl, if_pos hk] at hg
  have e : jM (aJ r b) 0 (aJ r b) = ds (aJ r b) 0 (nodK ((aJ r b).headD b) []) := by
   show ds (aJ r b) ((0 : Nat) : Int) (nodK _ []) ++ [] = _
   rw [List.append_nil]; rfl
  rw [e] at hg
  obtain ⟨x, hx, hu, rfl⟩ := uy _ _ _ _ hg
  have hut : useG ((aJ r b).headD b) = true := by
   have := AI h
   rcases hr with rfl | rfl | rfl <;> simp [aJ, useG, useGs, this]
  have ht := useG_nod _ _ hut x hx hu
  unfold tgK
  rw [ht, Cv]
  exact ⟨rfl, rfl, rfl⟩
def yE : Tree := .node 2 [102] [] [.node 4 [120] [] [.node 5 [] [] []], .node 5 [] [] [], .node 12 [120] [] []]
theorem Bu (x : Cx) (s : Sv) (h : x.pa ++ [((2 : Nat) : Int)] ≠ x.wp) : iH x yE pS s = s := by
 have e : iH x yE pS s = funQ x 2 ⟨5, 0⟩ (⟨5, 0⟩, knS x 2 ⟨5, 0⟩ s) := rfl
 rw [e]
 have : knS x 2 ⟨5, 0⟩ s = s := by unfold knS; rw [if_neg (fun h' => h h'.2)]
 rw [this]; rfl
def qH (r : Int) (b : Tree) : Tree := .node 2 [103] [] [.node 4 [120] [] [.node 5 [] [] []], .node r [] [] [], b]
theorem Br {d : Nat} {k r : Int} {b : Tree} (h : GdT d k b) (hr : iR r) (x : Cx) (s : Sv) (hg : GE (x.go 2) [⟨[120], ⟨5, 0⟩⟩] s (uN b)) : iH x (qH r b) ⟨[⟨5, 0⟩], ⟨r, 0⟩⟩ s = funQ x 2 ⟨r, 0⟩ (⟨k, 0⟩, knS x 2 ⟨k, 0⟩ (sdr s (uN b))) := by
 have e : iH x (qH r b) ⟨[⟨5, 0⟩], ⟨r, 0⟩⟩ s = funQ x 2 ⟨r, 0⟩ (uI x 2 (dS (tbulk (qH r b)) (x.go 2) b [⟨[120], ⟨5, 0⟩⟩] s)) := by
  rcases hr with rfl | rfl | rfl <;> rfl
 rw [e, BN h _ (by have := bd (t := qH r b) (i := 2) (u := b) rfl; omega) _ _ _ hg]
 rfl
theorem zb {d : Nat} {k r : Int} {b : Tree} (h : GdT d k b) (hd : d ≤ 4) (hr : iR r) (wp : List Int) (hw : wp = [] ∨ wp = [1, 2]) : dC (aJ r b) 0 wp = funQ (((cx0 (aJ r b) 0 wp).md 0).go 1) 2 ⟨r, 0⟩ (⟨k, 0⟩, knS (((cx0 (aJ r b) 0 wp).md 0).go 1) 2 ⟨k, 0⟩ (sdr ⟨bl (aJ r b), [], 0, 0⟩ (uN b))) := by
 obtain ⟨t1, t2, t3⟩ := uE h hd hr
 have e : dC (aJ r b) 0 wp = iH (((cx0 (aJ r b) 0 wp).md 0).go 1) (qH r b) ⟨[⟨5, 0⟩], ⟨r, 0⟩⟩ (iH (((cx0 (aJ r b) 0 wp).md 0).go 0) yE pS ⟨bl (aJ r b), [], 0, 0⟩) := by
  rcases hr with rfl | rfl | rfl <;> rfl
 rw [e, Bu _ _ (by rcases hw with rfl | rfl <;> (intro h; simp [Cx.go, Cx.md, cx0] at h))]
 refine Br h hr _ _ ⟨rfl, ?_, fun i g h1 h2 => t3 g (List.mem_of_getElem? h1), by rw [← t2, t1]; exact Nat.le_refl _, ?_⟩
 ·rcases hr with rfl | rfl | rfl <;> rfl
 ·rcases hw with rfl | rfl <;> simp [Cx.go, Cx.md, cx0]
theorem tK {d : Nat} {k r : Int} {b : Tree} (h : GdT d k b) (hd : d ≤ 4) (hr : iR r) : (dC (aJ r b) 0 []).fa = if k = r then [] else [⟨⟨0, [1, 2]⟩, 4⟩] := by
 rw [zb h hd hr [] (.inl rfl)]
 have e : ∀ s, knS (((cx0 (aJ r b) 0 []).md 0).go 1) 2 ⟨k, 0⟩ s = s := fun s => xo _ _ _ (by simp [cx0, Cx.md, Cx.go])
 rw [e]
 simp only [funQ]
 have hk := rB h
 rcases hk with rfl | rfl | rfl <;> rcases hr with rfl | rfl | rfl <;> rfl
theorem zJ {d : Nat} {k : Int} {b : Tree} (h : GdT d k b) (hd : d ≤ 4) : (dC (aJ k b) 0 [1, 2]).rs = k ∧ (dC (aJ k b) 0 [1, 2]).rl = 0 := by
 have hk := rB h
 rw [zb h hd hk [1, 2] (.inr rfl)]
 rcases hk with rfl | rfl | rfl <;> exact ⟨rfl, rfl⟩
theorem AT (l : List Int) (z1 z2 : Int) : fF l z1 z2 true := by
 have hL : fI l (decide (((l.length : Nat) : Int) ≤ 120)) := mD 0 _ _ (rfl)
 refine jL 0 _ _ _ _ (⟨_, hL, fun _ => ⟨true, vw, rfl⟩, fun hb => ?_⟩)
 have hl : l.length ≤ 1000000000 := by have := of_decide_eq_true hb; omega
 obtain ⟨r1, h1, h2, h3⟩ := sU (a := z1) (n := 3) (by decide) (by decide)
 obtain ⟨r2, g1, g2, g3⟩ := sU (a := z2) (n := 3) (by decide) (by decide)
 have k1 : iR (5 + r1) := by unfold iR; omega
 have k2 : iR (5 + r2) := by unfold iR; omega
 obtain ⟨b, a', f1, f2, f3⟩ := xh (L := l) (k := 5 + r1) (a := 0) 4 (by decide) k1 ⟨by omega, by omega, hl⟩
 have d4 : (4 : Nat) ≤ 4 := Nat.le_refl _
 obtain ⟨p1, p2, p3⟩ := uZ f2 d4 k1
 obtain ⟨q1, q2, q3⟩ := uZ f2 d4 k2
 have tp := (uE f2 d4 k1).1
 have tq := (uE f2 d4 k2).1
 have kp : Known (aJ (5 + r1) b) := ⟨p1, p3, by omega⟩
 have kq : Known (aJ (5 + r2) b) := ⟨q1, q3, by omega⟩
 obtain ⟨c1, c2⟩ := zJ f2 d4
 have hat : ie ((aJ (5 + r1) b).headD b) [1, 2] b true := by
  have hb := co (show (aJ (5 + r1) b)[0]? = some ((aJ (5 + r1) b).headD b) from rfl)
  exact CH ((aJ (5 + r1) b).headD b) [1, 2] (by omega) (by decide)
 have o := AB (m := 0) (q := [1, 2]) (nc p1) p3 kp.u (t := (aJ (5 + r1) b).headD b) rfl hat (dv f2) c2
 have o3 : ofK (aJ (5 + r1) b) ((0 : Nat) : Int) [1, 2] = (.node (5 + r1) [] [] [], 0) := by
  unfold ofK
  rw [if_neg (by show ¬ (dC (aJ (5 + r1) b) 0 [1, 2]).rs = 0; rw [c1]; omega)]
  show (vd (dC (aJ (5 + r1) b) 0 [1, 2]).rl.toNat (.node (dC (aJ (5 + r1) b) 0 [1, 2]).rs [] [] []), (0 : Int)) = _
  rw [c1, c2]; rfl
 rw [o3] at o
 have e1 : br (aJ (5 + r1) b) [] := kp.errs (by rw [tK f2 d4 k1, if_pos rfl]; exact pU)
 have e2 : br (aJ (5 + r2) b) (if 5 + r1 = 5 + r2 then [] else [⟨⟨0, [1, 2]⟩, 4⟩]) := kq.errs (by
  rw [tK f2 d4 k2]
  split
  ·exact pU
  ·exact wB _)
 have hR : gu l l 0 := mW 0 _ _ _ (⟨hl, rfl, rfl⟩)
 refine ⟨r1, h1, ⟨by omega, by omega⟩, r2, g1, ⟨by omega, by omega⟩, _, _, hR, b, _, _, f1, _, sv _ _, _, sv _ _, _, _, o, _, e2, _, e1, fun h => absurd rfl h, fun _ => ⟨fun h => absurd rfl h, fun _ => ⟨fun h => absurd rfl h, fun _ => ⟨fun h => absurd rfl h, fun _ => ⟨fun h => ⟨true, vw, fun _ => ?_, fun h => (by cases h)⟩, fun h => ⟨true, vw, fun _ => ⟨fun _ => ?_, fun h' => ?_⟩, fun h => (by cases h)⟩⟩⟩⟩⟩⟩
 ·rw [if_pos h]; rfl
 ·rw [if_neg h]
  exact ⟨_, rfl, fun _ => ⟨_, rfl, true, lU _, rfl⟩, fun h => absurd rfl h⟩
 ·rw [if_neg h] at h'
  exact absurd rfl h'
open Go.RowKit Go.ChangeShapes Go.WideShapes Go.Deep
theorem xt : Tryz.prog.cellsOf 3 = 1 := by kernel_rfl
theorem BS {H : Type} {enc : TypeId × Value → H} {W : World} {a0 : Option Addr} {len cap : Nat} {d : DataW H} {p : List MemPlace} (h : DataW.Trod enc Tryz.prog W 0 (fun _ => true) true 22 (.slice a0 len cap) d p) :
  ∃ zs : List Int, len = zs.length ∧ len ≤ cap ∧ cap ≤ maxLen ∧ RowIn Any W 1 a0 zs.length (zs.map fun z => .int .i64 z) := by
 obtain ⟨fuel, hf⟩ := h
 rcases open_ints Tryz.underlying22 Tryz.underlying3 xt hf with ⟨hcs, hx⟩ | ⟨a, len', cap', zs, hcs, hb, hl, hm, hlen, hx, hcell, hwf⟩
 ·simp [Value.cells] at hcs
  obtain ⟨rfl, rfl, rfl⟩ := hcs
  exact ⟨[], rfl, Nat.le_refl _, Nat.zero_le _, RowIn.none_⟩
 ·simp [Value.cells] at hcs
  obtain ⟨rfl, rfl, rfl⟩ := hcs
  simp only [if_true] at hlen
  have hlt : (zs.take len).length = len := by simp; omega
  refine ⟨zs.take len, hlt.symm, hl, hm, by simp, fun h0 => ?_⟩
  rw [hlt] at h0 ⊢
  have hs : a.spot = none := World.cell?_spot (a := a) (by have := hcell 0 (by omega); simpa [Addr.add] using this)
  obtain ⟨b, off, spot⟩ := a
  simp only at hs
  subst hs
  have hadd : ∀ k, (⟨b, off, none⟩ : Addr).add k = ⟨b, off + k, none⟩ := fun k => by unfold Addr.add; split <;> simp_all
  refine ⟨b, off, rfl, trivial, ?_, fun j hj => ?_⟩
  ·have := hcell 0 (by omega)
   exact World.block_lt_of_cell? W ⟨b, off, none⟩ (by simpa [Addr.add] using this)
  ·have hj' : j < len := by omega
   have := hcell j (by omega)
   rw [hadd] at this
   rw [this]
   simp [hj', List.getD_eq_getElem?_getD, show j < zs.length from by omega]
abbrev gI (W : World) : Nat → Prop := fun b => b < W.heap.size
theorem RowIn.live {W : World} {sz n : Nat} {A : Option Addr} {xs : List Value} (h : RowIn Any W sz A n xs) : RowIn (gI W) W sz A n xs := ⟨h.1, fun hp => by
 obtain ⟨b, off, h1, _, h3, h4⟩ := h.2 hp
 exact ⟨b, off, h1, h3, h3, h4⟩⟩
mutual
theorem TreeIs.live {W : World} : ∀ {t : Tree} {c : List Value}, TreeIs Any W t c → TreeIs (gI W) W t c
 | .node k s ls ks, c, h => by
  simp only [TreeIs] at h ⊢
  obtain ⟨A, m, B, n, h1, h2, h3, h4, h5, h6, cs, h7, h8⟩ := h
  exact ⟨A, m, B, n, h1, h2, h3, h4, h5, h6.live, cs, KidsAre.live h7, h8.live⟩
theorem KidsAre.live {W : World} : ∀ {ts : List Tree} {cs : List Value}, KidsAre Any W ts cs → KidsAre (gI W) W ts cs
 | [], cs, h => by simp only [KidsAre] at h ⊢; exact h
 | t :: r, cs, h => by
  simp only [KidsAre] at h ⊢
  obtain ⟨c, d, h1, h2, h3⟩ := h
  exact ⟨c, d, h1, TreeIs.live h2, KidsAre.live h3⟩
end
abbrev VLive (W : World) (v : V) (x : Value) : Prop := VRel (gI W) W (fun _ => none) v x
theorem Dj {W : World} {l : List Int} {A : Option Addr} {cap : Nat} (hc : l.length ≤ cap) (hm : cap ≤ maxLen) (hr : RowIn Any W 1 A l.length (l.map fun z => .int .i64 z)) : VLive W (.row 1 (l.map (V.int .i64))) (.slice A l.length cap) := by
 simp only [VLive, VRel]
 exact ⟨A, cap, _, by simp, by simpa using hc, hm, sI l, by simpa using hr.live⟩
theorem Dk {W : World} (z : Int) : VLive W (.int .i64 z) (.int .i64 z) := by simp only [VLive, VRel]
theorem Dh {fid : FuncId} {us : List V} {b : Bool} (h : kl Tryz.prog fid us (.bool b)) {W : World} (hgl : ∀ p ∈ nA, VRel (gI W) W ρ0 (.box p.2 0) (.pointer (some ⟨p.1, 0, none⟩)) := by exact fun p hp => nomatch hp) {xs : List Value} (hx : LRel (gI W) W (fun _ => none) us xs) : Calls Tryz.prog fid xs.toArray W fun e W' => e = .returned (.bool b) ∧ Ext W W' := by
 have hr' : HRel (gI W) W (fun _ => none) (⟨0, []⟩ : Hp).get := yP ⟨fun _ h => h, hgl⟩
 refine (h.2.2 _ W _ xs hr' hx).mono ?_
 rintro e W' ⟨x, S', ρ', v, H', rfl, rfl, h1, h2, h3⟩
 simp only [VRel] at h3
 subst h3
 have hno : ∀ b, ¬ ∃ id, own (fun _ => none) id ((⟨0, []⟩ : Hp).get id) b := fun b ⟨id, hb⟩ => by rw [mF] at hb; exact hb
 exact ⟨rfl, Chg.ext ⟨h2.chg.os, h2.chg.tape, h2.chg.output, h2.chg.size, fun b hb _ => h2.chg.block b hb (hno b)⟩⟩
theorem lr1 {W : World} {u : V} {x : Value} (h : VLive W u x) : LRel (gI W) W (fun _ => none) [u] [x] := ⟨x, [], rfl, h, rfl⟩
theorem lrc {W : World} {u : V} {us : List V} {x : Value} {xs : List Value} (h : VLive W u x) (k : LRel (gI W) W (fun _ => none) us xs) : LRel (gI W) W (fun _ => none) (u :: us) (x :: xs) := ⟨x, xs, rfl, h, k⟩
open Go.RowKit Go.ChangeShapes Go.WideShapes Lx Sx
theorem tA : Tryz.prog.cellsOf 61 = 2 := by kernel_rfl
theorem vX : Tryz.prog.cellsOf 3 = 1 := by kernel_rfl
theorem oB {W : World} {n : String} {z : Int} {g : Nat} {r : List (String × DataW Unit)} {ps : List MemPlace} (hg : Tryz.prog.globalNamed n = some g) (ht : (Tryz.prog.globals[g]?).map (·.type) = some 61) (h : DataW.LaidVars Tryz.prog W ((n, .agg [.lit (.int .i64 z), .lit (.int .i64 0)]) :: r) ps) :
  (∃ qs, DataW.LaidVars Tryz.prog W r qs) ∧ VRel (gI W) W ρ0 (.box [.int .i64 z, .int .i64 0] 0) (.pointer (some ⟨g, 0, none⟩)) := by
 obtain ⟨g', t, cs, fuel, p, q, h1, h2, h3, h4, h5, _⟩ := h
 rw [hg] at h1
 injection h1 with h1; subst h1
 rw [ht] at h2
 injection h2 with h2; subst h2
 refine ⟨⟨q, h5⟩, ?_⟩
 obtain ⟨y0, y1, n', hx, hl, h6, h7⟩ := trod_struct2 Tryz.underlying61 h4
 rw [tA] at hl
 simp only [vX] at h6 h7
 obtain ⟨a, e0, f0, _⟩ := DataW.trod_int Tryz.underlying3 h6
 obtain ⟨b, e1, f1, _⟩ := DataW.trod_int Tryz.underlying3 h7
 rw [f0, f1] at hx
 simp only [Prod.mk.injEq, DataW.agg.injEq, List.cons.injEq, DataW.lit.injEq, Lit.int.injEq, true_and, and_true] at hx
 obtain ⟨⟨rfl, rfl⟩, _⟩ := hx
 have hcs : cs.toList = [.int .i64 z, .int .i64 0] := by
  match hc : cs.toList, hl with
  | [c0, c1], _ =>
   rw [hc] at e0 e1
   simp only [List.drop_zero, List.drop_succ_cons, List.take_succ_cons, List.take_zero, List.cons.injEq, and_true] at e0 e1
   rw [e0, e1]
 unfold World.var? at h3
 rw [hg] at h3
 simp only [Option.bind_some] at h3
 split at h3
 ·rename_i cs' ty fz hb
  injection h3 with h3; subst h3
  have hlt : g < W.heap.size := by
   rcases Nat.lt_or_ge g W.heap.size with h | h
   ·exact h
   ·rw [Array.getElem?_eq_none h] at hb; cases hb
  simp only [VRel]
  refine ⟨g, 0, [.int .i64 z, .int .i64 0], rfl, hlt, hlt, by simp only [LRel, VRel]; exact ⟨_, _, rfl, rfl, _, _, rfl, rfl, rfl⟩, fun j hj => ?_⟩
  rw [← hcs]
  simp [World.cell?, hb]
 ·cases h3
theorem Di {W : World} {ps : List MemPlace} (h : DataW.LaidVars Tryz.prog W [("semvcs/typing.integer", Rows.laid_semvcs_typing_integer), ("semvcs/typing.text", Rows.laid_semvcs_typing_text), ("semvcs/typing.boolean", Rows.laid_semvcs_typing_boolean)] ps) : ∀ p ∈ nA, VRel (gI W) W ρ0 (.box p.2 0) (.pointer (some ⟨p.1, 0, none⟩)) := by
 obtain ⟨⟨q1, h1⟩, a1⟩ := oB (g := 0) (by kernel_rfl) (by kernel_rfl) h
 obtain ⟨⟨q2, h2⟩, a2⟩ := oB (g := 1) (by kernel_rfl) (by kernel_rfl) h1
 obtain ⟨_, a3⟩ := oB (g := 2) (by kernel_rfl) (by kernel_rfl) h2
 intro p hp
 simp only [nA, List.mem_cons, List.not_mem_nil, or_false] at hp
 rcases hp with rfl | rfl | rfl
 ·exact a1
 ·exact a2
 ·exact a3
def yo (cs : Array Value) : Obj → Obj
 | .cells _ t frozen => .cells cs t frozen
 | o => o
noncomputable def wE (os : Os) : World :=
 let w0 := World.holding Tryz.prog os ⟨#[], #[], []⟩
 { w0 with heap := ((w0.heap.modify 0 (yo #[.int .i64 5, .int .i64 0])).modify 1 (yo #[.int .i64 6, .int .i64 0])).modify 2 (yo #[.int .i64 7, .int .i64 0]) }
theorem CO (os : Os) (args : Array Value) : laidMet Tryz.prog Rows.typingHolesRow.laid ((wE os).forCall (fun _ _ => 0) ⟨#[], args, []⟩).memory :=
 laidMet_of_run' 8 (by kernel_rfl) (by kernel_rfl)
end Go.Proofs.YtkkkpdbnnjoepaaGreatDoor
