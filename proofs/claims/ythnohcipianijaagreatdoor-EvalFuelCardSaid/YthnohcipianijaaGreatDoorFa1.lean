/- Contracts of the functions that the law reaches, part 1. -/
import Derived.Test.YthnohcipianijaaGreatDoorProg
import Derived.WalkKit
import Derived.WalkMore
import Derived.Lib.Hide
import Derived.Below
import Derived.Laws.OwnMore
import Derived.Deep.AppendLies
import Derived.Deep.Draws
import Derived.Maps.AppendAt
import Derived.OrdersHeld
import Derived.Deep.RegionHeld3
import Derived.Deep.LoopGhost
import Derived.Laws.MakeOwn
import Derived.LoopN
import Derived.Scope
import Derived.Maps.Keyed
import Derived.Laws.StructEq
import Derived.WideKeyRuns
import Derived.Laws.Pointers
import Derived.ChangeKeysEq
import Derived.Laws.BytesArg
import Derived.WalkLawsBesides
import Derived.WalkSpells
import Derived.Outline
import Derived.Deep.Light
import Derived.Lib.Bytealg
import Derived.Lib.Walk
import Derived.BigQuiet
import Derived.Deep.QuietTactic
import Derived.Shelf.Strconv.ParseIntPublic10
import Derived.Test.YthnohcipianijaaGreatDoorRows
import Derived.ProofKit
import Derived.Deep.Slices
import Derived.Deep.Strs
import Derived.Lib.SmallJoins
import Derived.ChangeSlices
import Derived.OpenShut
import Derived.Deep.DeepHandedRow
import Derived.LaidLaws
import Derived.ShutString
import Derived.SizedLaws
import Derived.JoinedCond
import Derived.Deep.CondSized
import Derived.Test.YthnohcipianijaaGreatDoorCards
import Derived.Test.YthnohcipianijaaGreatDoorTie
set_option linter.unusedVariables false
set_option linter.unusedSimpArgs false
namespace Go.Proofs.YthnohcipianijaaGreatDoor
open Go.RowKit
structure Fr (a : Act) (n : Nat) (f : Nat → Option Value) : Prop where
 size : a.tmps.size = n
 defers : a.defers = []
 get : ∀ i v, f i = some v → a.tmps[i]? = some v
def up (f : Nat → Option Value) (d : Nat) (v : Value) : Nat → Option Value := fun i => match Nat.beq i d with | true => some v | false => f i
def look (f : Nat → Option Value) (ops : Array Oper) (j : Nat) : Option Value := ((ops[j]?).bind (·.dst)).bind f
def uS (f : Nat → Option Value) (ops : Array Oper) (g : Option (Nat × Bool)) : Bool :=
 match g with
 | none => true
 |some (j, b) => match look f ops j with
  | some (.bool c) => c == b
  | _ => false
def sG (f : Nat → Option Value) (ops : Array Oper) (g : Option (Nat × Bool)) : Bool :=
 match g with
 | none => false
 |some (j, b) => match look f ops j with
  | some (.bool c) => c != b
  | some (.tuple _) => true
  | _ => false
def aF (f : Nat → Option Value) : Operand → Option Value
 | .tmp t => f t
 | .const v => some v
 | .global g => some (.pointer (some ⟨g, 0, none⟩))
 | .func g => some (.func (.func g) #[] #[])
section
variable {P : Program} {ops : Array Oper} {Q : Exit → Act → World → Prop} {a : Act} {w : World} {rest : List Oper} {n : Nat} {f : Nat → Option Value}
theorem Fr.eval (h : Fr a n f) {x : Operand} {v : Value} (hx : aF f x = some v) : a.eval x = v := by
 cases x with
 | tmp t =>
  have := h.get t v hx
  simp [Act.eval, Array.getD_eq_getD_getElem?, this]
 | const u => simpa [aF, Act.eval] using hx
 | global g => simpa [aF, Act.eval] using hx
 | func g => simpa [aF, Act.eval] using hx
theorem Fr.put (h : Fr a n f) {d : Nat} (hd : Nat.blt d n = true) (v : Value) : Fr (a.put (some d) v) n (up f d v) := by
 have hd' : d < n := by simpa using hd
 refine ⟨by simp [Act.put, h.size], h.defers, fun i u hi => ?_⟩
 simp only [up] at hi
 simp only [Act.put]
 split at hi
 ·rename_i hb
  have : i = d := Nat.eq_of_beq_eq_true hb
  subst this
  rw [Array.getElem?_setIfInBounds]
  simp [h.size, hd']; simpa using hi
 ·rename_i hb
  have : ¬ i = d := fun e => by subst e; simp at hb
  rw [Array.getElem?_setIfInBounds, if_neg (fun e => this e.symm)]
  exact h.get i u hi
theorem Fr.le (h : Fr a n f) {g : Nat → Option Value} (hg : ∀ i v, g i = some v → f i = some v) : Fr a n g := ⟨h.size, h.defers, fun i v hi => h.get i v (hg i v hi)⟩
theorem wa (h : Fr a n f) {j : Nat} {b : Bool} (hl : look f ops j = some (.bool b)) : yielded ops a.tmps j = some b := by
 unfold look at hl
 unfold yielded
 cases hd : (ops[j]?).bind (·.dst) with
 | none => rw [hd] at hl; cases hl
 | some d =>
  rw [hd] at hl
  have := h.get d _ hl
  simp [this]
theorem zz (h : Fr a n f) {j : Nat} {vs : Array Value} (hl : look f ops j = some (.tuple vs)) : yielded ops a.tmps j = none := by
 unfold look at hl
 unfold yielded
 cases hd : (ops[j]?).bind (·.dst) with
 | none => rw [hd] at hl; cases hl
 | some d =>
  rw [hd] at hl
  have := h.get d _ hl
  simp [this]
theorem tx (h : Fr a n f) {o : Oper} (hw : uS f ops o.guard = true) : Region.wanted o (yielded ops a.tmps) = true := by
 unfold Region.wanted
 unfold uS at hw
 split at hw
 ·rename_i hg; rw [hg]
 ·rename_i j b hg
  rw [hg]
  split at hw
  ·rename_i c hl
   show (yielded ops a.tmps j == some b) = true
   rw [wa h hl]; simpa using hw
  ·cases hw
theorem tH (h : Fr a n f) {o : Oper} (hw : sG f ops o.guard = true) : Region.wanted o (yielded ops a.tmps) = false := by
 unfold Region.wanted
 unfold sG at hw
 split at hw
 ·cases hw
 ·rename_i j b hg
  rw [hg]
  split at hw
  ·rename_i c hl
   show (yielded ops a.tmps j == some b) = false
   rw [wa h hl]; cases c <;> cases b <;> first | rfl | cases hw
  ·rename_i vs hl
   show (yielded ops a.tmps j == some b) = false
   rw [zz h hl]; rfl
  ·cases hw
variable {d : Nat} {ty : TypeId} {ps : String} {af : Array Edge} {g : Option (Nat × Bool)}
end
theorem Fr.results {a : Act} {n : Nat} {f : Nat → Option Value} (h : Fr a n f) {fn : Func} {t : Tmp} {v : Value} (hr : fn.results = #[.tmp t]) (hv : f t = some v) (P : Program) (w : World) : (results fn a.tmps).run P w = .ok v w := by
 rw [results_tmp hr]
 have := h.get t v hv
 simp [Array.getD_eq_getD_getElem?, this]
end Go.Proofs.YthnohcipianijaaGreatDoor
namespace Go.Proofs.YthnohcipianijaaGreatDoor
open Go.RowKit
def Ext (w w' : World) : Prop := Below w.heap.size w w'
section
variable {w w1 w2 : World}
theorem Ext.refl (w : World) : Ext w w := Below.refl _ _
theorem Ext.size (h : Ext w w1) : w.heap.size ≤ w1.heap.size := Below.size h
theorem Ext.trans (h : Ext w w1) (k : Ext w1 w2) : Ext w w2 := Below.trans h (Below.mono k h.size)
theorem Ext.drew (h : Ext w w1) : Ext w w1.drew := Below.drew h
theorem Ext.drewN (h : Ext w w1) (n : Nat) : Ext w (w1.drewN n) :=
 have h' : Below w.heap.size w w1 := h
 ⟨h'.os, h'.tape, h'.output, h'.size, h'.block⟩
theorem Ext.alloc (h : Ext w w1) (o : Obj) : Ext w (w1.alloc o) := Below.alloc h h.size o
theorem Ext.setCell (h : Ext w w1) {p : Addr} (hp : w.heap.size ≤ p.block) (u : Value) : Ext w (w1.setCell p u) := Below.setCell h hp u
theorem Ext.grown (h : Ext w w1) {row : Option Nat} (hg : w1.grownBy w2 row) (hr : ∀ k, row = some k → w.heap.size ≤ k) : Ext w w2 := Below.grown h hg h.size hr
theorem Ext.cell (h : Ext w w1) {p : Addr} (hp : p.block < w.heap.size) : w1.cell? p = w.cell? p := Below.cell h hp
theorem Ext.lt (h : Ext w w1) {b : Nat} (hb : b < w.heap.size) : b < w1.heap.size := Nat.lt_of_lt_of_le hb h.size
theorem Ext.frozen (h : Ext w w1) {p : Addr} (hp : p.block < w.heap.size) : w1.frozen? p = w.frozen? p := Below.frozen h hp
theorem Ext.block (h : Ext w w1) {k : Nat} (hk : k < w.heap.size) : w1.heap[k]? = w.heap[k]? := Below.block h k hk
end
def Row (w : World) (size : Nat) (A : Option Addr) (n : Nat) (xs : List Value) : Prop :=
 xs.length = n * size ∧ (0 < n → ∃ b off, A = some ⟨b, off, none⟩ ∧ b < w.heap.size ∧ ∀ j, j < n * size → w.cell? ⟨b, off + j, none⟩ = xs[j]?)
section
variable {w w' : World} {size n : Nat} {A : Option Addr} {xs : List Value}
theorem Row.none_ : Row w size A 0 [] := ⟨by simp, fun h => absurd h (by omega)⟩
theorem Row.ext (h : Row w size A n xs) (he : Ext w w') : Row w' size A n xs :=
 ⟨h.1, fun hn => by
  obtain ⟨b, off, e, hb, hc⟩ := h.2 hn
  exact ⟨b, off, e, he.lt hb, fun j hj => (he.cell (p := ⟨b, off + j, none⟩) hb).trans (hc j hj)⟩⟩
theorem Row.of_own {base : Nat} {e : TypeId} {c : Nat} (h : w.ownsRow base e size (.slice A n c) n xs) : Row w size A n xs := by
 refine ⟨h.1, fun hn => ?_⟩
 obtain ⟨g, cap, hv, _, hlt⟩ := h.form hn
 have hA : A = some ⟨g, 0, none⟩ := by injection hv
 subst hA
 refine ⟨g, 0, rfl, hlt, fun j hj => ?_⟩
 have hj' : j < xs.length := by rw [h.1]; exact hj
 have := h.cells (g := g) rfl j xs[j] (List.getElem?_eq_getElem hj')
 rw [List.getElem?_eq_getElem hj', Nat.zero_add, ← this]
 unfold Addr.add
 split <;> simp_all
end
theorem zY {w : World} {base : Nat} {e : TypeId} {size n : Nat} {v : Value} {xs : List Value} (h : w.ownsRow base e size v n xs) : ∃ A c, v = .slice A n c ∧ n ≤ c ∧ c ≤ maxLen := by
 rcases h.2 with ⟨rfl, rfl⟩ | ⟨g, cap, cur, rfl, _, _, hc, hm, _, _⟩
 ·exact ⟨none, 0, rfl, Nat.le_refl _, Nat.zero_le _⟩
 ·exact ⟨_, cap, rfl, hc, hm⟩
theorem CU {w w' : World} {base : Nat} {e : TypeId} {size n : Nat} {v : Value} {xs : List Value} (h : w.ownsRow base e size v n xs) (he : Ext w w') : w'.ownsRow base e size v n xs := by
 refine ⟨h.1, ?_⟩
 rcases h.2 with h0 | ⟨g, cap, cur, rfl, hb, hg, h4⟩
 ·exact .inl h0
 ·refine .inr ⟨g, cap, cur, rfl, hb, ?_, h4⟩
  have hlt : g < w.heap.size := by
   rcases Nat.lt_or_ge g w.heap.size with hlt | hge
   ·exact hlt
   ·rw [Array.getElem?_eq_none hge] at hg; cases hg
  rw [he.block hlt, hg]
theorem wF {P : Program} {t : TypeId} {z : Value} {s b : Nat} (h : (P.info? t).map (fun i => (i.zero, i.size, i.bytes)) = some (some z, s, b)) : ∃ i, P.info? t = some i ∧ i.zero = some z ∧ i.size = s ∧ i.bytes = b := by
 obtain ⟨i0, hi, hx⟩ := Option.map_eq_some_iff.1 h
 simp only [Prod.mk.injEq] at hx
 exact ⟨i0, hi, hx.1, hx.2.1, hx.2.2⟩
end Go.Proofs.YthnohcipianijaaGreatDoor
namespace Go.Proofs.YthnohcipianijaaGreatDoor
open Go.RowKit
structure Chg (X : List Nat) (w w' : World) : Prop where
 os : w'.os = w.os
 tape : w'.tape = w.tape
 output : w'.output = w.output
 size : w.heap.size ≤ w'.heap.size
 block : ∀ k, k < w.heap.size → k ∉ X → w'.heap[k]? = w.heap[k]?
section
variable {X Y : List Nat} {w w1 w2 : World}
theorem Chg.refl (X : List Nat) (w : World) : Chg X w w := ⟨rfl, rfl, rfl, Nat.le_refl _, fun _ _ _ => rfl⟩
theorem Chg.trans (h : Chg X w w1) (k : Chg Y w1 w2) (hY : ∀ b, b ∈ Y → b ∈ X ∨ w.heap.size ≤ b) : Chg X w w2 :=
 ⟨k.os.trans h.os, k.tape.trans h.tape, k.output.trans h.output, Nat.le_trans h.size k.size, fun b hb hX => by
  rw [k.block b (Nat.lt_of_lt_of_le hb h.size) (fun hc => by rcases hY b hc with h1 | h1; exact hX h1; omega), h.block b hb hX]⟩
theorem Chg.mono (h : Chg X w w1) (hY : ∀ b, b ∈ X → b ∈ Y) : Chg Y w w1 := ⟨h.os, h.tape, h.output, h.size, fun b hb hX => h.block b hb (fun hc => hX (hY b hc))⟩
theorem Chg.of_ext (h : Ext w w1) (X : List Nat) : Chg X w w1 :=
 have h' : Below w.heap.size w w1 := h
 ⟨h'.os, h'.tape, h'.output, h'.size, fun b hb _ => h'.block b hb⟩
theorem Chg.ext (h : Chg [] w w1) : Ext w w1 := (⟨h.os, h.tape, h.output, h.size, fun b hb => h.block b hb (by simp)⟩ : Below w.heap.size w w1)
theorem Chg.alloc (w : World) (o : Obj) : Chg [] w (w.alloc o) := Chg.of_ext ((Ext.refl w).alloc o) []
theorem Chg.drew (w : World) : Chg [] w { w with drawn := w.drawn + 1 } := ⟨rfl, rfl, rfl, Nat.le_refl _, fun _ _ _ => rfl⟩
theorem Chg.set (w : World) (b o : Nat) (v : Value) : Chg [b] w (w.setCell ⟨b, o, none⟩ v) :=
 ⟨rfl, rfl, rfl, by simp [World.setCell], fun k hk hX => Below.heap_setCell w ⟨b, o, none⟩ v k (by simpa using hX)⟩
theorem Chg.grown {row : Option Nat} (h : w.grownBy w1 row) : Chg row.toList w w1 :=
 ⟨h.os, h.tape, h.output, h.size, fun k hk hX => h.block k hk (fun e => hX (by rw [← e]; simp))⟩
theorem Chg.lt (h : Chg X w w1) {b : Nat} (hb : b < w.heap.size) : b < w1.heap.size := Nat.lt_of_lt_of_le hb h.size
def Blk (w : World) (b : Nat) (t : TypeId) (cs : List Value) : Prop := w.heap[b]? = some (.cells cs.toArray t (0, 0))
variable {b : Nat} {t : TypeId} {cs : List Value}
theorem Blk.lt (h : Blk w b t cs) : b < w.heap.size := by
 rcases Nat.lt_or_ge b w.heap.size with hlt | hge
 ·exact hlt
 ·unfold Blk at h; rw [Array.getElem?_eq_none hge] at h; cases h
theorem Blk.cell (h : Blk w b t cs) (i : Nat) : w.cell? ⟨b, i, none⟩ = cs[i]? := by unfold Blk at h; simp [World.cell?, h]
theorem Blk.frozen (h : Blk w b t cs) (i : Nat) : w.frozen? ⟨b, i, none⟩ = false := by unfold Blk at h; simp [World.frozen?, h]
theorem Blk.chg (h : Blk w b t cs) (hx : Chg X w w1) (hb : b ∉ X) : Blk w1 b t cs := (hx.block b h.lt hb).trans h
theorem Blk.new (w : World) (t : TypeId) (cs : List Value) : Blk (w.alloc (.cells cs.toArray t)) w.heap.size t cs := heap_alloc_new w _
theorem Blk.set (h : Blk w b t cs) (i : Nat) (u : Value) : Blk (w.setCell ⟨b, i, none⟩ u) b t (cs.set i u) := by
 unfold Blk at h ⊢
 simp [World.setCell, Array.getElem?_modify, h]
end
def Runs (P : Program) (a : Act) (ty : TypeId) (op : Op) (w : World) (x : Next) (w' : World) : Prop := ∀ d ps af g, (execOp a.eval ⟨d, op, ty, ps, af, g⟩).run P w = .ok x w'
def upo (f : Nat → Option Value) (d : Option Tmp) (v : Value) : Nat → Option Value := match d with | some d => up f d v | none => f
def Ga (d : Option Tmp) (n : Nat) : Bool := match d with | some d => Nat.blt d n | none => true
def rk (f : Nat → Option Value) : List Operand → Option (List Value)
 | [] => some []
 |x :: r => match aF f x with
  |some v => match rk f r with
   | some vs => some (v :: vs)
   | none => none
  | none => none
def dP (f : Nat → Option Value) : List (Nat × Operand) → Option (List (Nat × Value))
 | [] => some []
 |(i, x) :: r => match aF f x with
  |some v => match dP f r with
   | some vs => some ((i, v) :: vs)
   | none => none
  | none => none
section
variable {P : Program} {ops : Array Oper} {Q : Exit → Act → World → Prop} {a : Act} {w w' : World} {rest : List Oper} {n : Nat} {f : Nat → Option Value} {ty : TypeId}
theorem Fr.puto (h : Fr a n f) {d : Option Tmp} (hd : Ga d n = true) (v : Value) : Fr (a.put d v) n (upo f d v) := by
 cases d with
 | none => exact h
 | some d => exact h.put hd v
theorem Fr.vals (h : Fr a n f) : ∀ {l : List Operand} {vs : List Value}, rk f l = some vs → l.map a.eval = vs
 | [], vs, e => by simp [rk] at e; simp [e]
 | x :: r, vs, e => by
  simp only [rk] at e
  split at e
  ·rename_i v hv
   split at e
   ·rename_i us hu
    have := h.vals hu
    simp only [Option.some.injEq] at e
    rw [List.map_cons, h.eval hv, this, e]
   ·cases e
  ·cases e
theorem Fr.parts (h : Fr a n f) : ∀ {l : List (Nat × Operand)} {vs : List (Nat × Value)}, dP f l = some vs → l.map (fun p => (p.1, a.eval p.2)) = vs
 | [], vs, e => by simp [dP] at e; simp [e]
 | (i, x) :: r, vs, e => by
  simp only [dP] at e
  split at e
  ·rename_i v hv
   split at e
   ·rename_i us hu
    have := h.parts hu
    simp only [Option.some.injEq] at e
    rw [List.map_cons, h.eval hv, this, e]
   ·cases e
  ·cases e
theorem no (b o j : Nat) : (⟨b, o, none⟩ : Addr).add j = ⟨b, o + j, none⟩ := by unfold Addr.add; split <;> simp_all
theorem Dt {x : Operand} {v : Value} (h : Fr a n f) (hx : aF f x = some v) : Runs P a ty (.move x) w (.value v) w := fun _ _ _ _ => by rw [← h.eval hx]; rfl
theorem zJ {x : Operand} {v : Value} (h : Fr a n f) (hx : aF f x = some v) : Runs P a ty (.assign x) w (.value v) w := fun _ _ _ _ => by rw [← h.eval hx]; rfl
theorem Cb {c x y : Operand} {v : Value} (h : Fr a n f) (hc : aF f c = some (.bool true)) (hx : aF f x = some v) : Runs P a ty (.pick c x y) w (.value v) w := fun _ _ _ _ => by simp [execOp, h.eval hc, h.eval hx, asBool]
theorem Bn {c x y : Operand} {v : Value} (h : Fr a n f) (hc : aF f c = some (.bool false)) (hy : aF f y = some v) : Runs P a ty (.pick c x y) w (.value v) w := fun _ _ _ _ => by simp [execOp, h.eval hc, h.eval hy, asBool]
theorem Fs {t : TypeId} {x : Operand} {b c : Bool} (h : Fr a n f) (hx : aF f x = some (.bool b)) (hc : (!b) = c) : Runs P a ty (.unOp .not t x) w (.value (.bool c)) w := fun _ _ _ _ => by subst hc; simp only [execOp, h.eval hx]; simp [go_sem]
section
variable {t u : TypeId} {x y : Operand} {k1 : IntKind} {m l : Int} {c : Bool}
theorem Fy (h : Fr a n f) (hx : aF f x = some (.int k1 m)) (hy : aF f y = some (.int k1 l)) (hc : (m == l) = c) : Runs P a ty (.binOp .eql t x y u) w (.value (.bool c)) w := fun _ _ _ _ => by subst hc; simp only [execOp, h.eval hx, h.eval hy]; simp [go_sem, eqGuard]
theorem Em (h : Fr a n f) (hx : aF f x = some (.int k1 m)) (hy : aF f y = some (.int k1 l)) (hc : (m != l) = c) : Runs P a ty (.binOp .neq t x y u) w (.value (.bool c)) w := fun _ _ _ _ => by subst hc; simp only [execOp, h.eval hx, h.eval hy]; simp [go_sem, eqGuard]
theorem Ea (h : Fr a n f) (hx : aF f x = some (.int k1 m)) (hy : aF f y = some (.int k1 l)) (hc : decide (m < l) = c) : Runs P a ty (.binOp .lss t x y u) w (.value (.bool c)) w := fun _ _ _ _ => by subst hc; simp only [execOp, h.eval hx, h.eval hy]; simp [go_sem, eqGuard]
theorem Fw (h : Fr a n f) (hx : aF f x = some (.int k1 m)) (hy : aF f y = some (.int k1 l)) (hc : decide (m ≤ l) = c) : Runs P a ty (.binOp .leq t x y u) w (.value (.bool c)) w := fun _ _ _ _ => by subst hc; simp only [execOp, h.eval hx, h.eval hy]; simp [go_sem, eqGuard]
theorem DZ (h : Fr a n f) (hx : aF f x = some (.int k1 m)) (hy : aF f y = some (.int k1 l)) (hc : decide (l < m) = c) : Runs P a ty (.binOp .gtr t x y u) w (.value (.bool c)) w := fun _ _ _ _ => by subst hc; simp only [execOp, h.eval hx, h.eval hy]; simp [go_sem, eqGuard]
theorem Eg (h : Fr a n f) (hx : aF f x = some (.int k1 m)) (hy : aF f y = some (.int k1 l)) (hc : decide (l ≤ m) = c) : Runs P a ty (.binOp .geq t x y u) w (.value (.bool c)) w := fun _ _ _ _ => by subst hc; simp only [execOp, h.eval hx, h.eval hy]; simp [go_sem, eqGuard]
end
theorem Fp {t u : TypeId} {x y : Operand} {m l c : Bool} (ht : P.underlying t = some .bool) (h : Fr a n f) (hx : aF f x = some (.bool m)) (hy : aF f y = some (.bool l)) (hc : (m == l) = c) : Runs P a ty (.binOp .eql t x y u) w (.value (.bool c)) w := fun _ _ _ _ => by subst hc; simp only [execOp, h.eval hx, h.eval hy]; simp [go_sem, eqGuard, ht]
section
variable {t u : TypeId} {x y : Operand} {m l : List UInt8} {c : Bool}
theorem FJ (h : Fr a n f) (hx : aF f x = some (.string ⟨m.toArray⟩)) (hy : aF f y = some (.string ⟨l.toArray⟩)) (hc : (m == l) = c) : Runs P a ty (.binOp .eql t x y u) w (.value (.bool c)) w := fun _ _ _ _ => by subst hc; simp only [execOp, h.eval hx, h.eval hy]; simp [go_sem, eqGuard]
theorem Fz (h : Fr a n f) (hx : aF f x = some (.string ⟨m.toArray⟩)) (hy : aF f y = some (.string ⟨l.toArray⟩)) (hc : (m != l) = c) : Runs P a ty (.binOp .neq t x y u) w (.value (.bool c)) w := fun _ _ _ _ => by subst hc; simp only [execOp, h.eval hx, h.eval hy]; simp [go_sem, eqGuard, bne]
theorem CS (h : Fr a n f) (ht : P.underlying t = some .string) (hx : aF f x = some (.string ⟨m.toArray⟩)) : Runs P a ty (.call { callee := .builtin .len, args := #[x], argTypes := #[t] }) w (.value (.int .i64 m.length)) w := fun _ _ _ _ => by
 simp only [execOp, resolve, List.map_toArray, List.map_cons, List.map_nil, h.eval hx]; simp [go_sem, resolve, invoke, builtin, ht]
end
theorem vi {t e : TypeId} {x : Operand} {A : Option Addr} {m c : Nat} (h : Fr a n f) (ht : P.underlying t = some (.slice e)) (hx : aF f x = some (.slice A m c)) : Runs P a ty (.call { callee := .builtin .len, args := #[x], argTypes := #[t] }) w (.value (.int .i64 m)) w := fun _ _ _ _ => by
 simp only [execOp, resolve, List.map_toArray, List.map_cons, List.map_nil, h.eval hx]; simp [go_sem, resolve, invoke, builtin, ht]
theorem wn {x : Operand} {p : Addr} (h : Fr a n f) (hx : aF f x = some (.pointer (some p))) : Runs P a ty (.nilCheck x) w (.value (.pointer (some p))) w := fun _ _ _ _ => by simp only [execOp, h.eval hx]; rfl
theorem yA {x : Operand} {i : Nat} {vs : Array Value} {v : Value} (h : Fr a n f) (hx : aF f x = some (.tuple vs)) (hi : vs[i]? = some v) : Runs P a ty (.extract x i) w (.value v) w := fun _ _ _ _ => by
 simp only [execOp, h.eval hx]; simp [Instr.extract, hi]
theorem zh {t : TypeId} {x : Operand} {i b o : Nat} {v : Value} (h : Fr a n f) (hx : aF f x = some (.pointer (some ⟨b, o, none⟩))) (hv : ∀ w, (Instr.fieldAt t (.pointer (some ⟨b, o, none⟩)) i).run P w = .ok v w) : Runs P a ty (.fieldAddr t x i) w (.value v) w := fun _ _ _ _ => by
 simp only [execOp, h.eval hx]; simp [hv]
theorem wA {t : TypeId} {x : Operand} {i : Nat} {cs : Array Value} {v : Value} (h : Fr a n f) (hx : aF f x = some (.agg cs)) (hv : ∀ w, (Instr.field t (.agg cs) i).run P w = .ok v w) : Runs P a ty (.field t x i) w (.value v) w := fun _ _ _ _ => by
 simp only [execOp, h.eval hx]; simp [hv]
theorem vD {t e : TypeId} {x y : Operand} {b o m c sz r : Nat} {i : Int} {k : Nat} (h : Fr a n f) (ht : P.underlying t = some (.slice e)) (hz : (P.info? e).map (·.size) = some sz) (hx : aF f x = some (.slice (some ⟨b, o, none⟩) m c)) (hy : aF f y = some (.int .i64 i))
  (hk : i = (k : Int)) (hlt : k < m) (hr : o + k * sz = r) : Runs P a ty (.indexAddr t x y) w (.value (.pointer (some ⟨b, r, none⟩))) w := fun _ _ _ _ => by
 obtain ⟨i0, hi, hs⟩ := Option.map_eq_some_iff.1 hz
 subst hk hs hr
 simp only [execOp, h.eval hx, h.eval hy]
 simp [Instr.indexAt, asIntOf, run_underlying ht, sizeOf, typeInfo, hi, hlt, no]
theorem vx {t : TypeId} {ps : List (Nat × Operand)} {vs : List (Nat × Value)} {v : Value} (h : Fr a n f) (hx : dP f ps = some vs) (hv : ∀ w, (Instr.build t vs.toArray).run P w = .ok v w) : Runs P a ty (.build t ps.toArray) w (.value v) w := fun _ _ _ _ => by
 have e : (ps.toArray.map fun (i, x) => (i, a.eval x)) = vs.toArray := by rw [← h.parts hx]; simp
 simp only [execOp]
 rw [e]; simp [hv]
def du (P : Program) (t : TypeId) : Bool := match P.underlying t with
 | some (.struct _) => false
 | some (.array _ _) => false
 | some _ => true
 | none => false
def kR (P : Program) (t : TypeId) : Option Nat := match P.underlying t with
 | some (.struct _) => (P.info? t).map (·.size)
 | some (.array _ _) => (P.info? t).map (·.size)
 | _ => none
def ew (P : Program) (t : TypeId) : Option Nat := (P.info? t).map (·.size)
def lr (P : Program) (t : TypeId) : Option (List Value) := ((P.info? t).bind (·.zero)).map (·.cells.toList)
theorem uh {t : TypeId} {p : Addr} {v : Value} (ht : du P t = true) (hc : w.cell? p = some v) : (Instr.loadAt t (.pointer (some p))).run P w = .ok v w := by
 unfold du at ht
 cases hu : P.underlying t with
 | none => rw [hu] at ht; cases ht
 | some d =>
  rw [hu] at ht
  cases d <;> first | (simp [Instr.loadAt, Instr.sureAddr, loadVar, isAgg, run_underlying hu, hc]; done) | cases ht
theorem qj (b : Nat) : ∀ (m i o : Nat) (acc : List Value) (cs : List Value), cs.length = m → (∀ j, j < m → w.cell? ⟨b, o + i + j, none⟩ = cs[j]?) → (loadCellsFrom ⟨b, o, none⟩ i m acc.toArray).run P w = .ok (acc ++ cs).toArray w
 | 0, i, o, acc, cs, hl, hc => by
  have : cs = [] := List.eq_nil_of_length_eq_zero hl
  subst this; simp [loadCellsFrom]
 | m + 1, i, o, acc, cs, hl, hc => by
  cases cs with
  | nil => cases hl
  | cons c r =>
   have h0 := hc 0 (by omega)
   simp only [Nat.add_zero, List.getElem?_cons_zero] at h0
   have ih := qj b m (i + 1) o (acc ++ [c]) r (by simpa using hl) (fun j hj => by have := hc (j + 1) (by omega); simpa [Nat.add_assoc, Nat.add_comm 1 j] using this)
   have ha : (⟨b, o, none⟩ : Addr).add i = ⟨b, o + i, none⟩ := by unfold Addr.add; split <;> simp_all
   simp only [loadCellsFrom, ha]
   simp [go_sem, h0]
   simpa using ih
theorem uo {t : TypeId} {b o m : Nat} {cs : List Value} (ht : kR P t = some m) (hl : cs.length = m) (hc : ∀ j, j < m → w.cell? ⟨b, o + j, none⟩ = cs[j]?) : (Instr.loadAt t (.pointer (some ⟨b, o, none⟩))).run P w = .ok (.agg cs.toArray) w := by
 have hA : (isAgg t).run P w = .ok true w ∧ (sizeOf t).run P w = .ok m w := by
  unfold kR at ht
  cases hu : P.underlying t with
  | none => rw [hu] at ht; cases ht
  | some d =>
   rw [hu] at ht
   cases d <;> first | cases ht | (obtain ⟨i, hi, hs⟩ := Option.map_eq_some_iff.1 ht; simp [isAgg, run_underlying hu, sizeOf, typeInfo, hi, hs])
 have hL := qj (P := P) (w := w) b m 0 o [] cs hl (by simpa using hc)
 simp only [Instr.loadAt, Instr.sureAddr, loadVar, loadCells]
 simp [hA.1, hA.2, hL]
theorem tM {t : TypeId} {x : Operand} {p : Addr} {v : Value} (h : Fr a n f) (hx : aF f x = some (.pointer (some p))) (ht : du P t = true) (hc : w.cell? p = some v) : Runs P a ty (.load t x) w (.value v) w := fun _ _ _ _ => by
 simp only [execOp, h.eval hx]; simp [uh ht hc]
theorem sd {t : TypeId} {x : Operand} {b o m : Nat} {cs : List Value} (h : Fr a n f) (hx : aF f x = some (.pointer (some ⟨b, o, none⟩))) (ht : kR P t = some m) (hl : cs.length = m) (hc : ∀ j, j < m → w.cell? ⟨b, o + j, none⟩ = cs[j]?) : Runs P a ty (.load t x) w (.value (.agg cs.toArray)) w := fun _ _ _ _ => by
 simp only [execOp, h.eval hx]; simp [uo ht hl hc]
theorem Aa {v : Value} (h : v.oneCell' = true) : v.cells = #[v] := by cases v <;> first | rfl | cases h
theorem Bs {t : TypeId} (cs : List Value) (hz : lr P t = some cs) (a : Act) (w : World) (ty : TypeId) : ∃ w' b, Runs P a ty (.alloc t) w (.value (.pointer (some ⟨b, 0, none⟩))) w' ∧ Blk w' b t cs ∧ Chg [] w w' ∧ b = w.heap.size ∧ b < w'.heap.size := by
 refine ⟨w.alloc (.cells cs.toArray t), w.heap.size, fun _ _ _ _ => ?_, Blk.new w t cs, Chg.alloc _ _, rfl, by simp⟩
 unfold lr at hz
 obtain ⟨z, hz1, hz2⟩ := Option.map_eq_some_iff.1 hz
 obtain ⟨i, hi, hiz⟩ := Option.bind_eq_some_iff.1 hz1
 have e : z.cells = cs.toArray := by rw [← hz2]
 simp [execOp, Instr.alloc, zeroValue, typeInfo, hi, hiz, newVar, newRow, e]
theorem Ec {t : TypeId} {x : Operand} {v : Value} {cs : List Value} (h : Fr a n f) (hx : aF f x = some v) (hv : v.cells = cs.toArray) (w : World) (ty : TypeId) : ∃ w' b, Runs P a ty (.box t x) w (.value (.pointer (some ⟨b, 0, none⟩))) w' ∧ Blk w' b t cs ∧ Chg [] w w' ∧ b = w.heap.size ∧ b < w'.heap.size := by
 refine ⟨w.alloc (.cells cs.toArray t), w.heap.size, fun _ _ _ _ => ?_, Blk.new w t cs, Chg.alloc _ _, rfl, by simp⟩
 simp only [execOp, h.eval hx]
 simp [Instr.box, newVar, newRow, hv]
end
end Go.Proofs.YthnohcipianijaaGreatDoor
namespace Go.Proofs.YthnohcipianijaaGreatDoor
open Go.RowKit
def de (P : Program) (fid : FuncId) : Bool := match P.funcs[fid]? with
 | some fn => !(fn.name == "runtime.NumGoroutine") && fn.body.isSome
 | none => false
theorem kG {P : Program} {fid : FuncId} (he : de P fid = true) (args : Array Value) (w : World) : (callFunc fid args).run P w = .ok (.enter fid args) w := by
 unfold de at he
 split at he
 ·rename_i fn hf
  simp only [Bool.and_eq_true, Bool.not_eq_true', beq_eq_false_iff_ne, ne_eq] at he
  have hb : fn.body.isNone = false := by cases hx : fn.body <;> simp_all
  simp [callFunc, hf, he.1, hb]
  intro h0; simp [h0] at hb
 ·cases he
section
variable {P : Program} {ops : Array Oper} {Q : Exit → Act → World → Prop} {a : Act} {w w' : World} {rest : List Oper} {n : Nat} {f : Nat → Option Value} {ty : TypeId}
variable {d : Option Tmp} {op : Op} {ps : String} {af : Array Edge} {g : Option (Nat × Bool)} {v : Value}
theorem Ci {c : Operand} {c1 c2 : Code} (h : Fr a n f) (hc : aF f c = some (.bool true)) (k : c1.wp P Q a w) : (Code.cond c c1 c2).wp P Q a w :=
 wp_cond_true (h.eval hc) k
theorem Ce {c : Operand} {c1 c2 : Code} (h : Fr a n f) (hc : aF f c = some (.bool false)) (k : c2.wp P Q a w) : (Code.cond c c1 c2).wp P Q a w :=
 wp_cond_false (h.eval hc) k
end
section
variable {P : Program} {Q : Exit → Act → World → Prop} {a : Act} {w : World} {n : Nat} {f : Nat → Option Value}
def fm : List (Nat × Value) → Nat → Option Value
 | [], _ => none
 | (j, v) :: r, i => match Nat.beq i j with | true => some v | false => fm r i
def Bk (f : Nat → Option Value) : List (Nat × Value) → Prop
 | [] => True
 | (j, v) :: r => f j = some v ∧ Bk f r
theorem CC : ∀ {l : List (Nat × Value)}, Bk f l → ∀ i v, fm l i = some v → f i = some v
 | [], _, i, v, h => by cases h
 | (j, u) :: r, hA, i, v, h => by
  simp only [fm] at h
  split at h
  ·rename_i hb
   have := Nat.eq_of_beq_eq_true hb
   subst this
   rw [← h]; exact hA.1
  ·exact CC hA.2 i v h
theorem Fr.pick (h : Fr a n f) {l : List (Nat × Value)} (hl : Bk f l) : Fr a n (fm l) := h.le (CC hl)
def sm (a : Act) : ResultVar → Sem Value
 | .tmp t => pure (a.tmps.getD t undef)
 | .cell x t => do loadVar t (← asAddr (a.tmps.getD x undef))
def qG : List Value → Value
 | [v] => v
 | vs => .tuple vs.toArray
end
section
variable {P : Program} {ops : Array Oper} {Q : Exit → Act → World → Prop} {md : Region.Mode} {S : World → Prop}
def ta (md : Region.Mode) (ops : Array Oper) (m i : Nat) : Bool := match ops[m]? with
 | none => true
 | some o => o.after.any (fun e => Region.binds md e && e.on == i)
theorem jN {listed : Array Bool} {i m : Nat} (h : listed.getD m false = true) : (listed.setIfInBounds i true).getD m false = true := by
 rw [Array.getD_eq_getD_getElem?] at *
 rw [Array.getElem?_setIfInBounds]
 split
 ·rename_i he
  subst he
  split
  ·rfl
  ·rename_i hs; rw [Array.getElem?_eq_none (by omega)] at h; cases h
 ·exact h
theorem ue {listed : Array Bool} {i j : Nat} {oj : Oper} (hr : i ∈ Region.ready md ops listed) (hall : ∀ e ∈ oj.after, Region.binds md e = true → listed.getD e.on false = true) : ∀ e ∈ oj.after, Region.binds md e = true → e.on ≠ i := fun e he hb heq => by
 have hiun := (mem_ready.1 hr).1
 have h1 := hall e he hb
 rw [heq] at h1
 rcases Nat.lt_or_ge i listed.size with h' | h'
 ·simp [h'] at hiun h1; rw [hiun] at h1; cases h1
 ·simp [Array.getElem?_eq_none h'] at h1
variable {a : Act} {w w' : World} {n : Nat} {f : Nat → Option Value} {ty : TypeId} {d : Option Tmp} {op : Op} {ps : String} {af : Array Edge} {g : Option (Nat × Bool)} {v : Value} {m fuel : Nat} {listed : Array Bool}
variable {K : Act → World → Prop}
end
end Go.Proofs.YthnohcipianijaaGreatDoor
namespace Go.Proofs.YthnohcipianijaaGreatDoor
open Go.RowKit
def lA (P : Program) (t : TypeId) (i : Nat) : Option Nat := match P.underlying t with
 |some (.struct fs) => match fs[i]? with
  |some fl => match P.info? fl.type with
   | some inf => if inf.size = 0 then none else some fl.offset
   | none => none
  | none => none
 | _ => none
def nn (P : Program) (t : TypeId) (i : Nat) : Option Nat := match P.underlying t with
 |some (.struct fs) => match fs[i]? with
  | some fl => if du P fl.type = true then some fl.offset else none
  | none => none
 | _ => none
section
variable {P : Program} {a : Act} {w w' : World} {n : Nat} {f : Nat → Option Value} {ty : TypeId}
theorem yL {t : TypeId} {x : Operand} {i b o k r : Nat} (h : Fr a n f) (hx : aF f x = some (.pointer (some ⟨b, o, none⟩))) (ho : lA P t i = some k) (hr : o + k = r) : Runs P a ty (.fieldAddr t x i) w (.value (.pointer (some ⟨b, r, none⟩))) w := by
 refine zh h hx fun w => ?_
 subst hr
 unfold lA at ho
 split at ho
 ·rename_i fs hu
  split at ho
  ·rename_i fl hfl
   split at ho
   ·rename_i inf hinf
    split at ho
    ·cases ho
    ·rename_i hz
     simp only [Option.some.injEq] at ho
     subst ho
     simp [Instr.fieldAt, run_underlying hu, hfl, Instr.sureAddr, fieldPlace, sizeOf, typeInfo, hinf, hz, no]
   ·cases ho
  ·cases ho
 ·cases ho
theorem FV {t : TypeId} {x : Operand} {i k : Nat} {cs : List Value} {v : Value} (h : Fr a n f) (hx : aF f x = some (.agg cs.toArray)) (ho : nn P t i = some k) (hv : cs[k]? = some v) : Runs P a ty (.field t x i) w (.value v) w := by
 refine wA h hx fun w => ?_
 unfold nn at ho
 split at ho
 ·rename_i fs hu
  split at ho
  ·rename_i fl hfl
   split at ho
   ·rename_i hs
    simp only [Option.some.injEq] at ho
    subst ho
    have hA : (isAgg fl.type).run P w = .ok false w := by
     unfold du at hs
     cases hu2 : P.underlying fl.type with
     | none => rw [hu2] at hs; cases hs
     | some d =>
      rw [hu2] at hs
      cases d <;> first | (simp [isAgg, run_underlying hu2]; done) | cases hs
    simp [Instr.field, run_underlying hu, hfl, part, hA, asAgg, hv]
   ·cases ho
  ·cases ho
 ·cases ho
theorem qI (off : Nat) : ∀ (l : List Value) (j : Nat) (c : List Value), off + j + l.length ≤ c.length →
  (l.zipIdx j).foldl (fun (cs : Array Value) (p : Value × Nat) => cs.setIfInBounds (off + p.2) p.1) c.toArray = (c.take (off + j) ++ l ++ c.drop (off + j + l.length)).toArray
 | [], j, c, h => by simp
 | x :: r, j, c, h => by
  simp only [List.length_cons] at h
  have ih := qI off r (j + 1) (c.set (off + j) x) (by simp; omega)
  simp only [List.zipIdx_cons, List.foldl_cons, List.setIfInBounds_toArray]
  rw [ih]
  congr 1
  have e1 : (c.set (off + j) x).take (off + (j + 1)) = c.take (off + j) ++ [x] := by
   rw [← Nat.add_assoc, List.take_succ_eq_append_getElem (by simp; omega), List.take_set_of_le (Nat.le_refl _)]
   simp
  have e2 : (c.set (off + j) x).drop (off + (j + 1) + r.length) = c.drop (off + j + (r.length + 1)) := by
   rw [List.drop_set_of_lt (by omega)]; congr 1; omega
  rw [e1, e2]; simp
theorem wc (sz : Nat) : ∀ (vs : List (Nat × Value)) (k : Nat) (c : List Value), vs.map (·.1) = (List.range vs.length).map (· + k) → (∀ p ∈ vs, p.2.cells.size = sz) → (k + vs.length) * sz = c.length →
  Instr.fill (fun i => some (i * sz, sz)) c.toArray vs = some (c.take (k * sz) ++ vs.flatMap fun p => p.2.cells.toList).toArray
 | [], k, c, _, _, hl => by simp [Instr.fill]; simp at hl; rw [hl]; simp
 | (i, v) :: r, k, c, hi, hc, hl => by
  have hv : v.cells.size = sz := hc (i, v) (by simp)
  have hi0 : i = k := by
   have := congrArg (fun l => l.head?) hi
   simpa [List.range_succ_eq_map] using this
  subst hi0
  simp only [List.length_cons] at hl
  have hle : (i + 1) * sz ≤ c.length := by rw [← hl]; exact Nat.mul_le_mul_right _ (by omega)
  rw [Nat.add_mul, Nat.one_mul] at hle
  have hf := qI (i * sz) v.cells.toList 0 c (by simpa [hv] using hle)
  have hr : r.map (·.1) = (List.range r.length).map (· + (i + 1)) := by
   have := congrArg List.tail hi
   simp only [List.map_cons, List.tail_cons, List.length_cons, List.range_succ_eq_map, List.map_map] at this
   rw [this]
   apply List.map_congr_left
   intro x _
   simp; omega
  have ih := wc sz r (i + 1) (c.take (i * sz) ++ v.cells.toList ++ c.drop (i * sz + sz)) hr (fun p hp => hc p (by simp [hp])) (by
   have e : (i + (r.length + 1)) * sz = (i + 1 + r.length) * sz := by congr 1; omega
   simp [hv]; rw [← hl] at hle ⊢; omega)
  simp only [Instr.fill]
  rw [if_neg (by simp [hv]; omega)]
  have e0 : (v.cells.zipIdx.foldl (fun cs (x : Value × Nat) => match x with | (c, j) => cs.setIfInBounds (i * sz + j) c) c.toArray) = (c.take (i * sz) ++ v.cells.toList ++ c.drop (i * sz + sz)).toArray := by
   rw [← Array.foldl_toList, Array.toList_zipIdx]
   simp only [Nat.add_zero, Array.length_toList, hv] at hf
   exact hf
  rw [e0, ih]
  congr 1
  have e3 : (c.take (i * sz) ++ v.cells.toList ++ c.drop (i * sz + sz)).take ((i + 1) * sz) = c.take (i * sz) ++ v.cells.toList := by
   rw [Nat.add_mul, Nat.one_mul, List.take_append_of_le_length (by simp [hv]; omega)]
   apply List.take_of_length_le
   simp [hv]; omega
  rw [e3]; simp
theorem ud {t e : TypeId} {ps : List (Nat × Operand)} {vs : List (Nat × Value)} {sz m : Nat} {z cs : List Value} (h : Fr a n f) (hx : dP f ps = some vs) (ht : P.underlying t = some (.slice e)) (hz : ew P e = some sz) (hzero : lr P e = some z)
  (hidx : ps.map (·.1) = List.range m) (hc : vs.all (fun p => p.2.cells.size == sz) = true) (hsm : Nat.ble (m * sz) 16777216 = true) (hcs : (vs.flatMap fun p => p.2.cells.toList) = cs) (w : World) (ty : TypeId) :
  ∃ w' b, Runs P a ty (.buildSlice t m ps.toArray) w (.value (.slice (some ⟨b, 0, none⟩) m m)) w' ∧ Blk w' b e cs ∧ Chg [] w w' ∧ b = w.heap.size ∧ b < w'.heap.size := by
 subst hcs
 refine ⟨w.alloc (.cells (vs.flatMap fun p => p.2.cells.toList).toArray e), w.heap.size, fun _ _ _ _ => ?_, Blk.new w e _, Chg.alloc _ _, rfl, by simp⟩
 obtain ⟨inf, hi, hs⟩ := Option.map_eq_some_iff.1 (show (P.info? e).map (·.size) = some sz from hz)
 unfold lr at hzero
 obtain ⟨z0, hz1, hz2⟩ := Option.map_eq_some_iff.1 hzero
 obtain ⟨inf', hi', hiz⟩ := Option.bind_eq_some_iff.1 hz1
 rw [hi] at hi'
 cases hi'
 have hpv : vs.map (·.1) = List.range m := by rw [← hidx, ← h.parts hx]; simp
 have hm : vs.length = m := by have := congrArg List.length hpv; simpa using this
 have e : (ps.toArray.map fun (i, x) => (i, a.eval x)) = vs.toArray := by rw [← h.parts hx]; simp
 have hsm' : m * sz ≤ 16777216 := by simpa using hsm
 have hfill : ∀ c : Array Value, c.size = m * sz → Instr.fill (fun i => some (i * sz, sz)) c vs = some (vs.flatMap fun p => p.2.cells.toList).toArray := fun c hcz => by
  have := wc sz vs 0 c.toList (by rw [hpv, hm]; simp) (fun p hp => by simpa using List.all_eq_true.1 hc p hp) (by simp [hm, hcz])
  simpa using this
 simp only [execOp]
 rw [e]
 simp only [Instr.buildSlice]
 by_cases h0 : m * sz = 0
 ·have hfl := hfill ((Array.range 0).map (fun x => (default : Value))) (by simp [h0])
  simp [run_underlying ht, sizeOf, typeInfo, hi, hs, h0, newRow]
  rw [hfl]; simp
 ·have hfl := hfill ((Array.range (m * sz)).map (z0.cells[· % z0.cells.size]!)) (by simp)
  try simp at hfl
  simp [run_underlying ht, sizeOf, typeInfo, hi, hs, h0, newRow, zeroValue, hiz, show ¬ 16777216 < m * sz by omega, hfl]
theorem Dz {t e : TypeId} {x y : Operand} {m : Nat} {z : Value} {sz by_ : Nat} {cs : List Value} (h : Fr a n f) (hx : aF f x = some (.int .i64 (m : Int))) (hy : aF f y = some (.int .i64 (m : Int))) (ht : P.underlying t = some (.slice e))
  (hi : (P.info? e).map (fun i => (i.zero, i.size, i.bytes)) = some (some z, sz, by_)) (hb : Nat.ble (by_ * m) 281474976710656 = true) (h63 : Nat.ble m 9223372036854775807 = true) (hcs : madeCells z.cells (m * sz) = cs.toArray) (w : World) (ty : TypeId) :
  ∃ w' b, Runs P a ty (.makeSlice t x y) w (.value (.slice (some ⟨b, 0, none⟩) m m)) w' ∧ Blk w' b e cs ∧ Chg [] w w' ∧ b = w.heap.size ∧ b < w'.heap.size := by
 obtain ⟨i0, hi0, hx0⟩ := Option.map_eq_some_iff.1 hi
 simp only [Prod.mk.injEq] at hx0
 obtain ⟨hz, hs, hby⟩ := hx0
 refine ⟨w.alloc (.cells cs.toArray e), w.heap.size, fun _ _ _ _ => ?_, Blk.new w e _, Chg.alloc _ _, rfl, by simp⟩
 have hb' : (i0.bytes : Int) * (m : Int) ≤ 281474976710656 := by
  have h9 : i0.bytes * m ≤ 281474976710656 := by rw [hby]; exact Nat.le_of_ble_eq_true hb
  have h8 : ((i0.bytes * m : Nat) : Int) ≤ 281474976710656 := by omega
  rwa [Int.natCast_mul] at h8
 have h63' : m ≤ 9223372036854775807 := Nat.le_of_ble_eq_true h63
 have hr := run_make (P := P) w t e i0 z ht hi0 hz .i64 .i64 m m (by omega) (by omega) hb' (by omega)
 simp only [execOp, h.eval hx, h.eval hy]
 simp only [Int.toNat_natCast, hs, hcs] at hr
 simp [hr]
theorem tq {base b e size m : Nat} {cs : List Value} (h : Blk w b e cs) (hb : base ≤ b) (hl : cs.length = m * size) (hm : Nat.ble m maxLen = true) : w.ownsRow base e size (.slice (some ⟨b, 0, none⟩) m m) m cs := by
 refine ⟨hl, .inr ⟨b, m, cs.toArray, rfl, hb, h, Nat.le_refl _, by simpa using hm, by simpa using hl, ?_⟩⟩
 simp [← hl]
end
end Go.Proofs.YthnohcipianijaaGreatDoor
namespace Go.Proofs.YthnohcipianijaaGreatDoor
open Go.RowKit
theorem Chg.cell {X : List Nat} {w w1 : World} (h : Chg X w w1) {b o : Nat} (hb : b < w.heap.size) (hX : b ∉ X) : w1.cell? ⟨b, o, none⟩ = w.cell? ⟨b, o, none⟩ := World.cell?_of_block (a := ⟨b, o, none⟩) (h.block b hb hX)
section
variable {P : Program} {a : Act} {w w' : World} {n : Nat} {f : Nat → Option Value} {X : List Nat}
end
end Go.Proofs.YthnohcipianijaaGreatDoor
namespace Go.Proofs.YthnohcipianijaaGreatDoor
open Go.RowKit
theorem DG {P : Program} {a : Act} {w : World} {n : Nat} {f : Nat → Option Value} {ty t u : TypeId} {x y : Operand} {k : IntKind} {m l : Int} (h : Fr a n f) (hx : aF f x = some (.int k m)) (hy : aF f y = some (.int k l)) : Runs P a ty (.call { callee := .builtin .max, args := #[x, y], argTypes := #[t, u] }) w (.value (.int k (max m l))) w := fun _ _ _ _ => by
 simp only [execOp, resolve, List.map_toArray, List.map_cons, List.map_nil, h.eval hx, h.eval hy]
 simp [go_sem, invoke, builtin]
 try (split <;> omega)
end Go.Proofs.YthnohcipianijaaGreatDoor
namespace Go.Proofs.YthnohcipianijaaGreatDoor.Lx
def bR (c : UInt8) : Bool := decide (97 ≤ c.toNat) && decide (c.toNat ≤ 122)
def upperB (c : UInt8) : Bool := decide (65 ≤ c.toNat) && decide (c.toNat ≤ 90)
def aR (c : UInt8) : Bool := decide (48 ≤ c.toNat) && decide (c.toNat ≤ 57)
def aW (c : UInt8) : Bool := bR c || upperB c
def bb (c : UInt8) : Bool := aW c || aR c || c.toNat == 95
def bD (c : UInt8) : Bool := c.toNat == 9 || c.toNat == 10 || c.toNat == 13 || c.toNat == 32
def cQ (c : UInt8) : Bool := decide (32 ≤ c.toNat) && decide (c.toNat ≤ 126)
def aL (c : UInt8) : Bool := bD c || cQ c
def words : List (List UInt8) := [[109, 111, 100, 117, 108, 101], [100, 101, 102], [116, 121, 112, 101], [108, 101, 116], [105, 110], [105, 102], [116, 104, 101, 110], [101, 108, 115, 101], [116, 114, 117, 101], [102, 97, 108, 115, 101], [73, 110, 116], [84, 101, 120, 116], [66, 111, 111, 108]]
def gX (l : List UInt8) : Bool := words.contains l
def spanN (p : UInt8 → Bool) (l : List UInt8) : Nat := (l.takeWhile p).length
def cy (l : List UInt8) : Bool :=
 upperB (l.getD 0 0) && !gX (l.take (spanN bb l)) && decide (spanN bb l + 1 < l.length) && ((l.getD (spanN bb l) 0).toNat == 46) && aW (l.getD (spanN bb l + 1) 0)
def bq (l : List UInt8) (n : Nat) : Nat × Nat × Nat :=
 if 24 < n then (0, 0, 3) else if gX (l.take n) = true then (7, n, 0) else if bR (l.getD 0 0) = true then (1, n, 0) else (2, n, 0)
def cP (l : List UInt8) (n m : Nat) : Nat × Nat × Nat :=
 if 24 < n ∨ 24 < m then (0, 0, 3)
 else if gX ((l.drop (n + 1)).take m) = true then (0, 0, 2)
 else if bR (l.getD (n + 1) 0) = true then (3, n + 1 + m, 0)
 else (4, n + 1 + m, 0)
def bw (l : List UInt8) : Nat × Nat × Nat :=
 if cy l = true then cP l (spanN bb l) (spanN bb (l.drop (spanN bb l + 1))) else bq l (spanN bb l)
def cY (l : List UInt8) : Nat × Nat :=
 let n := spanN aR l
 if 1 < n ∧ (l.getD 0 0).toNat = 48 then (0, 2) else if 15 < n then (0, 3) else (n, 0)
def quotedT : List UInt8 → Nat → Nat × Nat
 | [], _ => (0, 2)
 | c :: r, i =>
  if aL c = false then (i, 1)
  else if c.toNat = 34 then (i + 1, 0)
  else if c.toNat = 92 ∨ c.toNat < 32 then (0, 2)
  else quotedT r (i + 1)
def signs : List UInt8 := [40, 41, 91, 93, 58, 44, 61, 43, 45, 42, 60, 63]
def tokenT (l : List UInt8) : Nat × Nat × Nat :=
 let c := l.getD 0 0
 if aL c = false then (0, 0, 1)
 else if aW c = true then bw l
 else if aR c = true then (5, cY l)
 else if c.toNat = 34 then (6, quotedT l.tail 1)
 else if c.toNat = 61 ∧ 1 < l.length ∧ (l.getD 1 0).toNat = 61 then (8, 2, 0)
 else if signs.contains c = true then (8, 1, 0)
 else (0, 0, 2)
def aE : Bool → List UInt8 → Nat → Nat × Option Nat
 | _, [], n => (n, none)
 | false, c :: r, n => if bD c = true then aE false r (n + 1) else if c.toNat = 35 then aE true r (n + 1) else (n, none)
 | true, c :: r, n => if c.toNat = 10 then aE false r (n + 1) else if aL c = false then (n, some n) else aE true r (n + 1)
structure TokZ where
 kind : Int
 lead : List UInt8
 text : List UInt8
structure Scanned where
 toks : List TokZ
 tail : List UInt8
 place : Nat
 err : Nat
def scanT : Nat → List UInt8 → Nat → List TokZ → Scanned
 | 0, _, _, _ => ⟨[], [], 0, 0⟩
 | f + 1, l, pos, acc =>
  match (aE false l 0).2 with
  | some b => ⟨[], [], pos + b, 1⟩
  | none =>
   if (aE false l 0).1 = l.length then ⟨acc, l, 0, 0⟩
   else if (tokenT (l.drop (aE false l 0).1)).2.2 = 0 then
    scanT f (l.drop ((aE false l 0).1 + (tokenT (l.drop (aE false l 0).1)).2.1)) (pos + (aE false l 0).1 + (tokenT (l.drop (aE false l 0).1)).2.1)
     (acc ++ [⟨(tokenT (l.drop (aE false l 0).1)).1, l.take (aE false l 0).1, (l.drop (aE false l 0).1).take (tokenT (l.drop (aE false l 0).1)).2.1⟩])
   else ⟨[], [], pos + (aE false l 0).1 + (tokenT (l.drop (aE false l 0).1)).2.1, (tokenT (l.drop (aE false l 0).1)).2.2⟩
def scan (l : List UInt8) : Scanned := if 4096 < l.length then ⟨[], [], 4096, 3⟩ else scanT (l.length + 1) l 0 []
def aV (l : List UInt8) : Nat := if l = [] then 0 else if (tokenT l).2.2 = 0 ∧ (tokenT l).2.1 = l.length then (tokenT l).1 else 0
def fu : Bool → List UInt8 → Bool → Bool
 | c, [], fin => !c || fin
 | c, x :: r, fin =>
  if aL x = false then false
  else if c = true then fu (!(x.toNat == 10)) r fin
  else if x.toNat = 35 then fu true r fin
  else if bD x = false then false
  else fu c r fin
def fusesT (a b : List UInt8) : Bool :=
 if aV a = 0 ∨ aV b = 0 then false
 else
  let r := scan (a ++ b)
  if r.err = 0 ∧ r.toks.length = 2 ∧ r.tail = [] then
   !((r.toks.getD 0 ⟨0, [], []⟩).lead == [] && (r.toks.getD 0 ⟨0, [], []⟩).text == a && (r.toks.getD 1 ⟨0, [], []⟩).lead == [] && (r.toks.getD 1 ⟨0, [], []⟩).text == b)
  else true
theorem iO {p : UInt8 → Bool} {l : List UInt8} {k : Nat} {c : UInt8} (h : k < l.length) (hc : l[k] = c) (hp : p c = true) :
  spanN p (l.drop k) = spanN p (l.drop (k + 1)) + 1 := by
 rw [List.drop_eq_getElem_cons h, hc]; simp [spanN, hp]
theorem mP {p : UInt8 → Bool} {l : List UInt8} {k : Nat} {c : UInt8} (h : k < l.length) (hc : l[k] = c) (hp : p c = false) :
  spanN p (l.drop k) = 0 := by
 rw [List.drop_eq_getElem_cons h, hc]; simp [spanN, hp]
theorem nP {p : UInt8 → Bool} {l : List UInt8} {k : Nat} (h : l.length ≤ k) : spanN p (l.drop k) = 0 := by
 rw [List.drop_of_length_le h]; rfl
theorem iK (p : UInt8 → Bool) : ∀ (l : List UInt8), spanN p l ≤ l.length
 | [] => Nat.le_refl _
 | c :: r => by
  have := iK p r
  unfold spanN at *
  rw [List.takeWhile_cons]
  split <;> simp <;> omega
theorem rf {p : UInt8 → Bool} {l : List UInt8} (h : 0 < l.length) (hp : p (l.getD 0 0) = true) : 0 < spanN p l := by
 cases l with
 | nil => simp at h
 | cons c r => simp [spanN] at *; simp [hp]
theorem pA {c : UInt8} (h : aW c = true ∨ aR c = true ∨ ((c.toNat : Int) == 95) = true) : bb c = true := by
 rcases h with h | h | h <;> simp_all [bb] <;> omega
theorem wI {c : UInt8} (h1 : ¬ aW c = true) (h2 : ¬ aR c = true) (h3 : ((c.toNat : Int) == 95) = false) : bb c = false := by
 simp_all [bb]; omega
theorem aC {l : List UInt8} {k : Nat} {c : UInt8} (h : k < l.length) (hc : l[k] = c) : l.getD k 0 = c := by
 simp [List.getD, List.getElem?_eq_getElem h, hc]
theorem cC {n m : Nat} (h : ((n : Int) == (m : Int)) = true) : n = m := by simp at h; omega
theorem bE {n m : Nat} (h : ((n : Int) == (m : Int)) = false) : ¬ n = m := by simp at h; omega
theorem kW {l : List UInt8} {k : Nat} {c : UInt8} (h : spanN aR l = k) (h1 : 1 < k) (h0 : 0 < l.length) (hc : l[0] = c) (h48 : ((c.toNat : Int) == 48) = true) : cY l = (0, 2) := by
 unfold cY; rw [h, aC h0 hc]; have := cC (m := 48) h48; simp [h1, this]
theorem ld {l : List UInt8} {k : Nat} (h : spanN aR l = k) (h1 : 1 < k → ¬ (l.getD 0 0).toNat = 48) (h15 : 15 < k) : cY l = (0, 3) := by
 unfold cY; rw [h]; simp only; rw [if_neg (fun x => h1 x.1 x.2), if_pos h15]
theorem fF {l : List UInt8} {k : Nat} (h : spanN aR l = k) (h1 : 1 < k → ¬ (l.getD 0 0).toNat = 48) (h15 : ¬ 15 < k) : cY l = (k, 0) := by
 unfold cY; rw [h]; simp only; rw [if_neg (fun x => h1 x.1 x.2), if_neg h15]
theorem vX {l : List UInt8} {k : Nat} {c : UInt8} (h : k < l.length) (hc : l[k] = c) :
  quotedT (l.drop k) k = if aL c = false then (k, 1) else if c.toNat = 34 then (k + 1, 0) else if c.toNat = 92 ∨ c.toNat < 32 then (0, 2) else quotedT (l.drop (k + 1)) (k + 1) := by
 rw [List.drop_eq_getElem_cons h, hc]; rfl
theorem wM {l : List UInt8} {k : Nat} (h : l.length ≤ k) : quotedT (l.drop k) k = (0, 2) := by
 rw [List.drop_of_length_le h]; rfl
theorem ss (l : List UInt8) (a b : Nat) : (ByteArray.mk l.toArray).extract a b = ⟨((l.drop a).take (b - a)).toArray⟩ := by
 apply ByteArray.ext
 rw [ByteArray.data_extract]
 simp [List.extract_eq_take_drop]
theorem mC (l : List UInt8) (a : Nat) : (l.drop a).take (l.length - a) = l.drop a := by
 apply List.take_of_length_le; simp
theorem gi {l : List UInt8} {n : Nat} (hn : spanN bb l = n) (h : cy l = false) : bw l = bq l n := by simp [bw, h, hn]
theorem tY {l : List UInt8} {n m : Nat} (hn : spanN bb l = n) (hm : spanN bb (l.drop (n + 1)) = m) (h : cy l = true) : bw l = cP l n m := by simp [bw, h, hn, hm]
theorem zC {l : List UInt8} {c : UInt8} (h0 : 0 < l.length) (hc : l[0] = c) (h : upperB c = false) : cy l = false := by
 simp [cy, aC h0 hc, h, -List.getD_eq_getElem?_getD]
theorem Ap {l : List UInt8} {n : Nat} (hn : spanN bb l = n) (h : gX (l.take n) = true) : cy l = false := by
 simp [cy, hn, h]
theorem Ba {l : List UInt8} {n : Nat} (hn : spanN bb l = n) (h : ¬ n + 1 < l.length) : cy l = false := by
 simp [cy, hn, h]
theorem zX {l : List UInt8} {n : Nat} {c : UInt8} (hn : spanN bb l = n) (hl : n < l.length) (hc : l[n] = c) (h : ((c.toNat : Int) == 46) = false) : cy l = false := by
 have := bE (m := 46) h
 simp [cy, hn, aC hl hc, this, -List.getD_eq_getElem?_getD]
theorem AW {l : List UInt8} {n : Nat} {c : UInt8} (hn : spanN bb l = n) (hl : n + 1 < l.length) (hc : l[n + 1] = c) (h : aW c = false) : cy l = false := by
 simp [cy, hn, aC hl hc, h, -List.getD_eq_getElem?_getD]
theorem wd {l : List UInt8} {n : Nat} {c0 c1 c2 : UInt8} (hn : spanN bb l = n) (h0 : 0 < l.length) (hc0 : l[0] = c0) (hu : upperB c0 = true) (hr : gX (l.take n) = false)
  (hl : n + 1 < l.length) (hl' : n < l.length) (hc1 : l[n] = c1) (h46 : ((c1.toNat : Int) == 46) = true) (hc2 : l[n + 1] = c2) (h3 : aW c2 = true) : cy l = true := by
 have := cC (m := 46) h46
 simp [cy, hn, aC h0 hc0, aC hl' hc1, aC hl hc2, hu, hr, hl, h3, this, -List.getD_eq_getElem?_getD]
theorem qN {l : List UInt8} {c : UInt8} (h0 : 0 < l.length) (hc : l[0] = c) :
  tokenT l = if aL c = false then (0, 0, 1) else if aW c = true then bw l else if aR c = true then (5, cY l) else if c.toNat = 34 then (6, quotedT l.tail 1)
   else if c.toNat = 61 ∧ 1 < l.length ∧ (l.getD 1 0).toNat = 61 then (8, 2, 0) else if signs.contains c = true then (8, 1, 0) else (0, 0, 2) := by
 unfold tokenT; rw [aC h0 hc]
theorem rN : ∀ (r : List UInt8) (i : Nat), (quotedT r i).1 ≤ i + r.length ∧ ((quotedT r i).2 = 0 → i < (quotedT r i).1)
 | [], i => by simp [quotedT]
 | c :: r, i => by
  have ih := rN r (i + 1)
  unfold quotedT
  split
  ·simp
  ·split
   ·simp <;> omega
   ·split
    ·simp
    ·simp only [List.length_cons]; exact ⟨by omega, fun h => by have := ih.2 h; omega⟩
theorem Ab {l : List UInt8} (h0 : 0 < l.length) (hc : aW (l.getD 0 0) = true) : (bw l).2.1 ≤ l.length ∧ ((bw l).2.2 = 0 → 0 < (bw l).2.1) := by
 have h1 := iK bb l
 have h2 : 0 < spanN bb l := rf h0 (by simp [bb, hc, -List.getD_eq_getElem?_getD])
 have h3 := iK bb (l.drop (spanN bb l + 1))
 simp only [List.length_drop] at h3
 unfold bw
 split
 ·rename_i hcond
  have h4 : spanN bb l + 1 < l.length := by
   unfold cy at hcond
   simp only [Bool.and_eq_true, decide_eq_true_eq] at hcond
   exact hcond.1.1.2
  unfold cP
  split
  ·simp
  ·split
   ·simp
   ·split <;> simp <;> omega
 ·unfold bq
  split
  ·simp
  ·split
   ·simp; omega
   ·split <;> simp <;> omega
theorem wL {l : List UInt8} (h0 : 0 < l.length) (hc : aR (l.getD 0 0) = true) : (cY l).1 ≤ l.length ∧ ((cY l).2 = 0 → 0 < (cY l).1) := by
 have h1 := iK aR l
 have h2 : 0 < spanN aR l := rf h0 hc
 unfold cY
 simp only
 split
 ·simp
 ·split
  ·simp
  ·simp; omega
theorem zm {l : List UInt8} (h0 : 0 < l.length) : (tokenT l).2.1 ≤ l.length ∧ ((tokenT l).2.2 = 0 → 0 < (tokenT l).2.1) := by
 unfold tokenT
 simp only
 split
 ·simp
 split
 ·exact Ab h0 ‹_›
 split
 ·exact wL h0 ‹_›
 split
 ·have := rN l.tail 1
  simp only [List.length_tail] at this
  exact ⟨by simp only; omega, fun h => by have := this.2 h; simp only; omega⟩
 split
 ·simp; omega
 split
 ·simp; omega
 ·simp
theorem wN {l : List UInt8} {k n : Nat} {c : UInt8} (h : k < l.length) (hc : l[k] = c) (hw : bD c = true) : aE false (l.drop k) n = aE false (l.drop (k + 1)) (n + 1) := by
 rw [List.drop_eq_getElem_cons h, hc]; simp [aE, hw]
theorem yB {l : List UInt8} {k n : Nat} {c : UInt8} (h : k < l.length) (hc : l[k] = c) (hh : c.toNat = 35) : aE false (l.drop k) n = aE true (l.drop k) n := by
 rw [List.drop_eq_getElem_cons h, hc]
 have h1 : bD c = false := by simp [bD, hh]
 have h2 : aL c = true := by simp [aL, cQ, hh]
 simp [aE, h1, h2, hh]
theorem wQ {l : List UInt8} {k n : Nat} {c : UInt8} (h : k < l.length) (hc : l[k] = c) (hw : bD c = false) (hh : ¬ c.toNat = 35) : aE false (l.drop k) n = (n, none) := by
 rw [List.drop_eq_getElem_cons h, hc]; simp [aE, hw, hh]
theorem yx {l : List UInt8} {k n : Nat} {c : UInt8} (h : k < l.length) (hc : l[k] = c) (hh : c.toNat = 10) : aE true (l.drop k) n = aE false (l.drop k) n := by
 rw [List.drop_eq_getElem_cons h, hc]
 have h1 : bD c = true := by simp [bD, hh]
 simp [aE, h1, hh]
theorem Bc {l : List UInt8} {k n : Nat} {c : UInt8} (h : k < l.length) (hc : l[k] = c) (h10 : ¬ c.toNat = 10) (ha : aL c = false) : aE true (l.drop k) n = (n, some n) := by
 rw [List.drop_eq_getElem_cons h, hc]; simp [aE, h10, ha]
theorem BQ {l : List UInt8} {k n : Nat} {c : UInt8} (h : k < l.length) (hc : l[k] = c) (h10 : ¬ c.toNat = 10) (ha : aL c = true) : aE true (l.drop k) n = aE true (l.drop (k + 1)) (n + 1) := by
 rw [List.drop_eq_getElem_cons h, hc]; simp [aE, h10, ha]
theorem qQ {l : List UInt8} {k n : Nat} (b : Bool) (h : l.length ≤ k) : aE b (l.drop k) n = (n, none) := by
 rw [List.drop_of_length_le h]; cases b <;> rfl
theorem AE {f : Nat} {l : List UInt8} {pos n b : Nat} {acc : List TokZ} (h : aE false l 0 = (n, some b)) : scanT (f + 1) l pos acc = ⟨[], [], pos + b, 1⟩ := by
 simp [scanT, h]
theorem AQ {f : Nat} {l : List UInt8} {pos n : Nat} {acc : List TokZ} (h : aE false l 0 = (n, none)) (hn : n = l.length) : scanT (f + 1) l pos acc = ⟨acc, l, 0, 0⟩ := by
 simp [scanT, h, hn]
theorem Aq {f : Nat} {l : List UInt8} {pos n k m e : Nat} {acc : List TokZ} (h : aE false l 0 = (n, none)) (hn : ¬ n = l.length) (ht : tokenT (l.drop n) = (k, m, e)) (he : ¬ e = 0) :
  scanT (f + 1) l pos acc = ⟨[], [], pos + n + m, e⟩ := by
 simp [scanT, h, hn, ht, he]
theorem zU {f : Nat} {l : List UInt8} {pos n k m : Nat} {acc : List TokZ} (h : aE false l 0 = (n, none)) (hn : ¬ n = l.length) (ht : tokenT (l.drop n) = (k, m, 0)) :
  scanT (f + 1) l pos acc = scanT f (l.drop (n + m)) (pos + n + m) (acc ++ [⟨k, l.take n, (l.drop n).take m⟩]) := by
 simp [scanT, h, hn, ht]
end Go.Proofs.YthnohcipianijaaGreatDoor.Lx
namespace Go.Proofs.YthnohcipianijaaGreatDoor.Sx
open Lx
inductive Tree where
 | node (kind : Int) (text : List UInt8) (leads : List (List UInt8)) (kids : List Tree)
def Tree.kind : Tree → Int | .node k _ _ _ => k
def Tree.text : Tree → List UInt8 | .node _ s _ _ => s
def Tree.leads : Tree → List (List UInt8) | .node _ _ l _ => l
def Tree.kids : Tree → List Tree | .node _ _ _ k => k
def jT : Tree := .node 0 [] [] []
def Db : TokZ := ⟨0, [], []⟩
structure PS where
 toks : List TokZ
 off : Nat
 size : Nat
 failed : Nat
 place : Nat
def bA (s : PS) : TokZ := s.toks.headD Db
def ry (e : Nat) (s : PS) : PS := if s.failed = 0 then ⟨[], s.off, s.size, e, s.off⟩ else ⟨[], s.off, s.size, s.failed, s.place⟩
def dg (s : PS) : PS :=
 match s.toks with
 | [] => s
 | [_] => ⟨[], s.size, s.size, s.failed, s.place⟩
 | t :: u :: r => ⟨u :: r, s.off + (t.text.length + u.lead.length), s.size, s.failed, s.place⟩
def dU (x : List UInt8) (s : PS) : List UInt8 × PS := if (bA s).text = x then ((bA s).lead, dg s) else ([], ry 2 s)
def nW (k o : Int) (s : PS) : List UInt8 × List UInt8 × PS :=
 if (bA s).kind = 0 ∨ ((bA s).kind ≠ k ∧ (bA s).kind ≠ o) then ([], [], ry 2 s) else ((bA s).text, (bA s).lead, dg s)
def Di : List UInt8 := [109, 111, 100, 117, 108, 101]
def Bf : List UInt8 := [100, 101, 102]
def CJ : List UInt8 := [116, 121, 112, 101]
def EA : List UInt8 := [108, 101, 116]
def wIn : List UInt8 := [105, 110]
def wIf : List UInt8 := [105, 102]
def FQ : List UInt8 := [116, 104, 101, 110]
def GC : List UInt8 := [101, 108, 115, 101]
def CH : List UInt8 := [116, 114, 117, 101]
def zB : List UInt8 := [102, 97, 108, 115, 101]
def GJ : List UInt8 := [73, 110, 116]
def FW : List UInt8 := [84, 101, 120, 116]
def FO : List UInt8 := [66, 111, 111, 108]
def Gm (x : List UInt8) : Bool := x == [43] || x == [45] || x == [42] || x == [60] || x == [61, 61]
def yd (t : TokZ) : Bool :=
 t.kind == 5 || t.kind == 6 || t.kind == 1 || t.kind == 3 || t.text == EA || t.text == wIf || t.text == CH || t.text == zB || t.text == [63] || t.text == [91] || t.text == [40]
def tN : Nat → PS → Tree × PS
 | 0, s => (jT, s)
 | n + 1, s =>
  if (bA s).text = GJ then (.node 5 [] [(bA s).lead] [], dg s)
  else if (bA s).text = FW then (.node 6 [] [(bA s).lead] [], dg s)
  else if (bA s).text = FO then (.node 7 [] [(bA s).lead] [], dg s)
  else if (bA s).text = [91] then
   (.node 8 [] [(bA s).lead, (dU [93] (tN n (dg s)).2).1] [(tN n (dg s)).1], (dU [93] (tN n (dg s)).2).2)
  else (.node 9 (nW 2 4 s).1 [(nW 2 4 s).2.1] [], (nW 2 4 s).2.2)
def Aw (n : Nat) (s0 : PS) : Tree × PS :=
 let a := dU CJ s0
 let b := nW 2 2 a.2
 let c := dU [61] b.2.2
 let t := tN n c.2
 (.node 3 b.1 [a.1, b.2.1, c.1] [t.1], t.2)
def Fc (n : Nat) (s0 : PS) : Tree × PS :=
 let b := nW 1 1 s0
 let c := dU [58] b.2.2
 let t := tN n c.2
 (.node 4 b.1 [b.2.1, c.1] [t.1], t.2)
def commaF (item : PS → Tree × PS) (most : Nat) (beg : TokZ → Bool) : Nat → List (List UInt8) → List Tree → PS → List (List UInt8) × List Tree × PS
 | 0, cs, ks, s => (cs, ks, s)
 | m + 1, cs, ks, s =>
  if (bA s).text = [44] then
   let s2 := if ks.length = most ∧ beg (bA (dg s)) = true then ry 3 (dg s) else dg s
   commaF item most beg m (cs ++ [(bA s).lead]) (ks ++ [(item s2).1]) (item s2).2
  else (cs, ks, s)
def Hb (E : PS → Tree × PS) (s : PS) : Tree × PS := (.node 17 [] [] [(E s).1], (E s).2)
def Fu (item : PS → Tree × PS) (most : Nat) (beg : TokZ → Bool) (s : PS) : List (List UInt8) × List Tree × PS :=
 if (bA s).text = [41] then ([], [], s) else commaF item most beg ((item s).2.toks.length + 1) [] [(item s).1] (item s).2
def GZ (E : PS → Tree × PS) (s0 : PS) : Tree × PS :=
 if (bA s0).kind = 1 ∧ ¬ (bA (dg s0)).text = [40] then (.node 12 (bA s0).text [(bA s0).lead] [], dg s0)
 else
  let a := dU [40] (dg s0)
  let r := Fu (Hb E) 8 yd a.2
  let z := dU [41] r.2.2
  (.node 16 (bA s0).text ([(bA s0).lead, a.1, z.1] ++ r.1) r.2.1, z.2)
def Gy (E : PS → Tree × PS) (s0 : PS) : Tree × PS :=
 let a := dU [91] s0
 let r := commaF E 16 yd ((E a.2).2.toks.length + 1) [] [(E a.2).1] (E a.2).2
 let z := dU [93] r.2.2
 (.node 18 [] ([a.1, z.1] ++ r.1) r.2.1, z.2)
def EH (E : PS → Tree × PS) (s0 : PS) : Tree × PS :=
 let e := E (dg s0)
 let z := dU [41] e.2
 (.node 22 [] [(bA s0).lead, z.1] [e.1], z.2)
def uQ (E : PS → Tree × PS) (s : PS) : Tree × PS :=
 let t := bA s
 if t.kind = 1 ∨ t.kind = 3 then GZ E s
 else if t.text = CH then (.node 13 [] [t.lead] [], dg s)
 else if t.text = zB then (.node 14 [] [t.lead] [], dg s)
 else if t.text = [63] then (.node 15 [] [t.lead] [], dg s)
 else if t.text = [91] then Gy E s
 else if t.text = [40] then EH E s
 else if t.kind = 5 then (.node 10 t.text [t.lead] [], dg s)
 else if t.kind = 6 then (.node 11 t.text [t.lead] [], dg s)
 else (jT, ry 2 s)
def FK (U : PS → Tree × PS) : Nat → Tree → PS → Tree × PS
 | 0, t, s => (t, s)
 | m + 1, t, s =>
  if Gm (bA s).text = true then FK U m (.node 21 (bA s).text [(bA s).lead] [t, (U (dg s)).1]) (U (dg s)).2
  else (t, s)
def GM (E : PS → Tree × PS) (s0 : PS) : Tree × PS :=
 let b := nW 1 1 (dg s0)
 let c := dU [61] b.2.2
 let x := E c.2
 let d := dU wIn x.2
 let y := E d.2
 (.node 20 b.1 [(bA s0).lead, b.2.1, c.1, d.1] [x.1, y.1], y.2)
def ifF (E : PS → Tree × PS) (s0 : PS) : Tree × PS :=
 let x := E (dg s0)
 let c := dU FQ x.2
 let y := E c.2
 let d := dU GC y.2
 let z := E d.2
 (.node 19 [] [(bA s0).lead, c.1, d.1] [x.1, y.1, z.1], z.2)
def Ge (E : PS → Tree × PS) (s : PS) : Tree × PS :=
 if (bA s).text = EA then GM E s
 else if (bA s).text = wIf then ifF E s
 else FK (uQ E) ((uQ E s).2.toks.length + 1) (uQ E s).1 (uQ E s).2
def CF : Nat → PS → Tree × PS
 | 0, s => (jT, s)
 | n + 1, s => Ge (CF n) s
def ub (n : Nat) (s0 : PS) : Tree × PS :=
 let a := dU Bf s0
 let b := nW 1 1 a.2
 let c := dU [40] b.2.2
 let r := Fu (Fc n) 8 (fun t => t.kind == 1) c.2
 let d := dU [41] r.2.2
 let e := dU [58] d.2
 let t := tN n e.2
 let g := dU [61] t.2
 let x := CF n g.2
 (.node 2 b.1 ([a.1, b.2.1, c.1, d.1, e.1, g.1] ++ r.1) (r.2.1 ++ [t.1, x.1]), x.2)
def sZ (n : Nat) : Nat → List Tree → PS → List Tree × PS
 | 0, ks, s => (ks, s)
 | m + 1, ks, s =>
  if s.toks = [] then (ks, s)
  else if ¬ (bA s).text = Bf ∧ ¬ (bA s).text = CJ then sZ n m ks (ry 2 s)
  else if ks.length = 40 then sZ n m ks (ry 3 s)
  else if (bA s).text = Bf then sZ n m (ks ++ [(ub n s).1]) (ub n s).2
  else sZ n m (ks ++ [(Aw n s).1]) (Aw n s).2
def Gd (n : Nat) (s0 : PS) : Tree × PS :=
 let a := dU Di s0
 let b := nW 2 2 a.2
 let r := sZ n (b.2.2.toks.length + 2) [] b.2.2
 (.node 1 b.1 [a.1, b.2.1, []] r.1, r.2)
mutual
def depthT : Tree → Nat
 | .node _ _ _ ks => depthsT ks + 1
def depthsT : List Tree → Nat
 | [] => 0
 | t :: r => max (depthT t) (depthsT r)
end
def Eh (toks : List TokZ) (size : Nat) : PS := ⟨toks, match toks with | [] => size | t :: _ => t.lead.length, size, 0, 0⟩
def FG (l : List UInt8) : Tree × Nat × Nat :=
 let r := scan l
 if ¬ r.err = 0 then (jT, r.place, r.err)
 else
  let f := Gd (r.toks.length + 1) (Eh r.toks l.length)
  if ¬ f.2.failed = 0 then (jT, f.2.place, f.2.failed)
  else if 40 < depthT f.1 then (jT, 0, 4)
  else (.node f.1.kind f.1.text (f.1.leads.set 2 r.tail) f.1.kids, 0, 0)
end Go.Proofs.YthnohcipianijaaGreatDoor.Sx
namespace Go.Proofs.YthnohcipianijaaGreatDoor
open Go.RowKit Lx Sx
abbrev mA (l : List UInt8) : Value := .string ⟨l.toArray⟩
def RowIn (S : Nat → Prop) (w : World) (size : Nat) (A : Option Addr) (n : Nat) (xs : List Value) : Prop :=
 xs.length = n * size ∧ (0 < n → ∃ b off, A = some ⟨b, off, none⟩ ∧ S b ∧ b < w.heap.size ∧ ∀ j, j < n * size → w.cell? ⟨b, off + j, none⟩ = xs[j]?)
mutual
def TreeIs (S : Nat → Prop) (w : World) : Tree → List Value → Prop
 | .node k s ls ks, c => ∃ A m B n, c = [.int .i64 k, mA s, .slice A ls.length m, .slice B ks.length n] ∧ ls.length ≤ m ∧ m ≤ maxLen ∧ ks.length ≤ n ∧ n ≤ maxLen ∧
  RowIn S w 1 A ls.length (ls.map mA) ∧ ∃ cs, KidsAre S w ks cs ∧ RowIn S w 4 B ks.length cs
def KidsAre (S : Nat → Prop) (w : World) : List Tree → List Value → Prop
 | [], cs => cs = []
 | t :: r, cs => ∃ c d, cs = c ++ d ∧ TreeIs S w t c ∧ KidsAre S w r d
end
section
variable {S S' : Nat → Prop} {w w' : World}
theorem RowIn.none_ {size : Nat} {A : Option Addr} : RowIn S w size A 0 [] := ⟨by simp, fun h => absurd h (by omega)⟩
theorem RowIn.keepB {size n : Nat} {A : Option Addr} {xs : List Value} (h : RowIn S w size A n xs) (hS : ∀ b, S b → b < w.heap.size → S' b) (hk : ∀ b, S b → b < w.heap.size → w'.heap[b]? = w.heap[b]?) : RowIn S' w' size A n xs := by
 refine ⟨h.1, fun hn => ?_⟩
 obtain ⟨b, off, e, hs, hb, hc⟩ := h.2 hn
 have hh := hk b hs hb
 refine ⟨b, off, e, hS b hs hb, ?_, fun j hj => ?_⟩
 ·rcases Nat.lt_or_ge b w'.heap.size with h1 | h1
  ·exact h1
  ·rw [Array.getElem?_eq_none h1, Array.getElem?_eq_getElem hb] at hh; cases hh
 ·rw [← hc j hj]; exact World.cell?_of_block (a := ⟨b, off + j, none⟩) hh
theorem RowIn.keep {size n : Nat} {A : Option Addr} {xs : List Value} (h : RowIn S w size A n xs) (hS : ∀ b, S b → S' b) (hk : ∀ b, S b → b < w.heap.size → w'.heap[b]? = w.heap[b]?) : RowIn S' w' size A n xs := by
 refine ⟨h.1, fun hn => ?_⟩
 obtain ⟨b, off, e, hs, hb, hc⟩ := h.2 hn
 have hh := hk b hs hb
 refine ⟨b, off, e, hS b hs, ?_, fun j hj => ?_⟩
 ·rcases Nat.lt_or_ge b w'.heap.size with h1 | h1
  ·exact h1
  ·rw [Array.getElem?_eq_none h1, Array.getElem?_eq_getElem hb] at hh; cases hh
 ·rw [← hc j hj]; exact World.cell?_of_block (a := ⟨b, off + j, none⟩) hh
mutual
theorem TreeIs.keepB (hS : ∀ b, S b → b < w.heap.size → S' b) (hk : ∀ b, S b → b < w.heap.size → w'.heap[b]? = w.heap[b]?) : ∀ {t : Tree} {c : List Value}, TreeIs S w t c → TreeIs S' w' t c
 | .node k s ls ks, c, h => by
  simp only [TreeIs] at h ⊢
  obtain ⟨A, m, B, n, e, h1, h2, h3, h4, h5, cs, h6, h7⟩ := h
  exact ⟨A, m, B, n, e, h1, h2, h3, h4, h5.keepB hS hk, cs, KidsAre.keepB hS hk h6, h7.keepB hS hk⟩
theorem KidsAre.keepB (hS : ∀ b, S b → b < w.heap.size → S' b) (hk : ∀ b, S b → b < w.heap.size → w'.heap[b]? = w.heap[b]?) : ∀ {ts : List Tree} {cs : List Value}, KidsAre S w ts cs → KidsAre S' w' ts cs
 | [], cs, h => by simp only [KidsAre] at h ⊢; exact h
 | t :: r, cs, h => by
  simp only [KidsAre] at h ⊢
  obtain ⟨c, d, e, h1, h2⟩ := h
  exact ⟨c, d, e, TreeIs.keepB hS hk h1, KidsAre.keepB hS hk h2⟩
end
mutual
theorem TreeIs.keep (hS : ∀ b, S b → S' b) (hk : ∀ b, S b → b < w.heap.size → w'.heap[b]? = w.heap[b]?) : ∀ {t : Tree} {c : List Value}, TreeIs S w t c → TreeIs S' w' t c
 | .node k s ls ks, c, h => by
  simp only [TreeIs] at h ⊢
  obtain ⟨A, m, B, n, e, h1, h2, h3, h4, h5, cs, h6, h7⟩ := h
  exact ⟨A, m, B, n, e, h1, h2, h3, h4, h5.keep hS hk, cs, KidsAre.keep hS hk h6, h7.keep hS hk⟩
theorem KidsAre.keep (hS : ∀ b, S b → S' b) (hk : ∀ b, S b → b < w.heap.size → w'.heap[b]? = w.heap[b]?) : ∀ {ts : List Tree} {cs : List Value}, KidsAre S w ts cs → KidsAre S' w' ts cs
 | [], cs, h => by simp only [KidsAre] at h ⊢; exact h
 | t :: r, cs, h => by
  simp only [KidsAre] at h ⊢
  obtain ⟨c, d, e, h1, h2⟩ := h
  exact ⟨c, d, e, TreeIs.keep hS hk h1, KidsAre.keep hS hk h2⟩
end
theorem TreeIs.four {t : Tree} {c : List Value} (h : TreeIs S w t c) : c.length = 4 := by
 cases t; simp only [TreeIs] at h; obtain ⟨A, m, B, n, e, _⟩ := h; rw [e]; rfl
theorem KidsAre.length : ∀ {ts : List Tree} {cs : List Value}, KidsAre S w ts cs → cs.length = ts.length * 4
 | [], cs, h => by simp only [KidsAre] at h; simp [h]
 | t :: r, cs, h => by
  simp only [KidsAre] at h
  obtain ⟨c, d, e, h1, h2⟩ := h
  have := KidsAre.length h2
  have := h1.four
  rw [e]; simp; omega
abbrev Any : Nat → Prop := fun _ => True
theorem TreeIs.ext {t : Tree} {c : List Value} (h : TreeIs S w t c) (he : Ext w w') : TreeIs S w' t c := h.keep (fun _ h => h) (fun _ _ hb => he.block hb)
theorem KidsAre.ext {ts : List Tree} {c : List Value} (h : KidsAre S w ts c) (he : Ext w w') : KidsAre S w' ts c := h.keep (fun _ h => h) (fun _ _ hb => he.block hb)
theorem RowIn.ext {size n : Nat} {A : Option Addr} {xs : List Value} (h : RowIn S w size A n xs) (he : Ext w w') : RowIn S w' size A n xs := h.keep (fun _ h => h) (fun _ _ hb => he.block hb)
theorem RowIn.row {size n : Nat} {A : Option Addr} {xs : List Value} (h : RowIn S w size A n xs) : Row w size A n xs :=
 ⟨h.1, fun hn => by obtain ⟨b, off, e, _, hb, hc⟩ := h.2 hn; exact ⟨b, off, e, hb, hc⟩⟩
theorem RowIn.of_own {base : Nat} {e : TypeId} {size n c : Nat} {A : Option Addr} {xs : List Value} (h : w.ownsRow base e size (.slice A n c) n xs) : RowIn (fun b => base ≤ b) w size A n xs := by
 refine ⟨h.1, fun hn => ?_⟩
 obtain ⟨b, off, e', hb, hc⟩ := (Row.of_own h).2 hn
 obtain ⟨g, cap, hv, hg, hlt⟩ := h.form hn
 have : A = some ⟨g, 0, none⟩ := by injection hv
 rw [this] at e'
 injection e' with e'
 injection e' with e1 e2
 subst e1
 exact ⟨g, off, by rw [this, ← e2], hg, hlt, hc⟩
theorem TreeIs.bound : ∀ {t : Tree} {c : List Value}, TreeIs S w t c → TreeIs (fun b => S b ∧ b < w.heap.size) w t c := fun {t c} h => TreeIs.keepB (S := S) (S' := fun b => S b ∧ b < w.heap.size) (fun b hb hlt => ⟨hb, hlt⟩) (fun _ _ _ => rfl) h
theorem Dg {k : Int} {s : List UInt8} {ls : List (List UInt8)} {ks : List Tree} {A B : Option Addr} {m n : Nat} {cs : List Value} (h1 : ls.length ≤ m) (h2 : m ≤ maxLen) (h3 : ks.length ≤ n) (h4 : n ≤ maxLen)
  (h5 : RowIn S w 1 A ls.length (ls.map mA)) (h6 : KidsAre S w ks cs) (h7 : RowIn S w 4 B ks.length cs) : TreeIs S w (.node k s ls ks) [.int .i64 k, mA s, .slice A ls.length m, .slice B ks.length n] := by
 simp only [TreeIs]
 exact ⟨A, m, B, n, rfl, h1, h2, h3, h4, h5, cs, h6, h7⟩
theorem TreeIs.one {t : Tree} {c : List Value} (h : TreeIs S w t c) : c.all (·.oneCell') = true := by
 cases t; simp only [TreeIs] at h; obtain ⟨A, m, B, n, e, _⟩ := h; rw [e]; rfl
end
end Go.Proofs.YthnohcipianijaaGreatDoor
namespace Go.Proofs.YthnohcipianijaaGreatDoor
open Go.RowKit
inductive V where
 | int (k : IntKind) (n : Int)
 | bool (b : Bool)
 | str (l : List UInt8)
 | nilp
 | nils
 | raw (x : Value)
 | ptr (id off : Nat)
 | el (id sz i off : Nat)
 | sl (id : Nat)
 | box (cs : List V) (off : Nat)
 | row (sz : Nat) (els : List V)
 | agg (cs : List V)
 | tup (vs : List V)
 | clo (fid : FuncId) (cs : List V)
 | lk (els : List (List V))
inductive Ob where
 | free
 | gone
 | var (t : TypeId) (cs : List V)
 | row (e : TypeId) (sz : Nat) (els : List V)
 | ext (bs : List Nat) (Φ : World → Prop)
 | mp (kt et : TypeId) (ks vs : List V)
def Value.blk : Value → Option Nat
 | .pointer (some a) => some a.block
 | _ => none
abbrev ρ0 : Nat → Option Value := fun _ => none
section
variable (S : Nat → Prop) (w : World)
mutual
def VRel (ρ : Nat → Option Value) : V → Value → Prop
 | .int k n, x => x = .int k n
 | .bool b, x => x = .bool b
 | .str l, x => x = .string ⟨l.toArray⟩
 | .nilp, x => x = .pointer none
 | .nils, x => x = .slice none 0 0
 | .raw y, x => x = y ∧ y.oneCell' = true
 | .ptr id o, x => ∃ b, ρ id = some (.pointer (some ⟨b, 0, none⟩)) ∧ x = .pointer (some ⟨b, o, none⟩)
 | .el id sz i o, x => ∃ b n c, ρ id = some (.slice (some ⟨b, 0, none⟩) n c) ∧ x = .pointer (some ⟨b, i * sz + o, none⟩)
 | .sl id, x => ρ id = some x ∧ x.oneCell' = true
 | .box cs o, x => ∃ b off xs, x = .pointer (some ⟨b, off + o, none⟩) ∧ S b ∧ b < w.heap.size ∧ LRel ρ0 cs xs ∧ ∀ j, j < xs.length → w.cell? ⟨b, off + j, none⟩ = xs[j]?
 | .row sz els, x => ∃ A c xs, x = .slice A els.length c ∧ els.length ≤ c ∧ c ≤ maxLen ∧ CRel ρ0 sz els xs ∧ RowIn S w sz A els.length xs
 | .agg cs, x => ∃ xs, x = .agg xs.toArray ∧ LRel ρ cs xs
 | .tup cs, x => ∃ xs, x = .tuple xs.toArray ∧ LRel ρ cs xs
 | .clo fid cs, x => ∃ xs, x = .func (.func fid) #[] xs.toArray ∧ LRel ρ cs xs
 | .lk els, x => KRel els x
def LRel (ρ : Nat → Option Value) : List V → List Value → Prop
 | [], xs => xs = []
 | v :: r, xs => ∃ x ys, xs = x :: ys ∧ VRel ρ v x ∧ LRel ρ r ys
def KRel : List (List V) → Value → Prop
 | [], x => x = .pointer none
 | cs :: r, x => ∃ b off xs y, x = .pointer (some ⟨b, off, none⟩) ∧ S b ∧ b < w.heap.size ∧ LRel ρ0 cs xs ∧ KRel r y ∧ y.oneCell' = true ∧ ∀ j, j < xs.length + 1 → w.cell? ⟨b, off + j, none⟩ = (xs ++ [y])[j]?
def CRel (ρ : Nat → Option Value) (sz : Nat) : List V → List Value → Prop
 | [], xs => xs = []
 | v :: r, xs => ∃ x ys, xs = x.cells.toList ++ ys ∧ (x.cells.size = sz ∧ x.cells.toList.all (·.oneCell') = true) ∧ VRel ρ v x ∧ CRel ρ sz r ys
end
end
structure Up (S S' : Nat → Prop) (w w' : World) (ρ ρ' : Nat → Option Value) : Prop where
 s : ∀ b, S b → S' b
 blk : ∀ b, S b → b < w.heap.size → w'.heap[b]? = w.heap[b]?
 r : ∀ i x, ρ i = some x → ρ' i = some x
section
variable {S S' : Nat → Prop} {w w' : World}
section
variable {ρ ρ' : Nat → Option Value}
theorem Up.refl : Up S S w w ρ ρ := ⟨fun _ h => h, fun _ _ _ => rfl, fun _ _ h => h⟩
theorem Up.lt (u : Up S S' w w' ρ ρ') {b : Nat} (hs : S b) (hb : b < w.heap.size) : b < w'.heap.size := by
 have hh := u.blk b hs hb
 rcases Nat.lt_or_ge b w'.heap.size with h1 | h1
 ·exact h1
 ·rw [Array.getElem?_eq_none h1, Array.getElem?_eq_getElem hb] at hh; cases hh
theorem Up.cell (u : Up S S' w w' ρ ρ') {b i : Nat} (hs : S b) (hb : b < w.heap.size) : w'.cell? ⟨b, i, none⟩ = w.cell? ⟨b, i, none⟩ :=
 World.cell?_of_block (a := ⟨b, i, none⟩) (u.blk b hs hb)
end
theorem Up.z {ρ ρ' : Nat → Option Value} (u : Up S S' w w' ρ ρ') : Up S S' w w' ρ0 ρ0 := ⟨u.s, u.blk, fun _ _ h => h⟩
mutual
theorem VRel.up {ρ ρ' : Nat → Option Value} (u : Up S S' w w' ρ ρ') : ∀ {v : V} {x : Value}, VRel S w ρ v x → VRel S' w' ρ' v x
 | .int _ _, x, h => by simp only [VRel] at h ⊢; exact h
 | .bool _, x, h => by simp only [VRel] at h ⊢; exact h
 | .str _, x, h => by simp only [VRel] at h ⊢; exact h
 | .nilp, x, h => by simp only [VRel] at h ⊢; exact h
 | .nils, x, h => by simp only [VRel] at h ⊢; exact h
 | .raw _, x, h => by simp only [VRel] at h ⊢; exact h
 | .ptr id o, x, h => by
  simp only [VRel] at h ⊢
  obtain ⟨b, h1, h2⟩ := h
  exact ⟨b, u.r _ _ h1, h2⟩
 | .el id sz i o, x, h => by
  simp only [VRel] at h ⊢
  obtain ⟨b, n, c, h1, h2⟩ := h
  exact ⟨b, n, c, u.r _ _ h1, h2⟩
 | .sl id, x, h => by simp only [VRel] at h ⊢; exact ⟨u.r _ _ h.1, h.2⟩
 | .box cs o, x, h => by
  simp only [VRel] at h ⊢
  obtain ⟨b, off, xs, h1, h2, h3, h4, h5⟩ := h
  exact ⟨b, off, xs, h1, u.s b h2, u.lt h2 h3, LRel.up u.z h4, fun j hj => (u.cell h2 h3).trans (h5 j hj)⟩
 | .row sz els, x, h => by
  simp only [VRel] at h ⊢
  obtain ⟨A, c, xs, h1, h2, h3, h4, h5⟩ := h
  exact ⟨A, c, xs, h1, h2, h3, CRel.up u.z h4, h5.keep u.s u.blk⟩
 | .agg cs, x, h => by
  simp only [VRel] at h ⊢
  obtain ⟨xs, h1, h2⟩ := h
  exact ⟨xs, h1, LRel.up u h2⟩
 | .tup cs, x, h => by
  simp only [VRel] at h ⊢
  obtain ⟨xs, h1, h2⟩ := h
  exact ⟨xs, h1, LRel.up u h2⟩
 | .clo fid cs, x, h => by
  simp only [VRel] at h ⊢
  obtain ⟨xs, h1, h2⟩ := h
  exact ⟨xs, h1, LRel.up u h2⟩
 | .lk els, x, h => by
  simp only [VRel] at h ⊢
  exact KRel.up u h
theorem KRel.up {ρ ρ' : Nat → Option Value} (u : Up S S' w w' ρ ρ') : ∀ {els : List (List V)} {x : Value}, KRel S w els x → KRel S' w' els x
 | [], x, h => by simp only [KRel] at h ⊢; exact h
 | cs :: r, x, h => by
  simp only [KRel] at h ⊢
  obtain ⟨b, off, xs, y, h1, h2, h3, h4, h5, h6, h7⟩ := h
  exact ⟨b, off, xs, y, h1, u.s b h2, u.lt h2 h3, LRel.up u.z h4, KRel.up u h5, h6, fun j hj => (u.cell h2 h3).trans (h7 j hj)⟩
theorem LRel.up {ρ ρ' : Nat → Option Value} (u : Up S S' w w' ρ ρ') : ∀ {v : List V} {x : List Value}, LRel S w ρ v x → LRel S' w' ρ' v x
 | [], x, h => by simp only [LRel] at h ⊢; exact h
 | v :: r, x, h => by
  simp only [LRel] at h ⊢
  obtain ⟨y, ys, h1, h2, h3⟩ := h
  exact ⟨y, ys, h1, VRel.up u h2, LRel.up u h3⟩
theorem CRel.up {ρ ρ' : Nat → Option Value} (u : Up S S' w w' ρ ρ') {sz : Nat} : ∀ {v : List V} {x : List Value}, CRel S w ρ sz v x → CRel S' w' ρ' sz v x
 | [], x, h => by simp only [CRel] at h ⊢; exact h
 | v :: r, x, h => by
  simp only [CRel] at h ⊢
  obtain ⟨y, ys, h1, h2, h3, h4⟩ := h
  exact ⟨y, ys, h1, h2, VRel.up u h3, CRel.up u h4⟩
end
end
section
variable (S : Nat → Prop) (w : World) (ρ : Nat → Option Value)
def own (id : Nat) : Ob → Nat → Prop
 | .free, _ => False
 | .gone, _ => False
 | .var _ _, b => ρ id = some (.pointer (some ⟨b, 0, none⟩))
 | .row _ _ _, b => ∃ v, ρ id = some v ∧ v.ownBlock = some b
 | .ext bs _, b => b ∈ bs
 | .mp _ _ _ _, b => ρ id = some (.map (some b))
def gp (id : Nat) : Ob → Prop
 | .free => ρ id = none
 | .gone => True
 | .var t cs => ∃ b xs, ρ id = some (.pointer (some ⟨b, 0, none⟩)) ∧ Blk w b t xs ∧ LRel S w ρ cs xs
 | .row e sz els => ∃ v xs, ρ id = some v ∧ w.ownsRow 0 e sz v els.length xs ∧ CRel S w ρ sz els xs
 | .ext bs Φ => Φ w ∧ (∀ b, b ∈ bs → b < w.heap.size) ∧ ∀ w', (∀ b, b ∈ bs → w'.heap[b]? = w.heap[b]?) → Φ w'
 | .mp _ _ ks vs => ∃ b es clock, ρ id = some (.map (some b)) ∧ w.heap[b]? = some (.map es clock) ∧ LRel S w ρ0 ks (es.toList.map (·.key)) ∧ LRel S w ρ0 vs (es.toList.map (·.val))
structure HRel (h : Nat → Ob) : Prop where
 ob : ∀ id, gp S w ρ id (h id)
 sep : ∀ id b, own ρ id (h id) b → ¬ S b
 dis : ∀ i j b, own ρ i (h i) b → own ρ j (h j) b → i = j
 slt : ∀ b, S b → b < w.heap.size
end
section
variable {S S' : Nat → Prop} {w w' : World} {ρ ρ' : Nat → Option Value} {h h' : Nat → Ob}
theorem vg {base e sz n : Nat} {v : Value} {xs : List Value} (ho : w.ownsRow base e sz v n xs) (hk : ∀ b, v.ownBlock = some b → w'.heap[b]? = w.heap[b]?) : w'.ownsRow base e sz v n xs := by
 refine ⟨ho.1, ?_⟩
 rcases ho.2 with h0 | ⟨g, cap, cur, rfl, hb, hg, h4⟩
 ·exact .inl h0
 ·exact .inr ⟨g, cap, cur, rfl, hb, (hk g rfl).trans hg, h4⟩
theorem eh {id : Nat} {o : Ob} {b : Nat} (ho : gp S w ρ id o) (hb : own ρ id o b) : b < w.heap.size := by
 cases o with
 | free => exact hb.elim
 | gone => exact hb.elim
 | var t cs =>
  obtain ⟨b', xs, h1, h2, _⟩ := ho
  simp only [own] at hb
  rw [h1] at hb
  simp only [Option.some.injEq, Value.pointer.injEq, Addr.mk.injEq, and_true] at hb
  subst hb; exact h2.lt
 | row e sz els =>
  obtain ⟨v, xs, h1, h2, _⟩ := ho
  obtain ⟨v', h3, h4⟩ := hb
  rw [h1] at h3
  simp only [Option.some.injEq] at h3
  subst h3
  exact (h2.lt b h4).2
 | ext bs Φ => exact ho.2.1 b hb
 | mp kt et ks vs =>
  obtain ⟨b', es, ck, h1, h2, _⟩ := ho
  simp only [own] at hb
  rw [h1] at hb
  simp only [Option.some.injEq, Value.map.injEq] at hb
  subst hb
  rcases Nat.lt_or_ge b' w.heap.size with h3 | h3
  ·exact h3
  ·rw [Array.getElem?_eq_none h3] at h2; cases h2
theorem gp.up {id : Nat} {o : Ob} (u : Up S S' w w' ρ ρ') (hf : o = .free → ρ' id = none) (ho : gp S w ρ id o) (hk : ∀ b, own ρ id o b → w'.heap[b]? = w.heap[b]?) : gp S' w' ρ' id o := by
 cases o with
 | free => exact hf rfl
 | gone => trivial
 | var t cs =>
  obtain ⟨b', xs, h1, h2, h3⟩ := ho
  exact ⟨b', xs, u.r _ _ h1, (hk b' h1).trans h2, LRel.up u h3⟩
 | row e sz els =>
  obtain ⟨v, xs, h1, h2, h3⟩ := ho
  exact ⟨v, xs, u.r _ _ h1, vg h2 (fun b hb => hk b ⟨v, h1, hb⟩), CRel.up u h3⟩
 | mp kt et ks vs =>
  obtain ⟨b', es, ck, h1, h2, h3, h4⟩ := ho
  exact ⟨b', es, ck, u.r _ _ h1, (hk b' h1).trans h2, LRel.up u.z h3, LRel.up u.z h4⟩
 | ext bs Φ =>
  obtain ⟨h1, h2, h3⟩ := ho
  refine ⟨h3 _ hk, fun b hb => ?_, fun w'' h' => h3 w'' (fun b hb => (h' b hb).trans (hk b hb))⟩
  have hh := hk b hb
  rcases Nat.lt_or_ge b w'.heap.size with h4 | h4
  ·exact h4
  ·rw [Array.getElem?_eq_none h4, Array.getElem?_eq_getElem (h2 b hb)] at hh; cases hh
theorem Ad {id : Nat} {o : Ob} {b : Nat} (hr : ∀ i x, ρ i = some x → ρ' i = some x) (ho : gp S w ρ id o) (hb : own ρ' id o b) : own ρ id o b := by
 cases o with
 | free => exact hb
 | gone => exact hb
 | var t cs =>
  obtain ⟨b', xs, h1, h2, h3⟩ := ho
  have := hr _ _ h1
  simp only [own] at hb ⊢
  rw [this] at hb; rw [h1]; exact hb
 | row e sz els =>
  obtain ⟨v, xs, h1, h2, h3⟩ := ho
  obtain ⟨v', h4, h5⟩ := hb
  rw [hr _ _ h1] at h4
  simp only [Option.some.injEq] at h4
  subst h4
  exact ⟨v, h1, h5⟩
 | ext bs Φ => exact hb
 | mp kt et ks vs =>
  obtain ⟨b', es, ck, h1, h2, h3⟩ := ho
  have := hr _ _ h1
  simp only [own] at hb ⊢
  rw [this] at hb; rw [h1]; exact hb
theorem LRel.length : ∀ {vs : List V} {xs : List Value}, LRel S w ρ vs xs → xs.length = vs.length
 | [], xs, h => by simp only [LRel] at h; simp [h]
 | v :: r, xs, h => by
  simp only [LRel] at h
  obtain ⟨x, ys, rfl, _, h3⟩ := h
  simp [LRel.length h3]
theorem LRel.get : ∀ {vs : List V} {xs : List Value} {i : Nat} {v : V}, LRel S w ρ vs xs → vs[i]? = some v → ∃ x, xs[i]? = some x ∧ VRel S w ρ v x
 | [], xs, i, v, h, hi => by simp at hi
 | u :: r, xs, 0, v, h, hi => by
  simp only [LRel] at h
  obtain ⟨x, ys, rfl, h2, h3⟩ := h
  simp only [List.getElem?_cons_zero, Option.some.injEq] at hi
  subst hi
  exact ⟨x, by simp, h2⟩
 | u :: r, xs, i + 1, v, h, hi => by
  simp only [LRel] at h
  obtain ⟨x, ys, rfl, h2, h3⟩ := h
  simp only [List.getElem?_cons_succ] at hi ⊢
  exact LRel.get h3 hi
theorem LRel.set : ∀ {vs : List V} {xs : List Value} {i : Nat} {v : V} {x : Value}, LRel S w ρ vs xs → VRel S w ρ v x → LRel S w ρ (vs.set i v) (xs.set i x)
 | [], xs, i, v, x, h, hx => by simp only [LRel] at h; subst h; simp [LRel]
 | u :: r, xs, 0, v, x, h, hx => by
  simp only [LRel] at h
  obtain ⟨y, ys, rfl, h2, h3⟩ := h
  exact ⟨x, ys, by simp, hx, h3⟩
 | u :: r, xs, i + 1, v, x, h, hx => by
  simp only [LRel] at h
  obtain ⟨y, ys, rfl, h2, h3⟩ := h
  exact ⟨y, ys.set i x, by simp, h2, LRel.set h3 hx⟩
theorem LRel.append : ∀ {vs us : List V} {xs ys : List Value}, LRel S w ρ vs xs → LRel S w ρ us ys → LRel S w ρ (vs ++ us) (xs ++ ys)
 | [], us, xs, ys, h, hu => by simp only [LRel] at h; subst h; simpa using hu
 | v :: r, us, xs, ys, h, hu => by
  simp only [LRel] at h
  obtain ⟨y, zs, rfl, h2, h3⟩ := h
  exact ⟨y, zs ++ ys, by simp, h2, LRel.append h3 hu⟩
theorem LRel.drop : ∀ {vs : List V} {xs : List Value} (n : Nat), LRel S w ρ vs xs → LRel S w ρ (vs.drop n) (xs.drop n)
 | vs, xs, 0, h => by simpa using h
 | [], xs, n + 1, h => by simp only [LRel] at h; subst h; simp [LRel]
 | v :: r, xs, n + 1, h => by
  simp only [LRel] at h
  obtain ⟨y, zs, rfl, h2, h3⟩ := h
  simpa using LRel.drop n h3
theorem LRel.take : ∀ {vs : List V} {xs : List Value} (n : Nat), LRel S w ρ vs xs → LRel S w ρ (vs.take n) (xs.take n)
 | vs, xs, 0, h => by simp [LRel]
 | [], xs, n + 1, h => by simp only [LRel] at h; subst h; simp [LRel]
 | v :: r, xs, n + 1, h => by
  simp only [LRel] at h
  obtain ⟨y, zs, rfl, h2, h3⟩ := h
  exact ⟨y, zs.take n, by simp, h2, LRel.take n h3⟩
theorem CRel.length {sz : Nat} : ∀ {vs : List V} {xs : List Value}, CRel S w ρ sz vs xs → xs.length = vs.length * sz
 | [], xs, h => by simp only [CRel] at h; simp [h]
 | v :: r, xs, h => by
  simp only [CRel] at h
  obtain ⟨x, ys, rfl, ⟨h2, _⟩, h3, h4⟩ := h
  have := CRel.length h4
  simp [this, h2, Nat.add_mul]; omega
theorem CRel.get {sz : Nat} : ∀ {vs : List V} {xs : List Value} {i : Nat} {v : V}, CRel S w ρ sz vs xs → vs[i]? = some v → ∃ x, VRel S w ρ v x ∧ x.cells.size = sz ∧ ∀ j, j < sz → xs[i * sz + j]? = x.cells.toList[j]?
 | [], xs, i, v, h, hi => by simp at hi
 | u :: r, xs, 0, v, h, hi => by
  simp only [CRel] at h
  obtain ⟨x, ys, rfl, ⟨h2, _⟩, h3, h4⟩ := h
  simp only [List.getElem?_cons_zero, Option.some.injEq] at hi
  subst hi
  exact ⟨x, h3, h2, fun j hj => by rw [List.getElem?_append_left (by simp; omega)]; simp⟩
 | u :: r, xs, i + 1, v, h, hi => by
  simp only [CRel] at h
  obtain ⟨x, ys, rfl, ⟨h2, _⟩, h3, h4⟩ := h
  simp only [List.getElem?_cons_succ] at hi
  obtain ⟨y, g1, g2, g3⟩ := CRel.get h4 hi
  refine ⟨y, g1, g2, fun j hj => ?_⟩
  rw [List.getElem?_append_right (by simp [h2, Nat.add_mul]; omega), ← g3 j hj]
  congr 1
  simp [h2, Nat.add_mul]; omega
theorem CRel.append {sz : Nat} : ∀ {vs us : List V} {xs ys : List Value}, CRel S w ρ sz vs xs → CRel S w ρ sz us ys → CRel S w ρ sz (vs ++ us) (xs ++ ys)
 | [], us, xs, ys, h, hu => by simp only [CRel] at h; subst h; simpa using hu
 | v :: r, us, xs, ys, h, hu => by
  simp only [CRel] at h
  obtain ⟨y, zs, rfl, h2, h3, h4⟩ := h
  exact ⟨y, zs ++ ys, by simp, h2, h3, CRel.append h4 hu⟩
theorem CRel.drop {sz : Nat} : ∀ {vs : List V} {xs : List Value} (n : Nat), CRel S w ρ sz vs xs → CRel S w ρ sz (vs.drop n) (xs.drop (n * sz))
 | vs, xs, 0, h => by simpa using h
 | [], xs, n + 1, h => by simp only [CRel] at h; subst h; simp [CRel]
 | v :: r, xs, n + 1, h => by
  simp only [CRel] at h
  obtain ⟨y, zs, rfl, ⟨h2, _⟩, h3, h4⟩ := h
  have := CRel.drop n h4
  have e : (y.cells.toList ++ zs).drop ((n + 1) * sz) = zs.drop (n * sz) := by
   rw [List.drop_append, List.drop_of_length_le (by simp [h2, Nat.add_mul])]
   simp [h2, Nat.add_mul]
  rw [e]; simpa using this
theorem CRel.take {sz : Nat} : ∀ {vs : List V} {xs : List Value} (n : Nat), CRel S w ρ sz vs xs → CRel S w ρ sz (vs.take n) (xs.take (n * sz))
 | vs, xs, 0, h => by simp [CRel]
 | [], xs, n + 1, h => by simp only [CRel] at h; subst h; simp [CRel]
 | v :: r, xs, n + 1, h => by
  simp only [CRel] at h
  obtain ⟨y, zs, rfl, ⟨h2, h1⟩, h3, h4⟩ := h
  have := CRel.take n h4
  have e : (y.cells.toList ++ zs).take ((n + 1) * sz) = y.cells.toList ++ zs.take (n * sz) := by
   rw [List.take_append, List.take_of_length_le (by simp [h2, Nat.add_mul])]
   congr 2
   simp [h2, Nat.add_mul]
  rw [e]
  exact ⟨y, _, rfl, ⟨h2, h1⟩, h3, this⟩
theorem CRel.ones {sz : Nat} : ∀ {vs : List V} {xs : List Value}, CRel S w ρ sz vs xs → ∀ u ∈ xs, u.oneCell' = true
 | [], xs, h => by simp only [CRel] at h; subst h; simp
 | v :: r, xs, h => by
  simp only [CRel] at h
  obtain ⟨x, ys, rfl, ⟨h2, h1⟩, h3, h4⟩ := h
  intro u hu
  rcases List.mem_append.1 hu with h | h
  ·exact List.all_eq_true.1 h1 u h
  ·exact CRel.ones h4 u h
def V.one : V → Bool
 | .agg _ => false
 | .tup _ => false
 | _ => true
theorem VRel.one {v : V} {x : Value} (hv : VRel S w ρ v x) (h1 : v.one = true) : x.oneCell' = true := by
 cases v with
 | int _ _ => simp only [VRel] at hv; subst hv; rfl
 | bool _ => simp only [VRel] at hv; subst hv; rfl
 | str _ => simp only [VRel] at hv; subst hv; rfl
 | nilp => simp only [VRel] at hv; subst hv; rfl
 | nils => simp only [VRel] at hv; subst hv; rfl
 | raw y => simp only [VRel] at hv; obtain ⟨rfl, h⟩ := hv; exact h
 | ptr id o => simp only [VRel] at hv; obtain ⟨b, _, rfl⟩ := hv; rfl
 | el id sz i o => simp only [VRel] at hv; obtain ⟨b, n, c, _, rfl⟩ := hv; rfl
 | sl id => simp only [VRel] at hv; exact hv.2
 | box cs o => simp only [VRel] at hv; obtain ⟨b, off, xs, rfl, _⟩ := hv; rfl
 | row sz els => simp only [VRel] at hv; obtain ⟨A, c, xs, rfl, _⟩ := hv; rfl
 | agg cs => cases h1
 | tup cs => cases h1
 | clo fid cs => simp only [VRel] at hv; obtain ⟨xs, rfl, _⟩ := hv; rfl
 | lk els =>
  simp only [VRel] at hv
  cases els with
  | nil => simp only [KRel] at hv; subst hv; rfl
  | cons c r => simp only [KRel] at hv; obtain ⟨b, off, xs, y, rfl, _⟩ := hv; rfl
theorem up0 : Up S S w w ρ0 ρ := ⟨fun _ h => h, fun _ _ _ => rfl, fun _ _ h => by cases h⟩
def V.cells : V → List V
 | .agg cs => cs
 | v => [v]
theorem VRel.cells {v : V} {x : Value} (hv : VRel S w ρ v x) : LRel S w ρ v.cells x.cells.toList := by
 have one : ∀ {u : V}, u.cells = [u] → VRel S w ρ u x → x.cells = #[x] → LRel S w ρ u.cells x.cells.toList := fun h1 h2 h3 => by rw [h1, h3]; exact ⟨x, [], rfl, h2, rfl⟩
 cases v with
 | agg cs =>
  simp only [VRel] at hv
  obtain ⟨xs, rfl, h⟩ := hv
  exact h
 | tup cs =>
  refine one rfl hv ?_
  simp only [VRel] at hv
  obtain ⟨xs, rfl, h⟩ := hv
  rfl
 | _ => exact one rfl hv (Aa (hv.one rfl))
end
mutual
def V.pure : V → Bool
 | .ptr _ _ => false
 | .el _ _ _ _ => false
 | .sl _ => false
 | .agg cs => pureL cs
 | .tup cs => pureL cs
 | .clo _ cs => pureL cs
 | .int _ _ => true
 | .bool _ => true
 | .str _ => true
 | .nilp => true
 | .nils => true
 | .raw _ => true
 | .box _ _ => true
 | .row _ _ => true
 | .lk _ => true
def pureL : List V → Bool
 | [] => true
 |v :: r => match v.pure with
  | true => pureL r
  | false => false
end
section
variable {S : Nat → Prop} {w : World} {ρ ρ' : Nat → Option Value}
theorem sJ {v : V} {r : List V} (h : pureL (v :: r) = true) : v.pure = true ∧ pureL r = true := by
 simp only [pureL] at h
 split at h
 ·exact ⟨‹_›, h⟩
 ·cases h
mutual
theorem VRel.pure : ∀ {v : V} {x : Value}, v.pure = true → VRel S w ρ v x → VRel S w ρ' v x
 | .int _ _, x, _, h => by simp only [VRel] at h ⊢; exact h
 | .bool _, x, _, h => by simp only [VRel] at h ⊢; exact h
 | .str _, x, _, h => by simp only [VRel] at h ⊢; exact h
 | .nilp, x, _, h => by simp only [VRel] at h ⊢; exact h
 | .nils, x, _, h => by simp only [VRel] at h ⊢; exact h
 | .raw _, x, _, h => by simp only [VRel] at h ⊢; exact h
 | .ptr id o, x, hp, h => by cases hp
 | .el id sz i o, x, hp, h => by cases hp
 | .sl id, x, hp, h => by cases hp
 | .box cs o, x, _, h => by simp only [VRel] at h ⊢; exact h
 | .row sz els, x, _, h => by simp only [VRel] at h ⊢; exact h
 | .agg cs, x, hp, h => by
  simp only [VRel] at h ⊢
  obtain ⟨xs, h1, h2⟩ := h
  exact ⟨xs, h1, LRel.pure (by simpa only [V.pure] using hp) h2⟩
 | .tup cs, x, hp, h => by
  simp only [VRel] at h ⊢
  obtain ⟨xs, h1, h2⟩ := h
  exact ⟨xs, h1, LRel.pure (by simpa only [V.pure] using hp) h2⟩
 | .lk _, x, _, h => by simp only [VRel] at h ⊢; exact h
 | .clo fid cs, x, hp, h => by
  simp only [VRel] at h ⊢
  obtain ⟨xs, h1, h2⟩ := h
  exact ⟨xs, h1, LRel.pure (by simpa only [V.pure] using hp) h2⟩
theorem LRel.pure : ∀ {v : List V} {x : List Value}, pureL v = true → LRel S w ρ v x → LRel S w ρ' v x
 | [], x, _, h => by simp only [LRel] at h ⊢; exact h
 | v :: r, x, hp, h => by
  simp only [LRel] at h ⊢
  obtain ⟨y, ys, h1, h2, h3⟩ := h
  have hp' := sJ hp
  exact ⟨y, ys, h1, VRel.pure hp'.1 h2, LRel.pure hp'.2 h3⟩
end
theorem CRel.pure {sz : Nat} : ∀ {v : List V} {x : List Value}, pureL v = true → CRel S w ρ sz v x → CRel S w ρ' sz v x
 | [], x, _, h => by simp only [CRel] at h ⊢; exact h
 | v :: r, x, hp, h => by
  simp only [CRel] at h ⊢
  obtain ⟨y, ys, h1, h2, h3, h4⟩ := h
  have hp' := sJ hp
  exact ⟨y, ys, h1, h2, VRel.pure hp'.1 h3, CRel.pure hp'.2 h4⟩
end
end Go.Proofs.YthnohcipianijaaGreatDoor
namespace Go.Proofs.YthnohcipianijaaGreatDoor
open Go.RowKit
theorem uB (l : List UInt8) (a b : Nat) : (ByteArray.mk l.toArray).extract a b = ⟨((l.drop a).take (b - a)).toArray⟩ := Lx.ss l a b
def Agree (S : Nat → Prop) (w w' : World) : Prop := ∀ b, S b → w'.heap[b]? = w.heap[b]?
abbrev fA (a : Act) : Nat → Option Value := fun i => a.tmps[i]?
def Opd (S : Nat → Prop) (w : World) (ρ : Nat → Option Value) (a : Act) (x : Operand) (v : V) : Prop := ∃ y, aF (fA a) x = some y ∧ VRel S w ρ v y
def Yld (P : Program) (S : Nat → Prop) (w : World) (ρ : Nat → Option Value) (a : Act) (ty : TypeId) (op : Op) (v : V) : Prop := ∃ x, VRel S w ρ v x ∧ ∀ w', Agree S w w' → Runs P a ty op w' (.value x) w'
section
variable {P : Program} {S : Nat → Prop} {w : World} {ρ : Nat → Option Value} {a : Act} {n : Nat} {ty : TypeId}
theorem ET {x : Operand} {v : V} (fr : Fr a n (fA a)) (hx : Opd S w ρ a x v) : Yld P S w ρ a ty (.move x) v := by
 obtain ⟨y, h1, h2⟩ := hx; exact ⟨y, h2, fun w' _ => Dt fr h1⟩
theorem Ca {x : Operand} {v : V} (fr : Fr a n (fA a)) (hx : Opd S w ρ a x v) : Yld P S w ρ a ty (.assign x) v := by
 obtain ⟨y, h1, h2⟩ := hx; exact ⟨y, h2, fun w' _ => zJ fr h1⟩
theorem DN {c x y : Operand} {v : V} (fr : Fr a n (fA a)) (hc : Opd S w ρ a c (.bool true)) (hx : Opd S w ρ a x v) : Yld P S w ρ a ty (.pick c x y) v := by
 obtain ⟨b, h1, h2⟩ := hc; obtain ⟨z, h3, h4⟩ := hx
 simp only [VRel] at h2; subst h2
 exact ⟨z, h4, fun w' _ => Cb fr h1 h3⟩
theorem DP {c x y : Operand} {v : V} (fr : Fr a n (fA a)) (hc : Opd S w ρ a c (.bool false)) (hx : Opd S w ρ a y v) : Yld P S w ρ a ty (.pick c x y) v := by
 obtain ⟨b, h1, h2⟩ := hc; obtain ⟨z, h3, h4⟩ := hx
 simp only [VRel] at h2; subst h2
 exact ⟨z, h4, fun w' _ => Bn fr h1 h3⟩
theorem Fa {x : Operand} {id o : Nat} (fr : Fr a n (fA a)) (hx : Opd S w ρ a x (.ptr id o)) : Yld P S w ρ a ty (.nilCheck x) (.ptr id o) := by
 obtain ⟨y, h1, h2⟩ := hx
 refine ⟨y, h2, fun w' _ => ?_⟩
 simp only [VRel] at h2; obtain ⟨b, _, rfl⟩ := h2
 exact wn fr h1
theorem EQ {x : Operand} {id sz i o : Nat} (fr : Fr a n (fA a)) (hx : Opd S w ρ a x (.el id sz i o)) : Yld P S w ρ a ty (.nilCheck x) (.el id sz i o) := by
 obtain ⟨y, h1, h2⟩ := hx
 refine ⟨y, h2, fun w' _ => ?_⟩
 simp only [VRel] at h2; obtain ⟨b, _, _, _, rfl⟩ := h2
 exact wn fr h1
theorem Fg {x : Operand} {cs : List V} {o : Nat} (fr : Fr a n (fA a)) (hx : Opd S w ρ a x (.box cs o)) : Yld P S w ρ a ty (.nilCheck x) (.box cs o) := by
 obtain ⟨y, h1, h2⟩ := hx
 refine ⟨y, h2, fun w' _ => ?_⟩
 simp only [VRel] at h2; obtain ⟨b, off, xs, rfl, _⟩ := h2
 exact wn fr h1
theorem FY {x : Operand} {i : Nat} {vs : List V} {v : V} (fr : Fr a n (fA a)) (hx : Opd S w ρ a x (.tup vs)) (hi : vs[i]? = some v) : Yld P S w ρ a ty (.extract x i) v := by
 obtain ⟨y, h1, h2⟩ := hx
 simp only [VRel] at h2; obtain ⟨xs, rfl, h3⟩ := h2
 obtain ⟨z, h4, h5⟩ := h3.get hi
 exact ⟨z, h5, fun w' _ => yA fr h1 (by simpa using h4)⟩
theorem GA {t : TypeId} {x : Operand} {b : Bool} (fr : Fr a n (fA a)) (hx : Opd S w ρ a x (.bool b)) : Yld P S w ρ a ty (.unOp .not t x) (.bool !b) := by
 obtain ⟨y, h1, h2⟩ := hx
 simp only [VRel] at h2; subst h2
 exact ⟨_, by simp only [VRel], fun w' _ => Fs fr h1 rfl⟩
theorem GB {t : TypeId} {x : Operand} {i id o k : Nat} (fr : Fr a n (fA a)) (hx : Opd S w ρ a x (.ptr id o)) (hk : lA P t i = some k) : Yld P S w ρ a ty (.fieldAddr t x i) (.ptr id (o + k)) := by
 obtain ⟨y, h1, h2⟩ := hx
 simp only [VRel] at h2; obtain ⟨b, h3, rfl⟩ := h2
 exact ⟨_, by simp only [VRel]; exact ⟨b, h3, rfl⟩, fun w' _ => yL fr h1 hk rfl⟩
theorem Gz {t : TypeId} {x : Operand} {i id sz j o k : Nat} (fr : Fr a n (fA a)) (hx : Opd S w ρ a x (.el id sz j o)) (hk : lA P t i = some k) : Yld P S w ρ a ty (.fieldAddr t x i) (.el id sz j (o + k)) := by
 obtain ⟨y, h1, h2⟩ := hx
 simp only [VRel] at h2; obtain ⟨b, m, c, h3, rfl⟩ := h2
 exact ⟨_, by simp only [VRel]; exact ⟨b, m, c, h3, rfl⟩, fun w' _ => yL fr h1 hk (Nat.add_assoc _ _ _)⟩
theorem Gw {t : TypeId} {x : Operand} {i : Nat} {cs : List V} {o k : Nat} (fr : Fr a n (fA a)) (hx : Opd S w ρ a x (.box cs o)) (hk : lA P t i = some k) : Yld P S w ρ a ty (.fieldAddr t x i) (.box cs (o + k)) := by
 obtain ⟨y, h1, h2⟩ := hx
 simp only [VRel] at h2; obtain ⟨b, off, xs, rfl, h3⟩ := h2
 exact ⟨_, by simp only [VRel]; exact ⟨b, off, xs, rfl, h3⟩, fun w' _ => yL fr h1 hk (Nat.add_assoc _ _ _)⟩
theorem GU {t : TypeId} {x : Operand} {i k : Nat} {cs : List V} {v : V} (fr : Fr a n (fA a)) (hx : Opd S w ρ a x (.agg cs)) (hk : nn P t i = some k) (hv : cs[k]? = some v) : Yld P S w ρ a ty (.field t x i) v := by
 obtain ⟨y, h1, h2⟩ := hx
 simp only [VRel] at h2; obtain ⟨xs, rfl, h3⟩ := h2
 obtain ⟨z, h4, h5⟩ := h3.get hv
 exact ⟨z, h5, fun w' _ => FV fr h1 hk h4⟩
def nh (P : Program) (t : TypeId) (i : Nat) : Option (Nat × Nat) := match P.underlying t with
 |some (.struct fs) => match fs[i]? with
  |some fl => match kR P fl.type with
   | some m => some (fl.offset, m)
   | none => none
  | none => none
 | _ => none
theorem EG {t : TypeId} {f : Nat → Option Value} {x : Operand} {i k m : Nat} {cs : List Value} (h : Fr a n f) (hx : aF f x = some (.agg cs.toArray)) (ho : nh P t i = some (k, m)) : Runs P a ty (.field t x i) w (.value (.agg ((cs.drop k).take m).toArray)) w := by
 refine wA h hx fun w => ?_
 unfold nh at ho
 split at ho
 ·rename_i fs hu
  split at ho
  ·rename_i fl hfl
   split at ho
   ·rename_i m' hs
    simp only [Option.some.injEq, Prod.mk.injEq] at ho
    obtain ⟨rfl, rfl⟩ := ho
    have hA : (isAgg fl.type).run P w = .ok true w ∧ (sizeOf fl.type).run P w = .ok m' w := by
     unfold kR at hs
     cases hu : P.underlying fl.type with
     | none => rw [hu] at hs; cases hs
     | some d =>
      rw [hu] at hs
      cases d <;> first | cases hs | (obtain ⟨i, hi, hs⟩ := Option.map_eq_some_iff.1 hs; simp [isAgg, run_underlying hu, sizeOf, typeInfo, hi, hs])
    simp [Instr.field, run_underlying hu, hfl, part, hA.1, hA.2, asAgg]
   ·cases ho
  ·cases ho
 ·cases ho
theorem FU {t : TypeId} {x : Operand} {i k m : Nat} {cs : List V} (fr : Fr a n (fA a)) (hx : Opd S w ρ a x (.agg cs)) (hk : nh P t i = some (k, m)) : Yld P S w ρ a ty (.field t x i) (.agg ((cs.drop k).take m)) := by
 obtain ⟨y, h1, h2⟩ := hx
 simp only [VRel] at h2; obtain ⟨xs, rfl, h3⟩ := h2
 exact ⟨_, by simp only [VRel]; exact ⟨_, rfl, (h3.drop k).take m⟩, fun w' _ => EG fr h1 hk⟩
section
variable {t u : TypeId} {x y : Operand} {k : IntKind} {m l : Int}
theorem aX (h : Opd S w ρ a x (.int k m)) : aF (fA a) x = some (.int k m) := by
 obtain ⟨y, h1, h2⟩ := h; simp only [VRel] at h2; subst h2; exact h1
theorem lM {b : Bool} (h : Opd S w ρ a x (.bool b)) : aF (fA a) x = some (.bool b) := by
 obtain ⟨y, h1, h2⟩ := h; simp only [VRel] at h2; subst h2; exact h1
theorem gz {s : List UInt8} (h : Opd S w ρ a x (.str s)) : aF (fA a) x = some (.string ⟨s.toArray⟩) := by
 obtain ⟨y, h1, h2⟩ := h; simp only [VRel] at h2; subst h2; exact h1
variable (fr : Fr a n (fA a)) (hx : Opd S w ρ a x (.int k m)) (hy : Opd S w ρ a y (.int k l))
include fr hx hy
theorem Gg : Yld P S w ρ a ty (.binOp .eql t x y u) (.bool (m == l)) := ⟨_, by simp only [VRel], fun w' _ => Fy fr (aX hx) (aX hy) rfl⟩
theorem Gp : Yld P S w ρ a ty (.binOp .neq t x y u) (.bool (m != l)) := ⟨_, by simp only [VRel], fun w' _ => Em fr (aX hx) (aX hy) rfl⟩
theorem FZ : Yld P S w ρ a ty (.binOp .lss t x y u) (.bool (decide (m < l))) := ⟨_, by simp only [VRel], fun w' _ => Ea fr (aX hx) (aX hy) rfl⟩
theorem Gu : Yld P S w ρ a ty (.binOp .leq t x y u) (.bool (decide (m ≤ l))) := ⟨_, by simp only [VRel], fun w' _ => Fw fr (aX hx) (aX hy) rfl⟩
theorem Gv : Yld P S w ρ a ty (.binOp .gtr t x y u) (.bool (decide (l < m))) := ⟨_, by simp only [VRel], fun w' _ => DZ fr (aX hx) (aX hy) rfl⟩
theorem FP : Yld P S w ρ a ty (.binOp .geq t x y u) (.bool (decide (l ≤ m))) := ⟨_, by simp only [VRel], fun w' _ => Eg fr (aX hx) (aX hy) rfl⟩
end
section
variable {t u : TypeId} {x y : Operand} {m l : Int} (fr : Fr a n (fA a)) (hx : Opd S w ρ a x (.int .i64 m)) (hy : Opd S w ρ a y (.int .i64 l))
include fr hx hy
theorem DW : Yld P S w ρ a ty (.call { callee := .builtin .max, args := #[x, y], argTypes := #[t, u] }) (.int .i64 (max m l)) := ⟨_, by simp only [VRel], fun w' _ => DG fr (aX hx) (aX hy)⟩
end
theorem Gl {t u : TypeId} {x y : Operand} {m l : Bool} (fr : Fr a n (fA a)) (ht : P.underlying t = some .bool) (hx : Opd S w ρ a x (.bool m)) (hy : Opd S w ρ a y (.bool l)) : Yld P S w ρ a ty (.binOp .eql t x y u) (.bool (m == l)) :=
 ⟨_, by simp only [VRel], fun w' _ => Fp ht fr (lM hx) (lM hy) rfl⟩
theorem EK {f : Nat → Option Value} {t u : TypeId} {x y : Operand} {m l c : Bool} (ht : P.underlying t = some .bool) (h : Fr a n f) (hx : aF f x = some (.bool m)) (hy : aF f y = some (.bool l)) (hc : (m != l) = c) : Runs P a ty (.binOp .neq t x y u) w (.value (.bool c)) w := fun _ _ _ _ => by subst hc; simp only [execOp, h.eval hx, h.eval hy]; simp [go_sem, eqGuard, ht, bne]
theorem Gs {t u : TypeId} {x y : Operand} {m l : Bool} (fr : Fr a n (fA a)) (ht : P.underlying t = some .bool) (hx : Opd S w ρ a x (.bool m)) (hy : Opd S w ρ a y (.bool l)) : Yld P S w ρ a ty (.binOp .neq t x y u) (.bool (m != l)) :=
 ⟨_, by simp only [VRel], fun w' _ => EK ht fr (lM hx) (lM hy) rfl⟩
section
variable {t u : TypeId} {x y : Operand} {m l : List UInt8} (fr : Fr a n (fA a)) (hx : Opd S w ρ a x (.str m)) (hy : Opd S w ρ a y (.str l))
include fr hx hy
theorem Gb : Yld P S w ρ a ty (.binOp .eql t x y u) (.bool (m == l)) := ⟨_, by simp only [VRel], fun w' _ => FJ fr (gz hx) (gz hy) rfl⟩
theorem Gx : Yld P S w ρ a ty (.binOp .neq t x y u) (.bool (m != l)) := ⟨_, by simp only [VRel], fun w' _ => Fz fr (gz hx) (gz hy) rfl⟩
end
theorem zZ {t : TypeId} {x : Operand} {m : List UInt8} (fr : Fr a n (fA a)) (ht : P.underlying t = some .string) (hx : Opd S w ρ a x (.str m)) : Yld P S w ρ a ty (.call { callee := .builtin .len, args := #[x], argTypes := #[t] }) (.int .i64 m.length) :=
 ⟨_, by simp only [VRel], fun w' _ => CS fr ht (gz hx)⟩
theorem Fv {t e : TypeId} {x : Operand} (fr : Fr a n (fA a)) (ht : P.underlying t = some (.slice e)) (hx : Opd S w ρ a x .nils) : Yld P S w ρ a ty (.call { callee := .builtin .len, args := #[x], argTypes := #[t] }) (.int .i64 0) := by
 obtain ⟨y, h1, h2⟩ := hx
 simp only [VRel] at h2; subst h2
 exact ⟨.int .i64 (0 : Nat), by simp only [VRel]; rfl, fun w' _ => vi fr ht h1⟩
theorem Ae {t e : TypeId} {x : Operand} {sz : Nat} {els : List V} (fr : Fr a n (fA a)) (ht : P.underlying t = some (.slice e)) (hx : Opd S w ρ a x (.row sz els)) : Yld P S w ρ a ty (.call { callee := .builtin .len, args := #[x], argTypes := #[t] }) (.int .i64 els.length) := by
 obtain ⟨y, h1, h2⟩ := hx
 simp only [VRel] at h2; obtain ⟨A, c, xs, rfl, _⟩ := h2
 exact ⟨_, by simp only [VRel], fun w' _ => vi fr ht h1⟩
theorem ea {base e sz k : Nat} {v : Value} {xs : List Value} (h : w.ownsRow base e sz v k xs) : ∃ A c, v = .slice A k c ∧ k ≤ c ∧ c ≤ maxLen := by
 rcases h.2 with ⟨rfl, rfl⟩ | ⟨g, cap, cur, rfl, _, _, h4, h5, _⟩
 ·exact ⟨none, 0, rfl, Nat.le_refl _, by decide⟩
 ·exact ⟨_, cap, rfl, h4, h5⟩
theorem Ay {h : Nat → Ob} {t e e' : TypeId} {x : Operand} {id sz : Nat} {els : List V} (hr : HRel S w ρ h) (ho : h id = .row e' sz els) (fr : Fr a n (fA a)) (ht : P.underlying t = some (.slice e)) (hx : Opd S w ρ a x (.sl id)) : Yld P S w ρ a ty (.call { callee := .builtin .len, args := #[x], argTypes := #[t] }) (.int .i64 els.length) := by
 obtain ⟨y, h1, h2⟩ := hx
 simp only [VRel] at h2
 have h3 := hr.ob id
 rw [ho] at h3
 obtain ⟨v, xs, h4, h5, h6⟩ := h3
 rw [h2.1] at h4
 cases h4
 obtain ⟨A, c, rfl, _⟩ := ea h5
 exact ⟨_, by simp only [VRel], fun w' _ => vi fr ht h1⟩
theorem p_idxR {t e : TypeId} {x y : Operand} {sz i : Nat} {els : List V} {v : V} (fr : Fr a n (fA a)) (ht : P.underlying t = some (.slice e)) (hz : ew P e = some sz) (hx : Opd S w ρ a x (.row sz els)) (hy : Opd S w ρ a y (.int .i64 (i : Int))) (hi : els[i]? = some v) :
  Yld P S w ρ a ty (.indexAddr t x y) (.box v.cells 0) := by
 obtain ⟨y', h1, h2⟩ := hx
 simp only [VRel] at h2; obtain ⟨A, c, xs, rfl, h3, h4, h5, h6⟩ := h2
 have hlt : i < els.length := by
  rcases Nat.lt_or_ge i els.length with h | h
  ·exact h
  ·rw [List.getElem?_eq_none h] at hi; cases hi
 obtain ⟨b, off, rfl, hS, hb, hc⟩ := h6.2 (by omega)
 obtain ⟨z, g1, g2, g3⟩ := h5.get hi
 have hcell : ∀ j, j < sz → w.cell? ⟨b, off + i * sz + j, none⟩ = z.cells.toList[j]? := fun j hj => by
  rw [← g3 j hj, Nat.add_assoc]
  refine hc _ ?_
  have : (i + 1) * sz ≤ els.length * sz := Nat.mul_le_mul_right _ hlt
  rw [Nat.add_mul, Nat.one_mul] at this
  omega
 refine ⟨_, ?_, fun w' _ => vD fr ht hz h1 (aX hy) rfl hlt rfl⟩
 simp only [VRel]
 refine ⟨b, off + i * sz, _, by simp, hS, hb, g1.cells, fun j hj => ?_⟩
 exact hcell j (by simp at hj; omega)
theorem p_idxO {h : Nat → Ob} {t e e' : TypeId} {x y : Operand} {id sz i : Nat} {els : List V} (hr : HRel S w ρ h) (ho : h id = .row e' sz els) (fr : Fr a n (fA a)) (ht : P.underlying t = some (.slice e)) (hz : ew P e = some sz) (hx : Opd S w ρ a x (.sl id)) (hy : Opd S w ρ a y (.int .i64 (i : Int))) (hi : i < els.length) :
  Yld P S w ρ a ty (.indexAddr t x y) (.el id sz i 0) := by
 obtain ⟨y', h1, h2⟩ := hx
 simp only [VRel] at h2
 have h3 := hr.ob id
 rw [ho] at h3
 obtain ⟨v, xs, h4, h5, h6⟩ := h3
 rw [h2.1] at h4
 cases h4
 obtain ⟨g, cap, rfl, _⟩ := h5.form (by omega)
 exact ⟨_, by simp only [VRel]; exact ⟨g, _, _, h2.1, rfl⟩, fun w' _ => vD fr ht hz h1 (aX hy) rfl hi (by simp)⟩
theorem Dj {f : Nat → Option Value} {t : TypeId} {x y : Operand} {l : List UInt8} {i : Nat} {c : UInt8} (h : Fr a n f) (ht : P.underlying t = some .string) (hx : aF f x = some (.string ⟨l.toArray⟩)) (hy : aF f y = some (.int .i64 (i : Int))) (hi : l[i]? = some c) : Runs P a ty (.index t x y) w (.value (.int .u8 c.toNat)) w := fun _ _ _ _ => by
 simp only [execOp, h.eval hx, h.eval hy]
 have hb : (ByteArray.mk l.toArray)[i]? = some c := by
  obtain ⟨hlt, hc⟩ := List.getElem?_eq_some_iff.1 hi
  have : i < (ByteArray.mk l.toArray).size := by simpa [ByteArray.size] using hlt
  rw [getElem?_pos (ByteArray.mk l.toArray) i this]
  simpa [ByteArray.getElem_eq_getElem_data] using hc
 simp [Instr.index, asIntOf, run_underlying ht, hb]
theorem Fb {t : TypeId} {x y : Operand} {l : List UInt8} {i : Nat} {c : UInt8} (fr : Fr a n (fA a)) (ht : P.underlying t = some .string) (hx : Opd S w ρ a x (.str l)) (hy : Opd S w ρ a y (.int .i64 (i : Int))) (hi : l[i]? = some c) : Yld P S w ρ a ty (.index t x y) (.int .u8 c.toNat) :=
 ⟨_, by simp only [VRel], fun w' _ => Dj fr ht (gz hx) (aX hy) hi⟩
theorem EN {f : Nat → Option Value} {t : TypeId} {x : Operand} {lo hi : Option Operand} {l : List UInt8} {i j : Nat} (h : Fr a n f) (ht : P.underlying t = some .string) (hx : aF f x = some (.string ⟨l.toArray⟩))
  (hlo : (lo = none ∧ i = 0) ∨ ∃ y, lo = some y ∧ aF f y = some (.int .i64 (i : Int))) (hhi : (hi = none ∧ j = l.length) ∨ ∃ y, hi = some y ∧ aF f y = some (.int .i64 (j : Int))) (hij : i ≤ j) (hj : j ≤ l.length) :
  Runs P a ty (.slice t x lo hi none) w (.value (.string ⟨((l.drop i).take (j - i)).toArray⟩)) w := fun _ _ _ _ => by
 have hs : (ByteArray.mk l.toArray).size = l.length := by simp [ByteArray.size]
 rw [← uB]
 rcases hlo with ⟨rfl, rfl⟩ | ⟨y, rfl, hy⟩ <;> rcases hhi with ⟨rfl, rfl⟩ | ⟨z, rfl, hz⟩
 ·simp only [execOp, h.eval hx, Option.map_none]
  simp [Instr.sliceAt, Instr.slice, run_underlying ht, Instr.sliceBounds, hs]
  rw [uB]; simp
 ·simp only [execOp, h.eval hx, h.eval hz, Option.map_none, Option.map_some]
  simp [Instr.sliceAt, Instr.slice, run_underlying ht, Instr.sliceBounds, hs, run_sliceBound _ .i64 (j : Int) l.length _ (by omega) (by omega)]
 ·simp only [execOp, h.eval hx, h.eval hy, Option.map_none, Option.map_some]
  simp [Instr.sliceAt, Instr.slice, run_underlying ht, Instr.sliceBounds, hs, run_sliceBound _ .i64 (i : Int) l.length _ (by omega) (by omega)]
 ·simp only [execOp, h.eval hx, h.eval hy, h.eval hz, Option.map_some]
  simp [Instr.sliceAt, Instr.slice, run_underlying ht, Instr.sliceBounds, hs, run_sliceBound _ .i64 (j : Int) l.length _ (by omega) (by omega), run_sliceBound _ .i64 (i : Int) j _ (by omega) (by omega)]
theorem CA {t : TypeId} {x : Operand} {lo hi : Option Operand} {l : List UInt8} {i j : Nat} (fr : Fr a n (fA a)) (ht : P.underlying t = some .string) (hx : Opd S w ρ a x (.str l))
  (hlo : (lo = none ∧ i = 0) ∨ ∃ y, lo = some y ∧ Opd S w ρ a y (.int .i64 (i : Int))) (hhi : (hi = none ∧ j = l.length) ∨ ∃ y, hi = some y ∧ Opd S w ρ a y (.int .i64 (j : Int))) (hij : i ≤ j) (hj : j ≤ l.length) :
  Yld P S w ρ a ty (.slice t x lo hi none) (.str ((l.drop i).take (j - i))) :=
 ⟨_, by simp only [VRel], fun w' _ => EN fr ht (gz hx) (hlo.imp id fun ⟨y, e, h⟩ => ⟨y, e, aX h⟩) (hhi.imp id fun ⟨y, e, h⟩ => ⟨y, e, aX h⟩) hij hj⟩
theorem zS {f : Nat → Option Value} {t e : TypeId} {x : Operand} {lo hi : Option Operand} {A : Option Addr} {m c sz i j : Nat} (h : Fr a n f) (ht : P.underlying t = some (.slice e)) (hz : ew P e = some sz) (hx : aF f x = some (.slice A m c))
  (hlo : (lo = none ∧ i = 0) ∨ ∃ y, lo = some y ∧ aF f y = some (.int .i64 (i : Int))) (hhi : (hi = none ∧ j = m) ∨ ∃ y, hi = some y ∧ aF f y = some (.int .i64 (j : Int))) (hij : i ≤ j) (hj : j ≤ m) (hm : m ≤ c) :
  Runs P a ty (.slice t x lo hi none) w (.value (.slice (if c = i then A else A.map (·.add (i * sz))) (j - i) (c - i))) w := fun _ _ _ _ => by
 obtain ⟨inf, hi1, hs⟩ := Option.map_eq_some_iff.1 (show (P.info? e).map (·.size) = some sz from hz)
 have hso : (sizeOf e).run P w = .ok sz w := by simp [sizeOf, typeInfo, hi1, hs]
 rcases hlo with ⟨rfl, rfl⟩ | ⟨y, rfl, hy⟩ <;> rcases hhi with ⟨rfl, rfl⟩ | ⟨z, rfl, hz'⟩
 ·simp only [execOp, h.eval hx, Option.map_none]
  simp [Instr.sliceAt, Instr.slice, run_underlying ht, Instr.sliceBounds, hso]
 ·simp only [execOp, h.eval hx, h.eval hz', Option.map_none, Option.map_some]
  simp [Instr.sliceAt, Instr.slice, run_underlying ht, Instr.sliceBounds, hso, run_sliceBound _ .i64 (j : Int) c _ (by omega) (by omega)]
 ·simp only [execOp, h.eval hx, h.eval hy, Option.map_none, Option.map_some]
  simp [Instr.sliceAt, Instr.slice, run_underlying ht, Instr.sliceBounds, hso, run_sliceBound _ .i64 (i : Int) j _ (by omega) (by omega)]
 ·simp only [execOp, h.eval hx, h.eval hy, h.eval hz', Option.map_some]
  simp [Instr.sliceAt, Instr.slice, run_underlying ht, Instr.sliceBounds, hso, run_sliceBound _ .i64 (j : Int) c _ (by omega) (by omega), run_sliceBound _ .i64 (i : Int) j _ (by omega) (by omega)]
theorem zK {sz m c i j : Nat} {A : Option Addr} {xs : List Value} (hr : RowIn S w sz A m xs) (hij : i ≤ j) (hj : j ≤ m) (hm : m ≤ c) : RowIn S w sz (if c = i then A else A.map (·.add (i * sz))) (j - i) ((xs.drop (i * sz)).take ((j - i) * sz)) := by
 have h1 : (j - i) * sz + i * sz = j * sz := by rw [← Nat.add_mul]; congr 1; omega
 have h2 : j * sz ≤ m * sz := Nat.mul_le_mul_right _ hj
 refine ⟨by simp [hr.1]; omega, fun hn => ?_⟩
 obtain ⟨b, off, rfl, hS, hb, hc⟩ := hr.2 (by omega)
 rw [if_neg (by omega)]
 refine ⟨b, off + i * sz, by simp [no], hS, hb, fun k hk => ?_⟩
 rw [Nat.add_assoc, hc _ (by omega), List.getElem?_take, if_pos hk, List.getElem?_drop]
theorem CI {t e : TypeId} {x : Operand} {lo hi : Option Operand} {sz i j : Nat} {els : List V} (fr : Fr a n (fA a)) (ht : P.underlying t = some (.slice e)) (hz : ew P e = some sz) (hx : Opd S w ρ a x (.row sz els))
  (hlo : (lo = none ∧ i = 0) ∨ ∃ y, lo = some y ∧ Opd S w ρ a y (.int .i64 (i : Int))) (hhi : (hi = none ∧ j = els.length) ∨ ∃ y, hi = some y ∧ Opd S w ρ a y (.int .i64 (j : Int))) (hij : i ≤ j) (hj : j ≤ els.length) :
  Yld P S w ρ a ty (.slice t x lo hi none) (.row sz ((els.drop i).take (j - i))) := by
 obtain ⟨y, h1, h2⟩ := hx
 simp only [VRel] at h2; obtain ⟨A, c, xs, rfl, h3, h4, h5, h6⟩ := h2
 refine ⟨_, ?_, fun w' _ => zS fr ht hz h1 (hlo.imp id fun ⟨y, e, h⟩ => ⟨y, e, aX h⟩) (hhi.imp id fun ⟨y, e, h⟩ => ⟨y, e, aX h⟩) hij hj h3⟩
 simp only [VRel]
 have e : ((els.drop i).take (j - i)).length = j - i := by simp; omega
 rw [e]
 exact ⟨_, _, _, rfl, by omega, by omega, (h5.drop i).take (j - i), zK h6 hij hj h3⟩
theorem Df {t : TypeId} {x : Operand} {cs : List V} {o : Nat} {v : V} (fr : Fr a n (fA a)) (ht : du P t = true) (hx : Opd S w ρ a x (.box cs o)) (hv : cs[o]? = some v) : Yld P S w ρ a ty (.load t x) v := by
 obtain ⟨y, h1, h2⟩ := hx
 simp only [VRel] at h2; obtain ⟨b, off, xs, rfl, hS, hb, h3, h4⟩ := h2
 obtain ⟨z, h5, h6⟩ := h3.get hv
 have hlt : o < xs.length := by
  rcases Nat.lt_or_ge o xs.length with h | h
  ·exact h
  ·rw [List.getElem?_eq_none h] at h5; cases h5
 exact ⟨z, h6.up up0, fun w' hA => tM fr h1 ht ((World.cell?_of_block (a := ⟨b, off + o, none⟩) (hA b hS)).trans ((h4 o hlt).trans h5))⟩
theorem BT {t : TypeId} {x : Operand} {cs : List V} {o m : Nat} (fr : Fr a n (fA a)) (ht : kR P t = some m) (hx : Opd S w ρ a x (.box cs o)) (hl : o + m ≤ cs.length) : Yld P S w ρ a ty (.load t x) (.agg ((cs.drop o).take m)) := by
 obtain ⟨y, h1, h2⟩ := hx
 simp only [VRel] at h2; obtain ⟨b, off, xs, rfl, hS, hb, h3, h4⟩ := h2
 have hlen := h3.length
 refine ⟨.agg ((xs.drop o).take m).toArray, by simp only [VRel]; exact ⟨_, rfl, ((h3.drop o).take m).up up0⟩, fun w' hA => sd fr h1 ht (by simp; omega) fun j hj => ?_⟩
 rw [World.cell?_of_block (a := ⟨b, off + o + j, none⟩) (hA b hS), Nat.add_assoc, h4 _ (by omega), List.getElem?_take, if_pos hj, List.getElem?_drop]
def nN (cs : List V) (o : Nat) (ps : List V) : List V := cs.take o ++ ps ++ cs.drop (o + ps.length)
def nS (place : Nat → Option (Nat × Nat)) : List V → List (Nat × V) → Option (List V)
 | cs, [] => some cs
 |cs, (i, v) :: r => match place i with
  |some (o, sz) => match Nat.beq v.cells.length sz && Nat.ble (o + sz) cs.length with
   | true => nS place (nN cs o v.cells) r
   | false => none
  | none => none
def PRel (S : Nat → Prop) (w : World) (ρ : Nat → Option Value) : List (Nat × V) → List (Nat × Value) → Prop
 | [], ys => ys = []
 | (i, v) :: r, ys => ∃ x zs, ys = (i, x) :: zs ∧ VRel S w ρ v x ∧ PRel S w ρ r zs
theorem tA {place pl : Nat → Option (Nat × Nat)} (hpl : ∀ i p, place i = some p → pl i = some p) : ∀ {vs : List (Nat × V)} {ys : List (Nat × Value)} {cs cs' : List V} {xs : List Value}, PRel S w ρ vs ys → LRel S w ρ cs xs → nS place cs vs = some cs' → ∃ xs', Instr.fill pl xs.toArray ys = some xs'.toArray ∧ LRel S w ρ cs' xs'
 | [], ys, cs, cs', xs, hp, hl, hf => by
  simp only [PRel] at hp; subst hp
  simp only [nS, Option.some.injEq] at hf; subst hf
  exact ⟨xs, rfl, hl⟩
 | (i, v) :: r, ys, cs, cs', xs, hp, hl, hf => by
  simp only [PRel] at hp
  obtain ⟨x, zs, rfl, hx, hr⟩ := hp
  simp only [nS] at hf
  split at hf
  ·rename_i o sz hpi
   split at hf
   ·rename_i hc
    simp only [Bool.and_eq_true, Nat.beq_eq, Nat.ble_eq] at hc
    have hcl := hx.cells.length
    simp only [Array.length_toList] at hcl
    have hlen := hl.length
    have hl' : LRel S w ρ (nN cs o v.cells) (xs.take o ++ x.cells.toList ++ xs.drop (o + x.cells.size)) := by
     unfold nN
     rw [hcl]
     exact ((hl.take o).append hx.cells).append (hl.drop _)
    obtain ⟨xs', h1, h2⟩ := tA hpl hr hl' hf
    refine ⟨xs', ?_, h2⟩
    simp only [Instr.fill, hpl i _ hpi]
    rw [if_neg (by simp; omega), ← h1]
    congr 1
    have hfs := qI o x.cells.toList 0 xs (by simp; omega)
    simp only [Nat.add_zero, Array.length_toList] at hfs
    rw [← hfs, ← Array.foldl_toList, Array.toList_zipIdx]
   ·cases hf
  ·cases hf
def rt (P : Program) (t : TypeId) : Option (List (Nat × Nat)) := match P.underlying t with
 | some (.struct fs) => fs.toList.mapM fun fl => (ew P fl.type).map fun s => (fl.offset, s)
 | _ => none
theorem sH : ∀ {fs : List Field} {ps : List (Nat × Nat)}, (fs.mapM fun fl => (ew P fl.type).map fun s => (fl.offset, s)) = some ps → (fs.mapM (m := Sem) fun fl => do pure (fl.offset, ← sizeOf fl.type)).run P w = .ok ps w
 | [], ps, h => by simp at h; subst h; simp
 | fl :: r, ps, h => by
  simp only [List.mapM_cons] at h
  obtain ⟨p, h1, h⟩ := Option.bind_eq_some_iff.1 h
  obtain ⟨qs, h2, h⟩ := Option.bind_eq_some_iff.1 h
  simp only [Option.pure_def, Option.some.injEq] at h
  subst h
  obtain ⟨s, h3, h4⟩ := Option.map_eq_some_iff.1 h1
  obtain ⟨inf, h5, h6⟩ := Option.map_eq_some_iff.1 (show (P.info? fl.type).map (·.size) = some s from h3)
  have ih := sH h2
  have h7 : (sizeOf fl.type).run P w = .ok s w := by simp [sizeOf, typeInfo, h5, h6]
  subst h4
  simp only [List.mapM_cons]
  simp [h7]
  simp at ih
  simp [ih]
theorem DQ {t : TypeId} {ps : List (Nat × Operand)} {vs : List (Nat × V)} {ys : List (Nat × Value)} {pl : List (Nat × Nat)} {z : List Value} {zv cs : List V} {place : Nat → Option (Nat × Nat)} (fr : Fr a n (fA a)) (hps : dP (fA a) ps = some ys) (hpr : PRel S w ρ vs ys) (hz : lr P t = some z) (hzv : LRel S w ρ zv z)
  (hpl : rt P t = some pl) (hplace : ∀ i p, place i = some p → pl[i]? = some p) (hf : nS place zv vs = some cs) : Yld P S w ρ a ty (.build t ps.toArray) (.agg cs) := by
 obtain ⟨xs, h1, h2⟩ := tA (pl := fun i => pl.toArray[i]?) (fun i p h => by simpa using hplace i p h) hpr hzv hf
 refine ⟨.agg xs.toArray, by simp only [VRel]; exact ⟨xs, rfl, h2⟩, fun w' _ => vx fr hps fun w => ?_⟩
 unfold lr at hz
 obtain ⟨z0, hz1, hz2⟩ := Option.map_eq_some_iff.1 hz
 obtain ⟨inf, hi, hiz⟩ := Option.bind_eq_some_iff.1 hz1
 have ez : z0.cells = z.toArray := by rw [← hz2]
 unfold rt at hpl
 cases hu : P.underlying t with
 | none => rw [hu] at hpl; cases hpl
 | some d =>
  rw [hu] at hpl
  cases d with
  | struct fs =>
   have hm := sH (w := w) hpl
   have hm' : (fs.mapM (m := Sem) fun fl => do pure (fl.offset, ← sizeOf fl.type)).run P w = .ok pl.toArray w := by
    have e : fs.mapM (m := Sem) (fun fl => do pure (fl.offset, ← sizeOf fl.type)) = List.toArray <$> fs.toList.mapM (m := Sem) (fun fl => do pure (fl.offset, ← sizeOf fl.type)) := by
     rw [← List.mapM_toArray]
    rw [e]; simp at hm; simp [hm]
   simp only [Instr.build]
   simp at hm'
   simp [zeroValue, typeInfo, hi, hiz, run_underlying hu, hm', ez]
   simp at h1
   rw [h1]; simp
  | _ => cases hpl
theorem Bv {t : TypeId} {ps : List (Nat × Operand)} {vs : List (Nat × V)} {ys : List (Nat × Value)} {sz len : Nat} {e : TypeId} {z : List Value} {zv cs : List V} (fr : Fr a n (fA a)) (hps : dP (fA a) ps = some ys) (hpr : PRel S w ρ vs ys) (hz : lr P t = some z) (hzv : LRel S w ρ zv z)
  (ht : P.underlying t = some (.array len e)) (he : ew P e = some sz) (hf : nS (fun i => some (i * sz, sz)) zv vs = some cs) : Yld P S w ρ a ty (.build t ps.toArray) (.agg cs) := by
 obtain ⟨xs, h1, h2⟩ := tA (pl := fun i => some (i * sz, sz)) (fun i p h => h) hpr hzv hf
 refine ⟨.agg xs.toArray, by simp only [VRel]; exact ⟨xs, rfl, h2⟩, fun w' _ => vx fr hps fun w => ?_⟩
 unfold lr at hz
 obtain ⟨z0, hz1, hz2⟩ := Option.map_eq_some_iff.1 hz
 obtain ⟨inf, hi, hiz⟩ := Option.bind_eq_some_iff.1 hz1
 have ez : z0.cells = z.toArray := by rw [← hz2]
 obtain ⟨inf', h5, h6⟩ := Option.map_eq_some_iff.1 (show (P.info? e).map (·.size) = some sz from he)
 have h7 : (sizeOf e).run P w = .ok sz w := by simp [sizeOf, typeInfo, h5, h6]
 simp only [Instr.build]
 simp [zeroValue, typeInfo, hi, hiz, run_underlying ht, h7, ez]
 rw [h1]; simp
end
end Go.Proofs.YthnohcipianijaaGreatDoor
namespace Go.Proofs.YthnohcipianijaaGreatDoor
open Go.RowKit
structure ChgP (X : Nat → Prop) (w w' : World) : Prop where
 os : w'.os = w.os
 tape : w'.tape = w.tape
 output : w'.output = w.output
 size : w.heap.size ≤ w'.heap.size
 block : ∀ k, k < w.heap.size → ¬ X k → w'.heap[k]? = w.heap[k]?
theorem ChgP.refl (X : Nat → Prop) (w : World) : ChgP X w w := ⟨rfl, rfl, rfl, Nat.le_refl _, fun _ _ _ => rfl⟩
theorem ChgP.trans {X Y : Nat → Prop} {w w1 w2 : World} (h : ChgP X w w1) (k : ChgP Y w1 w2) (hY : ∀ b, Y b → X b ∨ w.heap.size ≤ b) : ChgP X w w2 :=
 ⟨k.os.trans h.os, k.tape.trans h.tape, k.output.trans h.output, Nat.le_trans h.size k.size, fun b hb hX => by
  rw [k.block b (Nat.lt_of_lt_of_le hb h.size) (fun hc => by rcases hY b hc with h1 | h1; exact hX h1; omega), h.block b hb hX]⟩
theorem ChgP.mono {X Y : Nat → Prop} {w w1 : World} (h : ChgP X w w1) (hY : ∀ b, X b → Y b) : ChgP Y w w1 := ⟨h.os, h.tape, h.output, h.size, fun b hb hX => h.block b hb (fun hc => hX (hY b hc))⟩
theorem ChgP.of {X : List Nat} {w w1 : World} (h : Chg X w w1) : ChgP (· ∈ X) w w1 := ⟨h.os, h.tape, h.output, h.size, h.block⟩
theorem ChgP.of0 {X : Nat → Prop} {w w1 : World} (h : Chg [] w w1) : ChgP X w w1 := (ChgP.of h).mono (fun b hb => by simp at hb)
def bV (h : Nat → Ob) (id : Nat) (o : Ob) : Nat → Ob := fun i => match Nat.beq i id with | true => o | false => h i
def dl (ρ : Nat → Option Value) (id : Nat) (x : Value) : Nat → Option Value := fun i => match Nat.beq i id with | true => some x | false => ρ i
theorem bj (h : Nat → Ob) (id : Nat) (o : Ob) : bV h id o id = o := by simp [bV]
theorem bP (h : Nat → Ob) {id i : Nat} (o : Ob) (hi : i ≠ id) : bV h id o i = h i := by
 unfold bV; split
 ·rename_i hb; exact absurd (Nat.eq_of_beq_eq_true hb) hi
 ·rfl
theorem aZ (ρ : Nat → Option Value) (id : Nat) (x : Value) : dl ρ id x id = some x := by simp [dl]
theorem lU (ρ : Nat → Option Value) {id i : Nat} (x : Value) (hi : i ≠ id) : dl ρ id x i = ρ i := by
 unfold dl; split
 ·rename_i hb; exact absurd (Nat.eq_of_beq_eq_true hb) hi
 ·rfl
structure Eff (S : Nat → Prop) (w w' : World) (ρ ρ' : Nat → Option Value) (h h' : Nat → Ob) (X : Nat → Prop) : Prop where
 hr : HRel S w' ρ' h'
 up : Up S S w w' ρ ρ'
 chg : ChgP (fun b => ∃ id, X id ∧ own ρ id (h id) b) w w'
 new : ∀ id b, own ρ' id (h' id) b → (∃ j, own ρ j (h j) b) ∨ w.heap.size ≤ b
def Does (P : Program) (S : Nat → Prop) (w : World) (ρ : Nat → Option Value) (h : Nat → Ob) (a : Act) (ty : TypeId) (op : Op) (v : Option V) (h' : Nat → Ob) (X : Nat → Prop) : Prop :=
  ∃ nx w' ρ', Runs P a ty op w nx w' ∧ Eff S w w' ρ ρ' h h' X ∧ match v with
    | some v => ∃ x, nx = .value x ∧ VRel S w' ρ' v x
    | none => nx = .skip
section
variable {P : Program} {S : Nat → Prop} {w w' : World} {ρ ρ' : Nat → Option Value} {h h' : Nat → Ob} {a : Act} {n : Nat} {ty : TypeId}
theorem Eff.refl {X : Nat → Prop} (hr : HRel S w ρ h) : Eff S w w ρ ρ h h X := ⟨hr, Up.refl, ChgP.refl _ _, fun id b hb => .inl ⟨id, hb⟩⟩
theorem vt {X Y : Nat → Prop} (k src : Nat) (hr : HRel S w ρ h) (hc : ChgP X w w') (hρ : ∀ i x, ρ i = some x → ρ' i = some x) (hX : ∀ b, X b → ∃ id, Y id ∧ own ρ id (h id) b)
  (hk : gp S w' ρ' k (h' k)) (hkb : ∀ b, own ρ' k (h' k) b → w.heap.size ≤ b ∨ own ρ src (h src) b) (hsrc : src ≠ k → h' src = .gone)
  (hi : ∀ i, i ≠ k → h' i = .gone ∨ (h' i = h i ∧ (h i = .free → ρ' i = none) ∧ ∀ b, own ρ i (h i) b → ¬ X b)) : Eff S w w' ρ ρ' h h' Y := by
 have hnS : ∀ b, S b → ¬ X b := fun b hb hx => by obtain ⟨id, _, ho⟩ := hX b hx; exact hr.sep id b ho hb
 have up : Up S S w w' ρ ρ' := ⟨fun _ h => h, fun b hb hlt => hc.block b hlt (hnS b hb), hρ⟩
 have back : ∀ i b, i ≠ k → own ρ' i (h' i) b → own ρ i (h i) b := fun i b hik hb => by
  rcases hi i hik with e | ⟨e, _, _⟩
  ·rw [e] at hb; exact hb.elim
  ·rw [e] at hb; exact Ad hρ (hr.ob i) hb
 refine ⟨⟨fun i => ?_, fun i b hb => ?_, fun i j b hbi hbj => ?_, fun b hb => Nat.lt_of_lt_of_le (hr.slt b hb) hc.size⟩, up, hc.mono hX, fun i b hb => ?_⟩
 ·by_cases hik : i = k
  ·subst hik; exact hk
  ·rcases hi i hik with e | ⟨e, hf, hb⟩
   ·rw [e]; trivial
   ·rw [e]; exact (hr.ob i).up up hf (fun b hob => hc.block b (eh (hr.ob i) hob) (hb b hob))
 ·by_cases hik : i = k
  ·subst hik
   rcases hkb b hb with h1 | h1
   ·intro hS; have := hr.slt b hS; omega
   ·exact hr.sep src b h1
  ·exact hr.sep i b (back i b hik hb)
 ·by_cases hik : i = k
  ·by_cases hjk : j = k
   ·rw [hik, hjk]
   ·subst hik
    have h1 := back j b hjk hbj
    rcases hkb b hbi with h2 | h2
    ·have := eh (hr.ob j) h1; omega
    ·have h3 := hr.dis src j b h2 h1
     subst h3
     rw [hsrc hjk] at hbj; exact hbj.elim
  ·by_cases hjk : j = k
   ·subst hjk
    have h1 := back i b hik hbi
    rcases hkb b hbj with h2 | h2
    ·have := eh (hr.ob i) h1; omega
    ·have h3 := hr.dis src i b h2 h1
     subst h3
     rw [hsrc hik] at hbi; exact hbi.elim
   ·exact hr.dis i j b (back i b hik hbi) (back j b hjk hbj)
 ·by_cases hik : i = k
  ·subst hik
   rcases hkb b hb with h1 | h1
   ·exact .inr h1
   ·exact .inl ⟨src, h1⟩
  ·exact .inl ⟨i, back i b hik hb⟩
theorem eff_new {nid : Nat} {x : Value} {o : Ob} (hr : HRel S w ρ h) (hf : h nid = .free) (hc : Chg [] w w') (hk : gp S w' (dl ρ nid x) nid o) (hb : ∀ b, own (dl ρ nid x) nid o b → w.heap.size ≤ b) : Eff S w w' ρ (dl ρ nid x) h (bV h nid o) (fun _ => False) := by
 have hn : ρ nid = none := by have := hr.ob nid; rw [hf] at this; exact this
 refine vt (X := fun _ => False) nid nid hr (ChgP.of0 hc) (fun i y hy => ?_) (fun b hb => hb.elim) (by rw [bj]; exact hk) (fun b hob => by rw [bj] at hob; exact .inl (hb b hob)) (fun h => absurd rfl h)
  (fun i hi => .inr ⟨bP _ _ hi, fun hfi => ?_, fun b _ hx => hx⟩)
 ·have : i ≠ nid := fun e => by subst e; rw [hn] at hy; cases hy
  rw [lU _ _ this]; exact hy
 ·rw [lU _ _ hi]; have := hr.ob i; rw [hfi] at this; exact this
theorem ya {id : Nat} {o : Ob} {X : List Nat} (hr : HRel S w ρ h) (hc : Chg X w w') (hX : ∀ b, b ∈ X → own ρ id (h id) b) (hk : gp S w' ρ id o) (hb : ∀ b, own ρ id o b → own ρ id (h id) b) : Eff S w w' ρ ρ h (bV h id o) (· = id) := by
 refine vt (X := (· ∈ X)) id id hr (ChgP.of hc) (fun i y hy => hy) (fun b hb => ⟨id, rfl, hX b hb⟩) (by rw [bj]; exact hk) (fun b hob => by rw [bj] at hob; exact .inr (hb b hob)) (fun h => absurd rfl h)
  (fun i hi => .inr ⟨bP _ _ hi, fun hfi => ?_, fun b hob hx => hi (hr.dis i id b hob (hX b hx))⟩)
 have := hr.ob i; rw [hfi] at this; exact this
theorem vo {id nid : Nat} {x : Value} {o : Ob} {X : List Nat} (hr : HRel S w ρ h) (hf : h nid = .free) (hid : h id ≠ .free) (hc : Chg X w w') (hX : ∀ b, b ∈ X → own ρ id (h id) b) (hk : gp S w' (dl ρ nid x) nid o) (hb : ∀ b, own (dl ρ nid x) nid o b → own ρ id (h id) b ∨ w.heap.size ≤ b) :
  Eff S w w' ρ (dl ρ nid x) h (bV (bV h id .gone) nid o) (· = id) := by
 have hn : ρ nid = none := by have := hr.ob nid; rw [hf] at this; exact this
 have hne : id ≠ nid := fun e => by subst e; exact hid hf
 refine vt (X := (· ∈ X)) nid id hr (ChgP.of hc) (fun i y hy => ?_) (fun b hb => ⟨id, rfl, hX b hb⟩) (by rw [bj]; exact hk) (fun b hob => by rw [bj] at hob; exact (hb b hob).symm) (fun _ => by rw [bP _ _ hne, bj])
  (fun i hi => ?_)
 ·have : i ≠ nid := fun e => by subst e; rw [hn] at hy; cases hy
  rw [lU _ _ this]; exact hy
 ·rw [bP _ _ hi]
  by_cases hii : i = id
  ·subst hii; exact .inl (bj _ _ _)
  ·refine .inr ⟨bP _ _ hii, fun hfi => ?_, fun b hob hx => hii (hr.dis i id b hob (hX b hx))⟩
   rw [lU _ _ hi]; have := hr.ob i; rw [hfi] at this; exact this
theorem tj {nid : Nat} {x : Value} (hr : HRel S w ρ h) (hf : h nid = .free) (hc : Chg [] w w') : Up S S w w' ρ (dl ρ nid x) := by
 have hn : ρ nid = none := by have := hr.ob nid; rw [hf] at this; exact this
 refine ⟨fun _ h => h, fun b hb hlt => hc.block b hlt (by simp), fun i y hy => ?_⟩
 have : i ≠ nid := fun e => by subst e; rw [hn] at hy; cases hy
 rw [lU _ _ this]; exact hy
theorem ni {id : Nat} {t : TypeId} {cs : List V} (hr : HRel S w ρ h) (ho : h id = .var t cs) : ∃ b xs, ρ id = some (.pointer (some ⟨b, 0, none⟩)) ∧ Blk w b t xs ∧ LRel S w ρ cs xs := by
 have := hr.ob id; rw [ho] at this; exact this
theorem hW {id : Nat} {e : TypeId} {sz : Nat} {els : List V} (hr : HRel S w ρ h) (ho : h id = .row e sz els) : ∃ v xs, ρ id = some v ∧ w.ownsRow 0 e sz v els.length xs ∧ CRel S w ρ sz els xs := by
 have := hr.ob id; rw [ho] at this; exact this
theorem tX {x : Operand} {id o b : Nat} (hx : Opd S w ρ a x (.ptr id o)) (hb : ρ id = some (.pointer (some ⟨b, 0, none⟩))) : aF (fA a) x = some (.pointer (some ⟨b, o, none⟩)) := by
 obtain ⟨y, h1, h2⟩ := hx
 simp only [VRel] at h2
 obtain ⟨b', h3, rfl⟩ := h2
 rw [hb] at h3
 simp only [Option.some.injEq, Value.pointer.injEq, Addr.mk.injEq, and_true] at h3
 subst h3; exact h1
theorem xO {t tb : TypeId} {x : Operand} {id o : Nat} {cs : List V} {v : V} (hr : HRel S w ρ h) (fr : Fr a n (fA a)) (hx : Opd S w ρ a x (.ptr id o)) (ho : h id = .var tb cs) (ht : du P t = true) (hv : cs[o]? = some v) :
  ∃ b y, ρ id = some (.pointer (some ⟨b, 0, none⟩)) ∧ w.cell? ⟨b, o, none⟩ = some y ∧ VRel S w ρ v y ∧ ∀ w', w'.cell? ⟨b, o, none⟩ = some y → Runs P a ty (.load t x) w' (.value y) w' := by
 obtain ⟨b, xs, h1, h2, h3⟩ := ni hr ho
 obtain ⟨y, h4, h5⟩ := h3.get hv
 exact ⟨b, y, h1, by rw [h2.cell, h4], h5, fun w' hc => tM fr (tX hx h1) ht hc⟩
theorem EZ {t tb : TypeId} {x : Operand} {id o : Nat} {cs : List V} {v : V} (hr : HRel S w ρ h) (fr : Fr a n (fA a)) (hx : Opd S w ρ a x (.ptr id o)) (ho : h id = .var tb cs) (ht : du P t = true) (hv : cs[o]? = some v) : Does P S w ρ h a ty (.load t x) (some v) h (fun _ => False) := by
 obtain ⟨b, y, h1, h2, h3, h4⟩ := xO (P := P) (ty := ty) hr fr hx ho ht hv
 exact ⟨_, w, ρ, h4 w h2, Eff.refl hr, y, rfl, h3⟩
theorem vU {t tb : TypeId} {x : Operand} {id o m : Nat} {cs : List V} (hr : HRel S w ρ h) (fr : Fr a n (fA a)) (hx : Opd S w ρ a x (.ptr id o)) (ho : h id = .var tb cs) (ht : kR P t = some m) (hl : o + m ≤ cs.length) :
  ∃ b ys, ρ id = some (.pointer (some ⟨b, 0, none⟩)) ∧ (∀ j, j < m → w.cell? ⟨b, o + j, none⟩ = ys[j]?) ∧ LRel S w ρ ((cs.drop o).take m) ys ∧ ∀ w', (∀ j, j < m → w'.cell? ⟨b, o + j, none⟩ = ys[j]?) → Runs P a ty (.load t x) w' (.value (.agg ys.toArray)) w' := by
 obtain ⟨b, xs, h1, h2, h3⟩ := ni hr ho
 have hlen := h3.length
 refine ⟨b, (xs.drop o).take m, h1, fun j hj => ?_, (h3.drop o).take m, fun w' hc => sd fr (tX hx h1) ht (by simp; omega) hc⟩
 rw [h2.cell, List.getElem?_take, if_pos hj, List.getElem?_drop]
theorem CT {t tb : TypeId} {x : Operand} {id o m : Nat} {cs : List V} (hr : HRel S w ρ h) (fr : Fr a n (fA a)) (hx : Opd S w ρ a x (.ptr id o)) (ho : h id = .var tb cs) (ht : kR P t = some m) (hl : o + m ≤ cs.length) : Does P S w ρ h a ty (.load t x) (some (.agg ((cs.drop o).take m))) h (fun _ => False) := by
 obtain ⟨b, ys, h1, h2, h3, h4⟩ := vU (P := P) (ty := ty) hr fr hx ho ht hl
 exact ⟨_, w, ρ, h4 w h2, Eff.refl hr, _, rfl, by simp only [VRel]; exact ⟨ys, rfl, h3⟩⟩
theorem vK {x : Operand} {id sz i o : Nat} {v : Value} (hx : Opd S w ρ a x (.el id sz i o)) (hb : ρ id = some v) : ∃ b m c, v = .slice (some ⟨b, 0, none⟩) m c ∧ aF (fA a) x = some (.pointer (some ⟨b, i * sz + o, none⟩)) := by
 obtain ⟨y, h1, h2⟩ := hx
 simp only [VRel] at h2
 obtain ⟨b', m, c, h3, rfl⟩ := h2
 rw [hb] at h3
 cases h3
 exact ⟨b', m, c, rfl, h1⟩
theorem pF {base e sz k m c b : Nat} {xs : List Value} (ho : w.ownsRow base e sz (.slice (some ⟨b, 0, none⟩) m c) k xs) {j : Nat} (hj : j < k * sz) : w.cell? ⟨b, j, none⟩ = xs[j]? := by
 rcases ho.2 with ⟨hc, _⟩ | ⟨g, cap, cur, hv, hb, hg, h4, h5, h6, h7⟩
 ·cases hc
 ·injection hv with hv1 _ hv2
  injection hv1 with hv1
  injection hv1 with hv1
  subst hv1
  rw [← h7]
  simp [World.cell?, hg, List.getElem?_take, hj]
theorem vF {t e : TypeId} {x : Operand} {id sz i o : Nat} {els : List V} {v0 v : V} (hr : HRel S w ρ h) (fr : Fr a n (fA a)) (hx : Opd S w ρ a x (.el id sz i o)) (ho : h id = .row e sz els) (ht : du P t = true) (hi : els[i]? = some v0) (hv : v0.cells[o]? = some v) :
  ∃ b u y, ρ id = some u ∧ u.ownBlock = some b ∧ w.cell? ⟨b, i * sz + o, none⟩ = some y ∧ VRel S w ρ v y ∧ ∀ w', w'.cell? ⟨b, i * sz + o, none⟩ = some y → Runs P a ty (.load t x) w' (.value y) w' := by
 obtain ⟨u, xs, h1, h2, h3⟩ := hW hr ho
 obtain ⟨b, m, c, rfl, hx'⟩ := vK hx h1
 obtain ⟨z, g1, g2, g3⟩ := h3.get hi
 obtain ⟨y, h4, h5⟩ := g1.cells.get hv
 have hlt : o < sz := by
  have := (List.getElem?_eq_some_iff.1 h4).1
  simp at this; omega
 have hle : i < els.length := (List.getElem?_eq_some_iff.1 hi).1
 have : (i + 1) * sz ≤ els.length * sz := Nat.mul_le_mul_right _ hle
 rw [Nat.add_mul, Nat.one_mul] at this
 exact ⟨b, _, y, h1, rfl, by rw [pF h2 (by omega), g3 o hlt, h4], h5, fun w' hc => tM fr hx' ht hc⟩
theorem xw {t e : TypeId} {x : Operand} {id sz i o : Nat} {els : List V} {v0 v : V} (hr : HRel S w ρ h) (fr : Fr a n (fA a)) (hx : Opd S w ρ a x (.el id sz i o)) (ho : h id = .row e sz els) (ht : du P t = true) (hi : els[i]? = some v0) (hv : v0.cells[o]? = some v) : Does P S w ρ h a ty (.load t x) (some v) h (fun _ => False) := by
 obtain ⟨b, u, y, h1, _, h2, h3, h4⟩ := vF (P := P) (ty := ty) hr fr hx ho ht hi hv
 exact ⟨_, w, ρ, h4 w h2, Eff.refl hr, y, rfl, h3⟩
theorem uE {t e : TypeId} {x : Operand} {id sz i o m : Nat} {els : List V} {v0 : V} (hr : HRel S w ρ h) (fr : Fr a n (fA a)) (hx : Opd S w ρ a x (.el id sz i o)) (ho : h id = .row e sz els) (ht : kR P t = some m) (hi : els[i]? = some v0) (hl : o + m ≤ v0.cells.length) :
  ∃ b u ys, ρ id = some u ∧ u.ownBlock = some b ∧ (∀ j, j < m → w.cell? ⟨b, i * sz + o + j, none⟩ = ys[j]?) ∧ LRel S w ρ ((v0.cells.drop o).take m) ys ∧ ∀ w', (∀ j, j < m → w'.cell? ⟨b, i * sz + o + j, none⟩ = ys[j]?) → Runs P a ty (.load t x) w' (.value (.agg ys.toArray)) w' := by
 obtain ⟨u, xs, h1, h2, h3⟩ := hW hr ho
 obtain ⟨b, k, c, rfl, hx'⟩ := vK hx h1
 obtain ⟨z, g1, g2, g3⟩ := h3.get hi
 have hlen := g1.cells.length
 simp only [Array.length_toList] at hlen
 have hle : i < els.length := (List.getElem?_eq_some_iff.1 hi).1
 have : (i + 1) * sz ≤ els.length * sz := Nat.mul_le_mul_right _ hle
 rw [Nat.add_mul, Nat.one_mul] at this
 refine ⟨b, _, (z.cells.toList.drop o).take m, h1, rfl, fun j hj => ?_, (g1.cells.drop o).take m, fun w' hc => sd fr hx' ht (by simp; omega) hc⟩
 rw [pF h2 (by omega), Nat.add_assoc, g3 _ (by omega), List.getElem?_take, if_pos hj, List.getElem?_drop]
theorem uZ {t e : TypeId} {x : Operand} {id sz i o m : Nat} {els : List V} {v0 : V} (hr : HRel S w ρ h) (fr : Fr a n (fA a)) (hx : Opd S w ρ a x (.el id sz i o)) (ho : h id = .row e sz els) (ht : kR P t = some m) (hi : els[i]? = some v0) (hl : o + m ≤ v0.cells.length) : Does P S w ρ h a ty (.load t x) (some (.agg ((v0.cells.drop o).take m))) h (fun _ => False) := by
 obtain ⟨b, u, ys, h1, _, h2, h3, h4⟩ := uE (P := P) (ty := ty) hr fr hx ho ht hi hl
 exact ⟨_, w, ρ, h4 w h2, Eff.refl hr, _, rfl, by simp only [VRel]; exact ⟨ys, rfl, h3⟩⟩
theorem DB {t : TypeId} {nid : Nat} {z : List Value} {zv : List V} (hr : HRel S w ρ h) (hf : h nid = .free) (hz : lr P t = some z) (hzv : ∀ S w ρ, LRel S w ρ zv z) : Does P S w ρ h a ty (.alloc t) (some (.ptr nid 0)) (bV h nid (.var t zv)) (fun _ => False) := by
 obtain ⟨w', b, h1, h2, h3, h4, h5⟩ := Bs (P := P) z hz a w ty
 refine ⟨_, w', dl ρ nid (.pointer (some ⟨b, 0, none⟩)), h1, eff_new hr hf h3 ⟨b, z, aZ _ _ _, h2, hzv _ _ _⟩ (fun b' hb' => ?_), _, rfl, ?_⟩
 ·simp only [own, aZ, Option.some.injEq, Value.pointer.injEq, Addr.mk.injEq, and_true] at hb'; omega
 ·simp only [VRel]; exact ⟨b, aZ _ _ _, rfl⟩
theorem Gc {t : TypeId} {x : Operand} {nid : Nat} {v : V} (hr : HRel S w ρ h) (fr : Fr a n (fA a)) (hf : h nid = .free) (hx : Opd S w ρ a x v) : Does P S w ρ h a ty (.box t x) (some (.ptr nid 0)) (bV h nid (.var t v.cells)) (fun _ => False) := by
 obtain ⟨y, g1, g2⟩ := hx
 obtain ⟨w', b, h1, h2, h3, h4, h5⟩ := Ec (P := P) (t := t) (cs := y.cells.toList) fr g1 (by simp) w ty
 refine ⟨_, w', dl ρ nid (.pointer (some ⟨b, 0, none⟩)), h1, eff_new hr hf h3 ⟨b, _, aZ _ _ _, h2, g2.cells.up (tj hr hf h3)⟩ (fun b' hb' => ?_), _, rfl, ?_⟩
 ·simp only [own, aZ, Option.some.injEq, Value.pointer.injEq, Addr.mk.injEq, and_true] at hb'; omega
 ·simp only [VRel]; exact ⟨b, aZ _ _ _, rfl⟩
theorem uy {t tb : TypeId} {f : Nat → Option Value} {x y : Operand} {b o m : Nat} {v : Value} {cs : List Value} (h : Fr a n f) (hx : aF f x = some (.pointer (some ⟨b, o, none⟩))) (hy : aF f y = some v) (hz : ew P t = some m) (hv : v.cells.size = m) (hone : v.cells.toList.all (·.oneCell') = true) (hb : Blk w b tb cs) (hm : o + m ≤ cs.length) (ty : TypeId) :
  ∃ w', Runs P a ty (.store t x y) w .skip w' ∧ Blk w' b tb (cs.take o ++ v.cells.toList ++ cs.drop (o + m)) ∧ Chg [b] w w' := by
 obtain ⟨i, hi, hs⟩ := Option.map_eq_some_iff.1 (show (P.info? t).map (·.size) = some m from hz)
 have key : ∀ (l : List Value) (j : Nat) (w : World) (cs : List Value), Blk w b tb cs → o + j + l.length ≤ cs.length → l.all (·.oneCell') = true → ∃ w', (storeCells ⟨b, o, none⟩ l j).run P w = .ok () w' ∧ Blk w' b tb (cs.take (o + j) ++ l ++ cs.drop (o + j + l.length)) ∧ Chg [b] w w' := by
  intro l
  induction l with
  | nil => intro j w cs hb hj _; exact ⟨w, by simp [storeCells], by simpa using hb, Chg.refl _ _⟩
  | cons c r ih =>
   intro j w cs hb hj hone
   simp only [List.all_cons, Bool.and_eq_true] at hone
   simp only [List.length_cons] at hj
   have ho : o + j < cs.length := by omega
   have hc : w.cell? ⟨b, o + j, none⟩ = some cs[o + j] := by rw [hb.cell]; simp [ho]
   have hfz := hb.frozen (o + j)
   have ha : (⟨b, o, none⟩ : Addr).add j = ⟨b, o + j, none⟩ := no b o j
   obtain ⟨w2, h1, h2, h3⟩ := ih (j + 1) (w.setCell ⟨b, o + j, none⟩ c) (cs.set (o + j) c) (hb.set (o + j) c) (by simp; omega) hone.2
   refine ⟨w2, ?_, ?_, (Chg.set w b (o + j) c).trans h3 (fun x hx => .inl hx)⟩
   ·simp only [storeCells, ha]
    have hst := run_store P w ⟨b, o + j, none⟩ c .plain hone.1
    simp [hst, stored, hc, hfz]
    exact h1
   ·have e1 : (cs.set (o + j) c).take (o + (j + 1)) = cs.take (o + j) ++ [c] := by
     rw [← Nat.add_assoc, List.take_succ_eq_append_getElem (by simpa using ho), List.take_set_of_le (Nat.le_refl _)]
     simp
    have e2 : (cs.set (o + j) c).drop (o + (j + 1) + r.length) = cs.drop (o + j + (r.length + 1)) := by
     rw [List.drop_set_of_lt (by omega)]; congr 1; omega
    rw [e1, e2] at h2
    simpa using h2
 obtain ⟨w1, h1, h2, h3⟩ := key v.cells.toList 0 w cs hb (by simp; omega) hone
 refine ⟨w1, fun _ _ _ _ => ?_, by simpa [hv] using h2, h3⟩
 simp only [execOp, h.eval hx, h.eval hy]
 simp [Instr.storeAt, Instr.sureAddr, storeVar, sizeOf, typeInfo, hi, hs, hv, h1]
theorem oT : ∀ {vs : List V} {xs : List Value}, LRel S w ρ vs xs → vs.all V.one = true → xs.all (·.oneCell') = true
 | [], xs, hl, h1 => by simp only [LRel] at hl; subst hl; rfl
 | v :: r, xs, hl, h1 => by
  simp only [LRel] at hl
  obtain ⟨x, ys, rfl, h2, h3⟩ := hl
  simp only [List.all_cons, Bool.and_eq_true] at h1 ⊢
  exact ⟨h2.one h1.1, oT h3 h1.2⟩
theorem Am {X : List Nat} {id : Nat} (hr : HRel S w ρ h) (hc : Chg X w w') (hX : ∀ b, b ∈ X → own ρ id (h id) b) : Up S S w w' ρ ρ :=
 ⟨fun _ h => h, fun b hb hlt => hc.block b hlt (fun hx => hr.sep id b (hX b hx) hb), fun _ _ h => h⟩
theorem Dx {t tb : TypeId} {x y : Operand} {id o m : Nat} {cs : List V} {v : V} (hr : HRel S w ρ h) (fr : Fr a n (fA a)) (hx : Opd S w ρ a x (.ptr id o)) (hy : Opd S w ρ a y v) (ho : h id = .var tb cs) (hz : ew P t = some m) (hv : v.cells.length = m) (h1 : v.cells.all V.one = true) (hm : o + m ≤ cs.length) :
  Does P S w ρ h a ty (.store t x y) none (bV h id (.var tb (nN cs o v.cells))) (· = id) := by
 obtain ⟨b, xs, g1, g2, g3⟩ := ni hr ho
 obtain ⟨z, k1, k2⟩ := hy
 have hlen := k2.cells.length
 simp only [Array.length_toList] at hlen
 obtain ⟨w', r1, r2, r3⟩ := uy (P := P) (t := t) (m := m) fr (tX hx g1) k1 hz (by omega) (oT k2.cells h1) g2 (by have := g3.length; omega) ty
 have hX : ∀ c, c ∈ [b] → own ρ id (h id) c := fun c hc => by simp at hc; subst hc; rw [ho]; exact g1
 have u := Am hr r3 hX
 refine ⟨_, w', ρ, r1, ya hr r3 hX ⟨b, _, g1, r2, ?_⟩ (fun c hc => by rw [ho]; exact hc), rfl⟩
 unfold nN
 rw [hv]
 exact (((g3.take o).append k2.cells).append (g3.drop _)).up u
theorem CRel.set {sz : Nat} : ∀ {vs : List V} {xs : List Value} {i : Nat} {v : V} {x : Value}, CRel S w ρ sz vs xs → i < vs.length → VRel S w ρ v x → x.cells.size = sz → x.cells.toList.all (·.oneCell') = true → CRel S w ρ sz (vs.set i v) (xs.take (i * sz) ++ x.cells.toList ++ xs.drop (i * sz + sz))
 | [], xs, i, v, x, hc, hi, hx, hs, h1 => by simp at hi
 | u :: r, xs, 0, v, x, hc, hi, hx, hs, h1 => by
  simp only [CRel] at hc
  obtain ⟨y, ys, rfl, ⟨h2, h2'⟩, h3, h4⟩ := hc
  refine ⟨x, ys, ?_, ⟨hs, h1⟩, hx, h4⟩
  simp [h2, List.drop_append]
 | u :: r, xs, i + 1, v, x, hc, hi, hx, hs, h1 => by
  simp only [CRel] at hc
  obtain ⟨y, ys, rfl, ⟨h2, h2'⟩, h3, h4⟩ := hc
  have ih := CRel.set (i := i) h4 (by simpa using hi) hx hs h1
  refine ⟨y, _, ?_, ⟨h2, h2'⟩, h3, ih⟩
  have e1 : (y.cells.toList ++ ys).take ((i + 1) * sz) = y.cells.toList ++ ys.take (i * sz) := by
   rw [List.take_append, List.take_of_length_le (by simp [h2, Nat.add_mul])]
   congr 2
   simp [h2, Nat.add_mul]
  have e2 : (y.cells.toList ++ ys).drop ((i + 1) * sz + sz) = ys.drop (i * sz + sz) := by
   rw [List.drop_append, List.drop_of_length_le (by simp [h2, Nat.add_mul])]
   simp [h2, Nat.add_mul]
  rw [e1, e2]; simp
def V.over (v0 : V) (o : Nat) (ps : List V) : V := match v0 with
 | .agg cs => .agg (nN cs o ps)
 |v0 => match ps with
  | [p] => p
  | _ => v0
theorem sa {t e : TypeId} {x y : Operand} {id sz i o m : Nat} {els : List V} {v0 v : V} (hr : HRel S w ρ h) (fr : Fr a n (fA a)) (hx : Opd S w ρ a x (.el id sz i o)) (hy : Opd S w ρ a y v) (ho : h id = .row e sz els) (hz : ew P t = some m) (hi : els[i]? = some v0) (hv : v.cells.length = m) (h1 : v.cells.all V.one = true) (hm : o + m ≤ v0.cells.length)
  (hv0 : (∃ cs, v0 = .agg cs) ∨ (v0.cells = [v0] ∧ v.cells = [v])) : Does P S w ρ h a ty (.store t x y) none (bV h id (.row e sz (els.set i (v0.over o v.cells)))) (· = id) := by
 obtain ⟨u, xs, g1, g2, g3⟩ := hW hr ho
 obtain ⟨b, k, c, rfl, hx'⟩ := vK hx g1
 obtain ⟨z, k1, k2⟩ := hy
 have hlen := k2.cells.length
 simp only [Array.length_toList] at hlen
 obtain ⟨z0, q1, q2, q3⟩ := g3.get hi
 have hle : i < els.length := (List.getElem?_eq_some_iff.1 hi).1
 have hmul : (i + 1) * sz ≤ els.length * sz := Nat.mul_le_mul_right _ hle
 rw [Nat.add_mul, Nat.one_mul] at hmul
 have hl0 := q1.cells.length
 simp only [Array.length_toList] at hl0
 have hxl := g3.length
 rcases g2.2 with ⟨hc, _⟩ | ⟨g, cap, cur, hv1, hb, hg, h4, h5, h6, h7⟩
 ·cases hc
 ·injection hv1 with hv2 hv3 hv4
  injection hv2 with hv2
  injection hv2 with hv2
  subst hv2 hv3 hv4
  have hcap : els.length * sz ≤ c * sz := Nat.mul_le_mul_right _ h4
  have hB : Blk w b e cur.toList := by unfold Blk; rw [hg]
  obtain ⟨w', r1, r2, r3⟩ := uy (P := P) (t := t) (m := m) fr hx' k1 hz (by omega) (oT k2.cells h1) hB (by simp; omega) ty
  have hX : ∀ d, d ∈ [b] → own ρ id (h id) d := fun d hd => by simp at hd; subst hd; rw [ho]; exact ⟨_, g1, rfl⟩
  have up := Am hr r3 hX
  have hnew : ∃ q, VRel S w ρ (v0.over o v.cells) q ∧ q.cells.toList = z0.cells.toList.take o ++ z.cells.toList ++ z0.cells.toList.drop (o + m) := by
   rcases hv0 with ⟨cs, rfl⟩ | ⟨e1, e2⟩
   ·refine ⟨.agg (z0.cells.toList.take o ++ z.cells.toList ++ z0.cells.toList.drop (o + m)).toArray, ?_, by simp [Value.cells]⟩
    simp only [V.over, VRel]
    refine ⟨_, rfl, ?_⟩
    unfold nN
    rw [hv]
    exact ((q1.cells.take o).append k2.cells).append (q1.cells.drop _)
   ·have : v0.over o v.cells = v := by
     rw [e2]
     cases v0 with
     | agg cs =>
      simp only [V.cells] at e1
      have hs := congrArg SizeOf.sizeOf e1
      simp at hs; omega
     | _ => rfl
    rw [this]
    refine ⟨z, k2, ?_⟩
    rw [e1] at hm hl0
    rw [e2] at hv
    simp at hm hl0 hv
    subst hv
    obtain rfl : o = 0 := by omega
    rw [List.drop_of_length_le (l := z0.cells.toList) (by simp [hl0])]
    simp
  obtain ⟨q, hn1, hn2⟩ := hnew
  have hsz' : q.cells.size = sz := by
   have := congrArg List.length hn2
   simp only [Array.length_toList, List.length_append, List.length_take, List.length_drop] at this
   rw [this]; omega
  have hones : (z0.cells.toList.take o ++ z.cells.toList ++ z0.cells.toList.drop (o + m)).all (·.oneCell') = true := by
   have hall : z0.cells.toList.all (·.oneCell') = true := by
    have h0 : ∀ j, j < sz → ∃ u, z0.cells.toList[j]? = some u ∧ u.oneCell' = true := fun j hj => by
     have hq := q3 j hj
     have : i * sz + j < xs.length := by omega
     refine ⟨xs[i * sz + j], ?_, g3.ones _ (List.getElem_mem _)⟩
     rw [← hq]; simp [this]
    rw [List.all_eq_true]
    intro u hu
    obtain ⟨j, hj, rfl⟩ := List.getElem_of_mem hu
    obtain ⟨u', e1, e2⟩ := h0 j (by simp at hj; omega)
    rw [List.getElem?_eq_getElem hj] at e1
    cases e1; exact e2
   have hall2 := oT k2.cells h1
   rw [List.all_eq_true] at hall hall2 ⊢
   intro u hu
   simp only [List.mem_append] at hu
   rcases hu with (hu | hu) | hu
   ·exact hall u (List.mem_of_mem_take hu)
   ·exact hall2 u hu
   ·exact hall u (List.mem_of_mem_drop hu)
  have hset := CRel.set (i := i) g3 hle hn1 hsz' (by rw [hn2]; exact hones)
  rw [hn2] at hset
  have hcur : cur.toList.take (els.length * sz) = xs := h7
  have e9 : xs.take (i * sz) ++ (z0.cells.toList.take o ++ z.cells.toList ++ z0.cells.toList.drop (o + m)) ++ xs.drop (i * sz + sz) = xs.take (i * sz + o) ++ z.cells.toList ++ xs.drop (i * sz + o + m) := by
   apply List.ext_getElem?
   intro j
   have hz0 : ∀ j, j < sz → z0.cells.toList[j]? = xs[i * sz + j]? := fun j hj => (q3 j hj).symm
   have L1 : (xs.take (i * sz)).length = i * sz := by simp; omega
   have L2 : (z0.cells.toList.take o).length = o := by simp; omega
   have L3 : z.cells.toList.length = m := by simp; omega
   have L4 : (z0.cells.toList.drop (o + m)).length = sz - (o + m) := by simp; omega
   have L5 : (xs.take (i * sz + o)).length = i * sz + o := by simp; omega
   simp only [List.getElem?_append, L1, L2, L3, L4, L5, List.length_append, List.getElem?_take, List.getElem?_drop]
   by_cases c1 : j < i * sz
   ·simp [c1, show j < i * sz + (o + m + (sz - (o + m))) by omega, show j < i * sz + o + m by omega, show j < i * sz + o by omega]
   ·by_cases c2 : j < i * sz + o
    ·simp [c1, c2, show j < i * sz + (o + m + (sz - (o + m))) by omega, show j < i * sz + o + m by omega, show j - i * sz < o + m by omega, show j - i * sz < o by omega]
     have := hz0 (j - i * sz) (by omega)
     simp at this
     rw [this]; congr 1; omega
    ·by_cases c3 : j < i * sz + o + m
     ·simp [c1, c2, c3, show j < i * sz + (o + m + (sz - (o + m))) by omega, show j - i * sz < o + m by omega, show ¬ j - i * sz < o by omega]
      congr 1; omega
     ·by_cases c4 : j < i * sz + sz
      ·simp [c1, c2, c3, show j < i * sz + (o + m + (sz - (o + m))) by omega, show ¬ j - i * sz < o + m by omega]
       rw [show o + m + (j - i * sz - (o + m)) = j - i * sz by omega]
       have := hz0 (j - i * sz) (by omega)
       simp at this
       rw [this]; congr 1; omega
      ·simp [c1, c2, c3, show ¬ j < i * sz + (o + m + (sz - (o + m))) by omega]
       congr 1; omega
  rw [e9] at hset
  refine ⟨_, w', ρ, r1, ya hr r3 hX ⟨_, _, g1, ⟨?_, .inr ⟨b, c, (cur.toList.take (i * sz + o) ++ z.cells.toList ++ cur.toList.drop (i * sz + o + m)).toArray, ?_, hb, r2, by simpa using h4, h5, ?_, rfl⟩⟩, ?_⟩ (fun d hd => by rw [ho]; exact hd), rfl⟩
  ·simp; omega
  ·simp
  ·simp; omega
  ·have e10 : List.take ((els.set i (v0.over o v.cells)).length * sz) (cur.toList.take (i * sz + o) ++ z.cells.toList ++ cur.toList.drop (i * sz + o + m)).toArray.toList = xs.take (i * sz + o) ++ z.cells.toList ++ xs.drop (i * sz + o + m) := by
    simp only [List.length_set]
    rw [← hcur]
    apply List.ext_getElem?
    intro j
    have K1 : (cur.toList.take (i * sz + o)).length = i * sz + o := by simp; omega
    have K2 : (List.take (i * sz + o) (List.take (els.length * sz) cur.toList)).length = i * sz + o := by simp; omega
    simp only [List.getElem?_take, List.getElem?_append, K1, K2, List.length_append, Array.length_toList, List.getElem?_drop]
    by_cases c0 : j < els.length * sz
    ·by_cases c1 : j < i * sz + o
     ·simp [c0, c1, show j < i * sz + o + z.cells.size by omega]
     ·by_cases c2 : j < i * sz + o + z.cells.size
      ·simp [c0, c1, c2]
      ·simp [c0, c1, c2, show i * sz + o + m + (j - (i * sz + o + z.cells.size)) < els.length * sz by omega]
    ·simp [c0, show ¬ j < i * sz + o + z.cells.size by omega, show ¬ i * sz + o + m + (j - (i * sz + o + z.cells.size)) < els.length * sz by omega]
   rw [e10]
   exact hset.up up
end
end Go.Proofs.YthnohcipianijaaGreatDoor
namespace Go.Proofs.YthnohcipianijaaGreatDoor
open Go.RowKit
section
variable {P : Program} {S : Nat → Prop} {w w' : World} {ρ ρ' : Nat → Option Value} {h h' : Nat → Ob} {a : Act} {n : Nat} {ty : TypeId}
def iz (sz : Nat) : Nat → List (Nat × V) → Option (List V)
 | _, [] => some []
 |i, (j, v) :: r => match Nat.beq i j && Nat.beq v.cells.length sz && v.cells.all V.one with
  |true => match iz sz (i + 1) r with
   | some vs => some (v :: vs)
   | none => none
  | false => none
theorem oo {sz : Nat} : ∀ {vs : List (Nat × V)} {ys : List (Nat × Value)} {i : Nat} {els : List V}, PRel S w ρ vs ys → iz sz i vs = some els →
  ys.map (·.1) = (List.range' i els.length) ∧ (ys.all fun p => p.2.cells.size == sz) = true ∧ CRel S w ρ sz els (ys.flatMap fun p => p.2.cells.toList)
 | [], ys, i, els, hp, hr => by
  simp only [PRel] at hp; subst hp
  simp only [iz, Option.some.injEq] at hr; subst hr
  simp [CRel]
 | (j, v) :: r, ys, i, els, hp, hr => by
  simp only [PRel] at hp
  obtain ⟨x, zs, rfl, hx, hq⟩ := hp
  simp only [iz] at hr
  split at hr
  ·rename_i hc
   simp only [Bool.and_eq_true, Nat.beq_eq] at hc
   split at hr
   ·rename_i vs hvs
    simp only [Option.some.injEq] at hr; subst hr
    obtain ⟨h1, h2, h3⟩ := oo hq hvs
    have hl := hx.cells.length
    simp only [Array.length_toList] at hl
    refine ⟨?_, ?_, ?_⟩
    ·simp [h1, hc.1.1, List.range'_succ]
    ·simp only [List.all_cons, h2, Bool.and_true, beq_iff_eq]; rw [hl, hc.1.2]
    ·simp only [List.flatMap_cons]
     exact ⟨x, _, rfl, ⟨by rw [hl, hc.1.2], oT hx.cells hc.2⟩, hx, h3⟩
   ·cases hr
  ·cases hr
theorem Be {t e : TypeId} {ps : List (Nat × Operand)} {vs : List (Nat × V)} {ys : List (Nat × Value)} {sz m nid : Nat} {z : List Value} {els : List V} (hr : HRel S w ρ h) (fr : Fr a n (fA a)) (hf : h nid = .free) (hps : dP (fA a) ps = some ys) (hpr : PRel S w ρ vs ys) (ht : P.underlying t = some (.slice e)) (hz : ew P e = some sz) (hzero : lr P e = some z)
  (hp : iz sz 0 vs = some els) (hl : els.length = m) (hsm : Nat.ble (m * sz) 16777216 = true) (hm : Nat.ble m 16777216 = true) : Does P S w ρ h a ty (.buildSlice t m ps.toArray) (some (.sl nid)) (bV h nid (.row e sz els)) (fun _ => False) := by
 obtain ⟨h1, h2, h3⟩ := oo hpr hp
 have hidx : ps.map (·.1) = List.range m := by
  have : ps.map (·.1) = ys.map (·.1) := by rw [← fr.parts hps]; simp
  rw [this, h1, hl, List.range_eq_range']
 obtain ⟨w', b, g1, g2, g3, g4, g5⟩ := ud (P := P) (t := t) (m := m) fr hps ht hz hzero hidx h2 hsm rfl w ty
 have hlen := h3.length
 have hmm : m ≤ 16777216 := Nat.le_of_ble_eq_true hm
 have own := tq (base := 0) g2 (Nat.zero_le _) (m := m) (size := sz) (by rw [hlen, hl]) (by simp only [Nat.ble_eq, maxLen]; omega)
 refine ⟨_, w', dl ρ nid (.slice (some ⟨b, 0, none⟩) m m), g1, eff_new hr hf g3 ⟨_, _, aZ _ _ _, by rw [hl]; exact own, h3.up (tj hr hf g3)⟩ (fun b' hb' => ?_), _, rfl, ?_⟩
 ·obtain ⟨v, e1, e2⟩ := hb'
  rw [aZ] at e1
  cases e1
  simp [Value.ownBlock] at e2; omega
 ·simp only [VRel]; exact ⟨aZ _ _ _, rfl⟩
theorem uO {z : List Value} (hz : 0 < z.length) : ∀ m, (madeCells z.toArray (m * z.length)).toList = (List.replicate m z).flatten := by
 intro m
 apply List.ext_getElem?
 intro j
 have hl : ((List.replicate m z).flatten).length = m * z.length := by simp
 by_cases hj : j < m * z.length
 ·have hlt : j % z.length < z.length := Nat.mod_lt _ hz
  have h1 : (madeCells z.toArray (m * z.length)).toList[j]? = some z[j % z.length] := by
   simp [madeCells, hj, hlt]
  rw [h1]
  have key : ∀ (m j : Nat), j < m * z.length → ((List.replicate m z).flatten)[j]? = some (z[j % z.length]'(Nat.mod_lt _ hz)) := by
   intro m
   induction m with
   | zero => intro j hj; simp at hj
   | succ m ih =>
    intro j hj
    simp only [List.replicate_succ, List.flatten_cons]
    by_cases hc : j < z.length
    ·rw [List.getElem?_append_left hc]
     simp [Nat.mod_eq_of_lt hc, hc]
    ·rw [List.getElem?_append_right (by omega), ih (j - z.length) (by rw [Nat.add_mul] at hj; omega)]
     congr 1
     have : (j - z.length) % z.length = j % z.length := by
      conv => rhs; rw [show j = (j - z.length) + z.length by omega]
      simp
     simp [this]
  exact (key m j hj).symm
 ·rw [List.getElem?_eq_none (by simp [madeCells]; omega), List.getElem?_eq_none (by rw [hl]; omega)]
theorem vJ {sz : Nat} {zv : V} {z : Value} (hz : z.cells.size = sz) (h1 : z.cells.toList.all (·.oneCell') = true) (hv : VRel S w ρ zv z) : ∀ m, CRel S w ρ sz (List.replicate m zv) ((List.replicate m z.cells.toList).flatten)
 | 0 => by simp [CRel]
 | m + 1 => by
  simp only [List.replicate_succ, List.flatten_cons]
  exact ⟨z, _, rfl, ⟨hz, h1⟩, hv, vJ hz h1 hv m⟩
theorem zD {t e : TypeId} {x y : Operand} {m nid sz by_ : Nat} {z : Value} {zv : V} (hr : HRel S w ρ h) (fr : Fr a n (fA a)) (hf : h nid = .free) (hx : Opd S w ρ a x (.int .i64 (m : Int))) (hy : Opd S w ρ a y (.int .i64 (m : Int))) (ht : P.underlying t = some (.slice e))
  (hi : (P.info? e).map (fun i => (i.zero, i.size, i.bytes)) = some (some z, sz, by_)) (hzs : z.cells.size = sz) (hsz : 0 < sz) (h1 : z.cells.toList.all (·.oneCell') = true) (hzv : ∀ S w ρ, VRel S w ρ zv z) (hb : by_ * m ≤ 281474976710656) (hm : m ≤ maxLen) :
  Does P S w ρ h a ty (.makeSlice t x y) (some (.sl nid)) (bV h nid (.row e sz (List.replicate m zv))) (fun _ => False) := by
 have hmm : m ≤ 9223372036854775807 := by simp only [maxLen] at hm; omega
 have hcs : madeCells z.cells (m * sz) = (List.replicate m z.cells.toList).flatten.toArray := by
  rw [← uO (by simp; omega)]; simp [hzs]
 obtain ⟨w', b, g1, g2, g3, g4, g5⟩ := Dz (P := P) fr (aX hx) (aX hy) ht hi (by simpa using hb) (by simpa using hmm) hcs w ty
 have hcr := vJ (S := S) (w := w) (ρ := ρ) hzs h1 (hzv _ _ _) m
 have hlen := hcr.length
 simp only [List.length_replicate] at hlen
 have own := tq (base := 0) g2 (Nat.zero_le _) (m := m) (size := sz) hlen (by simpa using hm)
 refine ⟨_, w', dl ρ nid (.slice (some ⟨b, 0, none⟩) m m), g1, eff_new hr hf g3 ⟨_, _, aZ _ _ _, by simpa using own, hcr.up (tj hr hf g3)⟩ (fun b' hb' => ?_), _, rfl, ?_⟩
 ·obtain ⟨v, e1, e2⟩ := hb'
  rw [aZ] at e1
  cases e1
  simp [Value.ownBlock] at e2; omega
 ·simp only [VRel]; exact ⟨aZ _ _ _, rfl⟩
theorem sV {t e : TypeId} {sz k c d : Nat} {A B : Option Addr} (ht : P.underlying t = some (.slice e)) (hz : ew P e = some sz) (hk : k ≤ c) : (Builtin.append_ #[t, t] ty #[.slice A k c, .slice B 0 d]).run P w = .ok (.slice A k c) w := by
 obtain ⟨inf, hi, hs⟩ := Option.map_eq_some_iff.1 (show (P.info? e).map (·.size) = some sz from hz)
 have hso : (sizeOf e).run P w = .ok sz w := by simp [sizeOf, typeInfo, hi, hs]
 cases A <;> cases B <;> simp [Builtin.append_, run_underlying ht, hso, Builtin.lenOf, Builtin.firstCells, hk, loadCells, loadCellsFrom, storeCells]
def oG (S : Nat → Prop) (w : World) (ρ : Nat → Option Value) (sz : Nat) (els : List V) (y : Value) : Prop :=
 ∃ A c xs, y = .slice A els.length c ∧ CRel S w ρ sz els xs ∧ (0 < els.length → ∃ b off, A = some ⟨b, off, none⟩ ∧ ∀ j, j < els.length * sz → w.cell? ⟨b, off + j, none⟩ = xs[j]?)
theorem DD {sz : Nat} {els : List V} {y : Value} (hy : VRel S w ρ (.row sz els) y) : oG S w ρ sz els y := by
 simp only [VRel] at hy
 obtain ⟨A, c, xs, rfl, h3, h4, h5, h6⟩ := hy
 exact ⟨A, c, xs, rfl, h5.up up0, fun hn => by obtain ⟨b, off, e, _, _, hc⟩ := h6.2 hn; exact ⟨b, off, e, hc⟩⟩
theorem Bj {sz : Nat} {y : Value} (hy : VRel S w ρ .nils y) : oG S w ρ sz [] y := by
 simp only [VRel] at hy; subst hy
 exact ⟨none, 0, [], rfl, by simp [CRel], fun hn => by simp at hn⟩
theorem DO {id sz : Nat} {e : TypeId} {els : List V} {y : Value} (hr : HRel S w ρ h) (ho : h id = .row e sz els) (hy : VRel S w ρ (.sl id) y) : oG S w ρ sz els y := by
 simp only [VRel] at hy
 obtain ⟨v, xs, h1, h2, h3⟩ := hW hr ho
 rw [hy.1] at h1
 cases h1
 obtain ⟨A, c, rfl, _⟩ := ea h2
 refine ⟨A, c, xs, rfl, h3, fun hn => ?_⟩
 obtain ⟨g, cap, hv, _⟩ := h2.form hn
 injection hv with hv1 _ hv2
 subst hv1
 exact ⟨g, 0, rfl, fun j hj => by rw [Nat.zero_add]; exact pF h2 hj⟩
theorem tf {t e : TypeId} {x y : Operand} {sz by_ : Nat} {z u v : Value} {els news : List V} {xs : List Value} (fr : Fr a n (fA a)) (hx : aF (fA a) x = some u) (hy : aF (fA a) y = some v) (hu : w.ownsRow 0 e sz u els.length xs) (hcx : CRel S w ρ sz els xs) (hv : oG S w ρ sz news v) (ht : P.underlying t = some (.slice e))
  (hi : (P.info? e).map (fun i => (i.zero, i.size, i.bytes)) = some (some z, sz, by_)) (hzs : z.cells.size = sz) (hsz : 0 < sz) (h63 : els.length + news.length ≤ maxLen) (hby : (els.length + news.length) * by_ ≤ 140737488355328) :
  ∃ v' w' ys, Runs P a ty (.call { callee := .builtin .append, args := #[x, y], argTypes := #[t, t] }) w (.value v') w' ∧ w'.ownsRow 0 e sz v' (els.length + news.length) ys ∧ CRel S w ρ sz (els ++ news) ys ∧ Chg u.ownBlock.toList w w' ∧ (v'.ownBlock = u.ownBlock ∨ v'.ownBlock = some w.heap.size) := by
 obtain ⟨A, c, ns, rfl, hcr, hcell⟩ := hv
 have hsize : ew P e = some sz := by
  obtain ⟨i0, hi0, hx0⟩ := Option.map_eq_some_iff.1 hi
  simp only [Prod.mk.injEq] at hx0
  simp [ew, hi0, hx0.2.1]
 by_cases hn : news = []
 ·subst hn
  simp only [CRel] at hcr; subst hcr
  obtain ⟨B, d, rfl, hd, _⟩ := ea hu
  refine ⟨.slice B els.length d, w, xs, fun _ _ _ _ => ?_, by simpa using hu, by simpa using hcx, Chg.refl _ _, .inl rfl⟩
  simp only [execOp, resolve, invoke, builtin, List.map_toArray, List.map_cons, List.map_nil, fr.eval hx, fr.eval hy]
  have := sV (P := P) (w := w) (ty := ty) (A := B) (B := A) (d := c) ht hsize hd
  simp only [List.length_nil]
  simp [this]
 ·have hpos : 0 < news.length := List.length_pos_iff.2 hn
  obtain ⟨b, off, rfl, hc⟩ := hcell hpos
  obtain ⟨i0, hi0, hx0⟩ := Option.map_eq_some_iff.1 hi
  simp only [Prod.mk.injEq] at hx0
  obtain ⟨hz, hs, hbb⟩ := hx0
  obtain ⟨v', w', hrun, h2, h3, _, h5⟩ := run_append_own_at (P := P) w 0 t ty e i0 z sz by_ ht hi0 hz hs hbb hzs hsz u els.length xs hu ⟨b, off, none⟩ news.length c ns hcr.length
   (fun j q hq => by
    have hj : j < ns.length := (List.getElem?_eq_some_iff.1 hq).1
    rw [no, hc j (by rw [← hcr.length]; exact hj)]; exact hq) hcr.ones h63 hby (Nat.zero_le _)
  refine ⟨v', w', xs ++ ns, fun _ _ _ _ => ?_, h2, hcx.append hcr, Chg.grown h3, h5⟩
  simp only [execOp, resolve, invoke, builtin, List.map_toArray, List.map_cons, List.map_nil, fr.eval hx, fr.eval hy]
  simp [hrun]
theorem xb {base e sz k : Nat} {v : Value} {xs : List Value} (hv : w.ownsRow base e sz v k xs) : v.oneCell' = true := by
 obtain ⟨A, c, rfl, _⟩ := ea hv; rfl
section
variable {t e : TypeId} {x y : Operand} {sz by_ nid : Nat} {z v : Value} {els news : List V} (hr : HRel S w ρ h) (fr : Fr a n (fA a)) (hf : h nid = .free) (hy : aF (fA a) y = some v) (hv : oG S w ρ sz news v) (ht : P.underlying t = some (.slice e))
    (hi : (P.info? e).map (fun i => (i.zero, i.size, i.bytes)) = some (some z, sz, by_)) (hzs : z.cells.size = sz) (hsz : 0 < sz)
include hr fr hf hy hv ht hi hzs hsz
theorem vN {id : Nat} (hx : Opd S w ρ a x (.sl id)) (ho : h id = .row e sz els) (h63 : els.length + news.length ≤ maxLen) (hby : (els.length + news.length) * by_ ≤ 140737488355328) :
  Does P S w ρ h a ty (.call { callee := .builtin .append, args := #[x, y], argTypes := #[t, t] }) (some (.sl nid)) (bV (bV h id .gone) nid (.row e sz (els ++ news))) (· = id) := by
 obtain ⟨u, k1, k2⟩ := hx
 simp only [VRel] at k2
 obtain ⟨u', xs, h1, h2, h3⟩ := hW hr ho
 rw [k2.1] at h1
 cases h1
 obtain ⟨v', w', ys, g1, g2, g3, g4, g5⟩ := tf (P := P) (ty := ty) fr k1 hy h2 h3 hv ht hi hzs hsz h63 hby
 have hX : ∀ b, b ∈ u.ownBlock.toList → own ρ id (h id) b := fun b hb => by simp at hb; rw [ho]; exact ⟨u, k2.1, hb⟩
 have hn : ρ nid = none := by have := hr.ob nid; rw [hf] at this; exact this
 have up : Up S S w w' ρ (dl ρ nid v') := by
  refine ⟨fun _ h => h, fun b hb hlt => g4.block b hlt (fun hc => hr.sep id b (hX b hc) hb), fun i q hq => ?_⟩
  have : i ≠ nid := fun e => by subst e; rw [hn] at hq; cases hq
  rw [lU _ _ this]; exact hq
 refine ⟨_, w', dl ρ nid v', g1, vo hr hf (by rw [ho]; simp) g4 hX ⟨v', ys, aZ _ _ _, by simpa using g2, g3.up up⟩ (fun b hb => ?_), _, rfl, ?_⟩
 ·obtain ⟨q, e1, e2⟩ := hb
  rw [aZ] at e1
  cases e1
  rcases g5 with g5 | g5
  ·exact .inl (by rw [ho]; exact ⟨u, k2.1, by rw [← g5]; exact e2⟩)
  ·rw [g5] at e2; simp at e2; exact .inr (by omega)
 ·simp only [VRel]; exact ⟨aZ _ _ _, xb g2⟩
theorem Au (hx : Opd S w ρ a x .nils) (h63 : news.length ≤ maxLen) (hby : news.length * by_ ≤ 140737488355328) :
  Does P S w ρ h a ty (.call { callee := .builtin .append, args := #[x, y], argTypes := #[t, t] }) (some (.sl nid)) (bV h nid (.row e sz news)) (fun _ => False) := by
 obtain ⟨u, k1, k2⟩ := hx
 simp only [VRel] at k2
 subst k2
 obtain ⟨v', w', ys, g1, g2, g3, g4, g5⟩ := tf (P := P) (ty := ty) (els := []) (xs := []) fr k1 hy (World.ownsRow_nil w 0 e sz) (by simp [CRel]) hv ht hi hzs hsz (by simpa using h63) (by simpa using hby)
 have up := tj (x := v') hr hf g4
 simp only [List.length_nil, Nat.zero_add, List.nil_append] at g2 g3
 refine ⟨_, w', dl ρ nid v', g1, eff_new hr hf g4 ⟨v', ys, aZ _ _ _, g2, g3.up up⟩ (fun b hb => ?_), _, rfl, ?_⟩
 ·obtain ⟨q, e1, e2⟩ := hb
  rw [aZ] at e1
  cases e1
  rcases g5 with g5 | g5
  ·rw [g5] at e2; cases e2
  ·rw [g5] at e2; simp at e2; omega
 ·simp only [VRel]; exact ⟨aZ _ _ _, xb g2⟩
end
theorem xQ {t e : TypeId} {x y : Operand} {sz nid id k : Nat} {els : List V} (hr : HRel S w ρ h) (fr : Fr a n (fA a)) (hf : h nid = .free) (hx : Opd S w ρ a x (.sl id)) (hy : Opd S w ρ a y (.int .i64 (k : Int))) (ho : h id = .row e sz els) (ht : P.underlying t = some (.slice e)) (hz : ew P e = some sz) (hk : k ≤ els.length) :
  Does P S w ρ h a ty (.slice t x none (some y) none) (some (.sl nid)) (bV (bV h id .gone) nid (.row e sz (els.take k))) (· = id) := by
 obtain ⟨u, k1, k2⟩ := hx
 simp only [VRel] at k2
 obtain ⟨u', xs, h1, h2, h3⟩ := hW hr ho
 rw [k2.1] at h1
 cases h1
 obtain ⟨A, c, rfl, hc, hcm⟩ := ea h2
 have hrun := zS (P := P) (w := w) (ty := ty) (lo := none) (hi := some y) (i := 0) (j := k) fr ht hz k1 (.inl ⟨rfl, rfl⟩) (.inr ⟨y, rfl, aX hy⟩) (Nat.zero_le _) hk hc
 have eA : (if c = 0 then A else A.map (·.add (0 * sz))) = A := by
  split
  ·rfl
  ·cases A with
   | none => rfl
   | some ad => simp [Addr.add]
 rw [eA] at hrun
 simp only [Nat.sub_zero] at hrun
 have hn : ρ nid = none := by have := hr.ob nid; rw [hf] at this; exact this
 have up : Up S S w w ρ (dl ρ nid (.slice A k c)) := by
  refine ⟨fun _ h => h, fun b hb hlt => rfl, fun i q hq => ?_⟩
  have : i ≠ nid := fun e => by subst e; rw [hn] at hq; cases hq
  rw [lU _ _ this]; exact hq
 have hlen : (els.take k).length = k := by simp; omega
 have own' : w.ownsRow 0 e sz (.slice A k c) k (xs.take (k * sz)) := by
  have hmul : k * sz ≤ els.length * sz := Nat.mul_le_mul_right _ hk
  refine ⟨by rw [List.length_take, h2.1, Nat.min_eq_left hmul], ?_⟩
  rcases h2.2 with ⟨h0, h0'⟩ | ⟨g, cap, cur, hv, q1, q2, q3, q4, q5, q6⟩
  ·injection h0 with e1 e2 e3
   subst e1 e3
   exact .inl ⟨by rw [show k = 0 by omega], by omega⟩
  ·injection hv with e1 e2 e3
   subst e1 e3
   refine .inr ⟨g, c, cur, rfl, q1, q2, by omega, q4, q5, ?_⟩
   rw [← q6, List.take_take, Nat.min_eq_left hmul]
 refine ⟨_, w, dl ρ nid (.slice A k c), hrun, vo (X := []) hr hf (by rw [ho]; simp) (Chg.refl _ _) (by simp) ⟨_, _, aZ _ _ _, by rw [hlen]; exact own', (h3.take k).up up⟩ (fun b hb => ?_), _, rfl, ?_⟩
 ·obtain ⟨q, e1, e2⟩ := hb
  rw [aZ] at e1
  cases e1
  exact .inl (by rw [ho]; exact ⟨_, k2.1, by cases A <;> simp [Value.ownBlock] at e2 ⊢; exact e2⟩)
 ·simp only [VRel]; exact ⟨aZ _ _ _, rfl⟩
theorem fN {id : Nat} (hr : HRel S w ρ h) : HRel (fun b => S b ∨ own ρ id (h id) b) w ρ (bV h id .gone) ∧ Up S (fun b => S b ∨ own ρ id (h id) b) w w ρ ρ := by
 have up : Up S (fun b => S b ∨ own ρ id (h id) b) w w ρ ρ := ⟨fun _ h => .inl h, fun _ _ _ => rfl, fun _ _ h => h⟩
 have back : ∀ i b, own ρ i (bV h id .gone i) b → i ≠ id ∧ own ρ i (h i) b := fun i b hb => by
  by_cases hi : i = id
  ·subst hi; rw [bj] at hb; exact hb.elim
  ·rw [bP _ _ hi] at hb; exact ⟨hi, hb⟩
 refine ⟨⟨fun i => ?_, fun i b hb => ?_, fun i j b hbi hbj => hr.dis i j b (back i b hbi).2 (back j b hbj).2, fun b hb => ?_⟩, up⟩
 ·by_cases hi : i = id
  ·subst hi; rw [bj]; trivial
  ·rw [bP _ _ hi]
   refine (hr.ob i).up up (fun hf => ?_) (fun _ _ => rfl)
   have := hr.ob i; rw [hf] at this; exact this
 ·obtain ⟨h1, h2⟩ := back i b hb
  rintro (h3 | h3)
  ·exact hr.sep i b h2 h3
  ·exact h1 (hr.dis i id b h2 h3)
 ·rcases hb with hb | hb
  ·exact hr.slt b hb
  ·exact eh (hr.ob id) hb
theorem sO {id sz : Nat} {e : TypeId} {els : List V} {x : Value} (hr : HRel S w ρ h) (ho : h id = .row e sz els) (hp : pureL els = true) (hx : VRel S w ρ (.sl id) x) : VRel (fun b => S b ∨ own ρ id (h id) b) w ρ (.row sz els) x := by
 simp only [VRel] at hx
 obtain ⟨v, xs, h1, h2, h3⟩ := hW hr ho
 rw [hx.1] at h1
 cases h1
 obtain ⟨A, c, rfl, hc, hcm⟩ := ea h2
 simp only [VRel]
 refine ⟨A, c, xs, rfl, hc, hcm, (h3.up (fN hr).2).pure hp, h3.length, fun hn => ?_⟩
 obtain ⟨g, cap, hv, _, hlt⟩ := h2.form hn
 injection hv with e1 e2 e3
 subst e1 e3
 exact ⟨g, 0, rfl, .inr (by rw [ho]; exact ⟨_, hx.1, rfl⟩), hlt, fun j hj => by rw [Nat.zero_add]; exact pF h2 hj⟩
theorem yy {id o : Nat} {t : TypeId} {cs : List V} {x : Value} (hr : HRel S w ρ h) (ho : h id = .var t cs) (hp : pureL cs = true) (hx : VRel S w ρ (.ptr id o) x) : VRel (fun b => S b ∨ own ρ id (h id) b) w ρ (.box cs o) x := by
 simp only [VRel] at hx
 obtain ⟨b, xs, h1, h2, h3⟩ := ni hr ho
 obtain ⟨b', h4, rfl⟩ := hx
 rw [h1] at h4
 simp only [Option.some.injEq, Value.pointer.injEq, Addr.mk.injEq, and_true] at h4
 subst h4
 simp only [VRel]
 exact ⟨b, 0, xs, by simp, .inr (by rw [ho]; exact h1), h2.lt, (h3.up (fN hr).2).pure hp, fun j hj => by rw [Nat.zero_add, h2.cell]⟩
end
end Go.Proofs.YthnohcipianijaaGreatDoor
namespace Go.Proofs.YthnohcipianijaaGreatDoor
open Go.RowKit
abbrev Fm := List (Option V)
def Fm.get : Fm → Nat → Option V
 | [], _ => none
 | x :: _, 0 => x
 | _ :: r, i + 1 => Fm.get r i
def Fm.put {α : Type} : Fm → Nat → Option V → (Fm → α) → α
 | [], _, _, c => c []
 | _ :: r, 0, v, c => c (v :: r)
 | x :: r, i + 1, v, c => Fm.put r i v fun r' => c (x :: r')
def Fm.puto {α : Type} (F : Fm) (d : Option Tmp) (v : Option V) (c : Fm → α) : α := match d with
 | some d => F.put d v c
 | none => c F
def eD {α : Type} (n : Nat) (c : Nat → α) : α := match n with
 | 0 => c 0
 | m + 1 => c (Nat.succ m)
def yr {α : Type} (n : Int) (c : Int → α) : α := match n with
 | .ofNat m => eD m fun m => c (.ofNat m)
 | .negSucc m => eD m fun m => c (.negSucc m)
def listK {α β : Type} : List β → (List β → α) → α
 | [], c => c []
 | x :: r, c => listK r fun r' => c (x :: r')
theorem cD {α : Type} (n : Nat) (c : Nat → α) : eD n c = c n := by cases n <;> rfl
theorem wY {α : Type} (n : Int) (c : Int → α) : yr n c = c n := by cases n <;> simp [yr, cD]
theorem bZ {α β : Type} : ∀ (l : List β) (c : List β → α), listK l c = c l
 | [], c => rfl
 | x :: r, c => by simp [listK, bZ r]
theorem Fm.get_eq : ∀ (F : Fm) (i : Nat), F.get i = (F[i]?).bind id
 | [], i => by simp [Fm.get]
 | x :: r, 0 => by simp [Fm.get]
 | x :: r, i + 1 => by simp [Fm.get, Fm.get_eq r i]
theorem Fm.put_eq {α : Type} : ∀ (F : Fm) (i : Nat) (v : Option V) (c : Fm → α), F.put i v c = c (F.set i v)
 | [], i, v, c => by simp [Fm.put]
 | x :: r, 0, v, c => by simp [Fm.put]
 | x :: r, i + 1, v, c => by simp [Fm.put, Fm.put_eq r i]
def Fm.seto (F : Fm) (d : Option Tmp) (v : Option V) : Fm := match d with
 | some d => F.set d v
 | none => F
theorem Fm.puto_eq {α : Type} (F : Fm) (d : Option Tmp) (v : Option V) (c : Fm → α) : F.puto d v c = c (F.seto d v) := by
 cases d with
 | none => rfl
 | some d => exact Fm.put_eq F d v c
inductive TK where
 | sc
 | bool
 | str
 | sl (e : TypeId)
 | struct (fs : List (Nat × Nat × Bool))
 | arr (len : Nat) (e : TypeId)
structure TD where
 size : Nat
 bytes : Nat
 zero : V
 kind : TK
structure Tab where
 frc : Bool
 ty : TypeId → Option TD
 fn : FuncId → Option Func
 nat : FuncId → List V → Option V
 keep : FuncId → Bool
def zp : Value → V → Bool
 | .int k n, .int k' m => k == k' && n == m
 | .bool b, .bool c => b == c
 | .string s, .str l => s.data.toList == l
 | .pointer none, .nilp => true
 | .slice none 0 0, .nils => true
 | .map none, .raw (.map none) => true
 | _, _ => false
def yM : List Value → List V → Bool
 | [], [] => true
 | x :: r, v :: q => zp x v && yM r q
 | _, _ => false
def zEq : Value → V → Bool
 | .agg cs, .agg vs => yM cs.toList vs
 | x, v => zp x v
def oZ (P : Program) (t : TypeId) : Nat → List (Nat × Nat × Bool) → Bool
 | _, [] => true
 |i, (o, s, b) :: r => (match b with
  | true => nn P t i == some o
  | false => nh P t i == some (o, s)) && lA P t i == some o && oZ P t (i + 1) r
def jR (P : Program) (t : TypeId) (size : Nat) : TK → Bool
 | .sc => du P t
 | .bool => du P t && match P.underlying t with | some .bool => true | _ => false
 | .str => du P t && match P.underlying t with | some .string => true | _ => false
 | .sl e => du P t && match P.underlying t with | some (.slice e') => e == e' | _ => false
 | .struct fs => kR P t == some size && rt P t == some (fs.map fun p => (p.1, p.2.1)) && oZ P t 0 fs
 | .arr len e => kR P t == some size && match P.underlying t with | some (.array len' e') => len == len' && e == e' | _ => false
def tdB (P : Program) (t : TypeId) (d : TD) : Bool :=
 match P.info? t with
 |some inf => match inf.zero with
  | some z => inf.size == d.size && inf.bytes == d.bytes && zEq z d.zero && z.cells.size == d.size && jR P t d.size d.kind && z.cells.toList.all (·.oneCell')
  | none => false
 | none => false
structure TdOk (P : Program) (t : TypeId) (d : TD) : Prop where
 size : ew P t = some d.size
 info : ∃ z : Value, (P.info? t).map (fun i => (i.zero, i.size, i.bytes)) = some (some z, d.size, d.bytes) ∧ (∀ S w ρ, VRel S w ρ d.zero z) ∧ z.cells.size = d.size ∧ z.cells.toList.all (·.oneCell') = true
 kind : jR P t d.size d.kind = true
theorem yf {S : Nat → Prop} {w : World} {ρ : Nat → Option Value} {x : Value} {v : V} (h : zp x v = true) : VRel S w ρ v x := by
 unfold zp at h
 split at h
 ·simp only [Bool.and_eq_true, beq_iff_eq] at h; simp only [VRel]; rw [h.1, h.2]
 ·simp only [beq_iff_eq] at h; simp only [VRel]; rw [h]
 ·simp only [beq_iff_eq] at h; simp only [VRel]; rw [← h]
 ·simp only [VRel]
 ·simp only [VRel]
 ·simp only [VRel]; exact ⟨trivial, rfl⟩
 ·cases h
theorem xh {S : Nat → Prop} {w : World} {ρ : Nat → Option Value} : ∀ {xs : List Value} {vs : List V}, yM xs vs = true → LRel S w ρ vs xs
 | [], [], h => by simp [LRel]
 | x :: r, v :: q, h => by
  simp only [yM, Bool.and_eq_true] at h
  exact ⟨x, r, rfl, yf h.1, xh h.2⟩
 | [], _ :: _, h => by cases h
 | _ :: _, [], h => by cases h
theorem Eu {S : Nat → Prop} {w : World} {ρ : Nat → Option Value} {x : Value} {v : V} (h : zEq x v = true) : VRel S w ρ v x := by
 unfold zEq at h
 split at h
 ·simp only [VRel]; exact ⟨_, rfl, xh h⟩
 ·exact yf h
theorem Fo {P : Program} {t : TypeId} {d : TD} (h : tdB P t d = true) : TdOk P t d := by
 unfold tdB at h
 split at h
 ·rename_i inf hi
  split at h
  ·rename_i z hz
   simp only [Bool.and_eq_true, beq_iff_eq] at h
   obtain ⟨⟨⟨⟨⟨h1, h2⟩, h3⟩, h4⟩, h5⟩, h6⟩ := h
   exact ⟨by simp [ew, hi, h1], ⟨z, by simp [hi, hz, h1, h2], fun S w ρ => Eu h3, h4, h6⟩, h5⟩
  ·cases h
 ·cases h
theorem TdOk.zeroT {P : Program} {t : TypeId} {d : TD} (h : TdOk P t d) : ∃ z, lr P t = some z ∧ ∀ S w ρ, LRel S w ρ d.zero.cells z := by
 obtain ⟨z, h1, h2, _⟩ := h.info
 obtain ⟨i0, hi0, hx0⟩ := Option.map_eq_some_iff.1 h1
 simp only [Prod.mk.injEq] at hx0
 exact ⟨z.cells.toList, by unfold Go.Proofs.YthnohcipianijaaGreatDoor.lr; simp [hi0, hx0.1], fun S w ρ => (h2 S w ρ).cells⟩
def TD.agg (d : TD) : Bool := match d.kind with
 | .struct _ => true
 | .arr _ _ => true
 | _ => false
theorem TdOk.sc {P : Program} {t : TypeId} {d : TD} (h : TdOk P t d) (ha : d.agg = false) : du P t = true := by
 have hk := h.kind
 unfold TD.agg at ha
 cases hd : d.kind with
 | sc => rw [hd] at hk; exact hk
 | bool => rw [hd] at hk; simp only [jR, Bool.and_eq_true] at hk; exact hk.1
 | str => rw [hd] at hk; simp only [jR, Bool.and_eq_true] at hk; exact hk.1
 | sl e => rw [hd] at hk; simp only [jR, Bool.and_eq_true] at hk; exact hk.1
 | struct fs => rw [hd] at ha; cases ha
 | arr _ _ => rw [hd] at ha; cases ha
theorem TdOk.ag {P : Program} {t : TypeId} {d : TD} (h : TdOk P t d) (ha : d.agg = true) : kR P t = some d.size := by
 have hk := h.kind
 unfold TD.agg at ha
 cases hd : d.kind with
 | struct fs => rw [hd] at hk; simp only [jR, Bool.and_eq_true, beq_iff_eq] at hk; exact hk.1.1
 | arr _ _ => rw [hd] at hk; simp only [jR, Bool.and_eq_true, beq_iff_eq] at hk; exact hk.1
 | _ => rw [hd] at ha; cases ha
theorem TdOk.bool {P : Program} {t : TypeId} {d : TD} (h : TdOk P t d) (hd : d.kind = .bool) : P.underlying t = some .bool := by
 have hk := h.kind
 rw [hd] at hk; simp only [jR, Bool.and_eq_true] at hk
 have := hk.2
 split at this
 ·assumption
 ·cases this
theorem TdOk.str {P : Program} {t : TypeId} {d : TD} (h : TdOk P t d) (hd : d.kind = .str) : P.underlying t = some .string := by
 have hk := h.kind
 rw [hd] at hk; simp only [jR, Bool.and_eq_true] at hk
 have := hk.2
 split at this
 ·assumption
 ·cases this
theorem TdOk.sl {P : Program} {t e : TypeId} {d : TD} (h : TdOk P t d) (hd : d.kind = .sl e) : P.underlying t = some (.slice e) := by
 have hk := h.kind
 rw [hd] at hk; simp only [jR, Bool.and_eq_true] at hk
 have := hk.2
 split at this
 ·rename_i e' hu; simp only [beq_iff_eq] at this; rw [this]; exact hu
 ·cases this
theorem TdOk.arr {P : Program} {t e : TypeId} {n : Nat} {d : TD} (h : TdOk P t d) (hd : d.kind = .arr n e) : P.underlying t = some (.array n e) := by
 have hk := h.kind
 rw [hd] at hk; simp only [jR, Bool.and_eq_true] at hk
 have := hk.2
 split at this
 ·rename_i n' e' hu; simp only [Bool.and_eq_true, beq_iff_eq] at this; rw [this.1, this.2]; exact hu
 ·cases this
theorem tn {P : Program} {t : TypeId} : ∀ {fs : List (Nat × Nat × Bool)} {k : Nat}, oZ P t k fs = true → ∀ i o s b, fs[i]? = some (o, s, b) → lA P t (k + i) = some o ∧ (b = true → nn P t (k + i) = some o) ∧ (b = false → nh P t (k + i) = some (o, s))
 | [], k, h, i, o, s, b, hi => by simp at hi
 | (o', s', b') :: r, k, h, 0, o, s, b, hi => by
  simp only [List.getElem?_cons_zero, Option.some.injEq, Prod.mk.injEq] at hi
  obtain ⟨rfl, rfl, rfl⟩ := hi
  simp only [oZ, Bool.and_eq_true, beq_iff_eq] at h
  refine ⟨h.1.2, fun hb => ?_, fun hb => ?_⟩
  ·subst hb; have := h.1.1; simpa using this
  ·subst hb; have := h.1.1; simpa using this
 | (o', s', b') :: r, k, h, i + 1, o, s, b, hi => by
  simp only [oZ, Bool.and_eq_true] at h
  have := tn h.2 i o s b (by simpa using hi)
  rw [show k + 1 + i = k + (i + 1) by omega] at this
  exact this
theorem TdOk.fields {P : Program} {t : TypeId} {d : TD} {fs : List (Nat × Nat × Bool)} (h : TdOk P t d) (hd : d.kind = .struct fs) : rt P t = some (fs.map fun p => (p.1, p.2.1)) ∧ ∀ i o s b, fs[i]? = some (o, s, b) → lA P t i = some o ∧ (b = true → nn P t i = some o) ∧ (b = false → nh P t i = some (o, s)) := by
 have hk := h.kind
 rw [hd] at hk; simp only [jR, Bool.and_eq_true, beq_iff_eq] at hk
 refine ⟨hk.1.2, fun i o s b hi => ?_⟩
 have := tn hk.2 i o s b hi
 rwa [Nat.zero_add] at this
structure TabOk (P : Program) (T : Tab) : Prop where
 ty : ∀ t d, T.ty t = some d → TdOk P t d
 fn : ∀ i f, T.fn i = some f → P.funcs[i]? = some f ∧ de P i = true
 nat : ∀ i vs v, T.nat i vs = some v → de P i = true ∧ ∀ S w ρ xs, LRel S w ρ vs xs → ∃ x, VRel S w ρ v x ∧ Calls P i xs.toArray w fun e w' => e = .returned x ∧ w = w'
structure FRel (S : Nat → Prop) (w : World) (ρ : Nat → Option Value) (a : Act) (n : Nat) (F : Fm) : Prop where
 size : a.tmps.size = n
 defers : a.defers = []
 len : F.length ≤ n
 get : ∀ i v, F.get i = some v → ∃ x, a.tmps[i]? = some x ∧ VRel S w ρ v x
section
variable {S S' : Nat → Prop} {w w' : World} {ρ ρ' : Nat → Option Value} {a : Act} {n : Nat} {F : Fm}
theorem FRel.fr (h : FRel S w ρ a n F) : Fr a n (fA a) := ⟨h.size, h.defers, fun _ _ h => h⟩
theorem FRel.up (u : Up S S' w w' ρ ρ') (h : FRel S w ρ a n F) : FRel S' w' ρ' a n F :=
 ⟨h.size, h.defers, h.len, fun i v hv => by obtain ⟨x, h1, h2⟩ := h.get i v hv; exact ⟨x, h1, h2.up u⟩⟩
theorem FRel.set (h : FRel S w ρ a n F) (d : Option Tmp) {v : Option V} {x : Value} (hx : ∀ u, v = some u → VRel S w ρ u x) : FRel S w ρ (a.put d x) n (F.seto d v) := by
 cases d with
 | none => exact h
 | some d =>
  refine ⟨by simp [Act.put, h.size], h.defers, by simp [Fm.seto]; exact h.len, fun i u hu => ?_⟩
  simp only [Fm.seto, Fm.get_eq, List.getElem?_set] at hu
  simp only [Act.put, Array.getElem?_setIfInBounds, h.size]
  by_cases hid : d = i
  ·subst hid
   simp only [if_true] at hu ⊢
   split at hu
   ·rename_i hlt
    simp only [Option.bind_some, id_eq] at hu
    exact ⟨x, by simp [Nat.lt_of_lt_of_le hlt h.len], hx u hu⟩
   ·cases hu
  ·simp only [if_neg hid] at hu ⊢
   exact h.get i u (by rw [Fm.get_eq]; exact hu)
end
def zl : Value → Option V
 | .int k n => some (.int k n)
 | .bool b => some (.bool b)
 | .string s => some (.str s.data.toList)
 | .pointer none => some .nilp
 | .slice none 0 0 => some .nils
 | _ => none
def vr : List Value → Option (List V)
 | [] => some []
 |v :: r => match zl v with
  |some x => match vr r with
   | some xs => some (x :: xs)
   | none => none
  | none => none
def ofV : Value → Option V
 |.agg cs => match vr cs.toList with
  | some l => some (.agg l)
  | none => none
 | v => zl v
def aJ (F : Fm) : Operand → Option V
 | .tmp t => F.get t
 | .const v => ofV v
 | _ => none
def gl (F : Fm) : List Operand → Option (List V)
 | [] => some []
 |x :: r => match aJ F x with
  |some v => match gl F r with
   | some vs => some (v :: vs)
   | none => none
  | none => none
def jA (F : Fm) : List (Nat × Operand) → Option (List (Nat × V))
 | [] => some []
 |(i, x) :: r => match aJ F x with
  |some v => match jA F r with
   | some vs => some ((i, v) :: vs)
   | none => none
  | none => none
section
variable {S S' : Nat → Prop} {w w' : World} {ρ ρ' : Nat → Option Value} {a : Act} {n : Nat} {F : Fm}
theorem xR {x : Value} {v : V} (h : zl x = some v) : VRel S w ρ v x := by
 unfold zl at h
 split at h <;> first | (simp only [Option.some.injEq] at h; subst h; simp only [VRel]; done) | cases h
theorem xU : ∀ {xs : List Value} {vs : List V}, vr xs = some vs → LRel S w ρ vs xs
 | [], vs, h => by simp only [vr, Option.some.injEq] at h; subst h; simp [LRel]
 | x :: r, vs, h => by
  simp only [vr] at h
  split at h
  ·rename_i v hv
   split at h
   ·rename_i us hu
    simp only [Option.some.injEq] at h; subst h
    exact ⟨x, r, rfl, xR hv, xU hu⟩
   ·cases h
  ·cases h
theorem Eb {x : Value} {v : V} (h : ofV x = some v) : VRel S w ρ v x := by
 unfold ofV at h
 split at h
 ·split at h
  ·rename_i l hl
   simp only [Option.some.injEq] at h; subst h
   simp only [VRel]; exact ⟨_, rfl, xU hl⟩
  ·cases h
 ·exact xR h
theorem al (hF : FRel S w ρ a n F) {x : Operand} {v : V} (h : aJ F x = some v) : Opd S w ρ a x v := by
 unfold aJ at h
 split at h
 ·rename_i t
  obtain ⟨y, h1, h2⟩ := hF.get t v h
  exact ⟨y, h1, h2⟩
 ·rename_i c
  exact ⟨c, rfl, Eb h⟩
 ·cases h
theorem lJ (hF : FRel S w ρ a n F) : ∀ {l : List Operand} {vs : List V}, gl F l = some vs → ∃ xs, rk (fA a) l = some xs ∧ LRel S w ρ vs xs
 | [], vs, h => by simp only [gl, Option.some.injEq] at h; subst h; exact ⟨[], rfl, by simp [LRel]⟩
 | x :: r, vs, h => by
  simp only [gl] at h
  split at h
  ·rename_i v hv
   split at h
   ·rename_i us hu
    simp only [Option.some.injEq] at h; subst h
    obtain ⟨y, h1, h2⟩ := al hF hv
    obtain ⟨ys, h3, h4⟩ := lJ hF hu
    exact ⟨y :: ys, by simp only [rk, h1, h3], ⟨y, ys, rfl, h2, h4⟩⟩
   ·cases h
  ·cases h
theorem my (hF : FRel S w ρ a n F) : ∀ {l : List (Nat × Operand)} {vs : List (Nat × V)}, jA F l = some vs → ∃ ys, dP (fA a) l = some ys ∧ PRel S w ρ vs ys
 | [], vs, h => by simp only [jA, Option.some.injEq] at h; subst h; exact ⟨[], rfl, by simp [PRel]⟩
 | (i, x) :: r, vs, h => by
  simp only [jA] at h
  split at h
  ·rename_i v hv
   split at h
   ·rename_i us hu
    simp only [Option.some.injEq] at h; subst h
    obtain ⟨y, h1, h2⟩ := al hF hv
    obtain ⟨ys, h3, h4⟩ := my hF hu
    exact ⟨(i, y) :: ys, by simp only [dP, h1, h3], ⟨y, ys, rfl, h2, h4⟩⟩
   ·cases h
  ·cases h
end
end Go.Proofs.YthnohcipianijaaGreatDoor
namespace Go.Proofs.YthnohcipianijaaGreatDoor
open Go.RowKit
def iEq : Int → Int → Bool
 | .ofNat a, .ofNat b => Nat.beq a b
 | .negSucc a, .negSucc b => Nat.beq a b
 | _, _ => false
def iLt : Int → Int → Bool
 | .ofNat a, .ofNat b => Nat.blt a b
 | .negSucc a, .negSucc b => Nat.blt b a
 | .negSucc _, .ofNat _ => true
 | .ofNat _, .negSucc _ => false
def inR : Int → Bool
 | .ofNat a => Nat.ble a 9223372036854775807
 | .negSucc a => Nat.ble a 9223372036854775807
def lEq : List UInt8 → List UInt8 → Bool
 | [], [] => true
 |a :: r, b :: q => match Nat.beq a.toNat b.toNat with
  | true => lEq r q
  | false => false
 | _, _ => false
def kEq : IntKind → IntKind → Bool
 | .i64, .i64 => true
 | .u8, .u8 => true
 | _, _ => false
theorem qK (m l : Int) : iEq m l = (m == l) := by
 rw [Bool.eq_iff_iff]; cases m <;> cases l <;> simp [iEq] <;> omega
theorem oK (m l : Int) : iLt m l = decide (m < l) := by
 rw [Bool.eq_iff_iff]; cases m <;> cases l <;> simp [iLt] <;> omega
theorem DY {n : Int} (h : inR n = true) : -9223372036854775808 ≤ n ∧ n ≤ 9223372036854775807 := by
 cases n with
 | ofNat a => simp only [inR, Nat.ble_eq] at h; simp only [Int.ofNat_eq_natCast]; omega
 | negSucc a => simp only [inR, Nat.ble_eq] at h; omega
theorem oF : ∀ (m l : List UInt8), lEq m l = (m == l)
 | [], [] => rfl
 | [], _ :: _ => rfl
 | _ :: _, [] => rfl
 | a :: r, b :: q => by
  simp only [lEq]
  split
  ·rename_i hb
   have : a = b := UInt8.toNat_inj.1 (Nat.eq_of_beq_eq_true hb)
   subst this
   simp [oF r q]
  ·rename_i hb
   have : a ≠ b := fun e => by subst e; simp at hb
   simp [this]
theorem Ed {k k' : IntKind} (h : kEq k k' = true) : k = k' := by
 unfold kEq at h; split at h <;> first | rfl | cases h
def mkB (b : Bool) : Option V := match b with
 | true => some (.bool true)
 | false => some (.bool false)
theorem Ex (b : Bool) : mkB b = some (.bool b) := by cases b <;> rfl
def lZ (f : Bool) (fast slow : Bool) : Option V := match f with
 | true => mkB fast
 | false => some (.bool slow)
theorem gv {f fast slow : Bool} {v : V} (he : fast = slow) (h : lZ f fast slow = some v) : v = .bool slow := by
 subst he
 unfold lZ at h
 split at h
 ·rw [Ex] at h; simpa using h.symm
 ·simpa using h.symm
def ze (f : Bool) (k : IntKind) (n : Int) : Option V := match f with
 |true => match k with
  |.i64 => yr n fun n => match inR n with
   | true => some (.int .i64 n)
   | false => none
  | _ => none
 | false => some (.int k (k.wrap n))
theorem xe {f : Bool} {k : IntKind} {n : Int} {v : V} (h : ze f k n = some v) : v = .int k (k.wrap n) := by
 unfold ze at h
 split at h
 ·split at h
  ·rw [wY] at h
   split at h
   ·rename_i hr
    have e : IntKind.i64.wrap n = n := IntWalk.i64_in _ (by have := DY hr; omega)
    rw [e]; simpa using h.symm
   ·cases h
  ·cases h
 ·simpa using h.symm
def Bi (T : Tab) (op : BinOp) (t : TypeId) : V → V → Option V
 |.int k m, .int k' l => match kEq k k' with
  | false => none
  |true => match op with
   | .eql => lZ T.frc (iEq m l) (m == l)
   | .neq => lZ T.frc (!iEq m l) (m != l)
   | .lss => lZ T.frc (iLt m l) (decide (m < l))
   | .gtr => lZ T.frc (iLt l m) (decide (l < m))
   | .leq => lZ T.frc (!iLt l m) (decide (m ≤ l))
   | .geq => lZ T.frc (!iLt m l) (decide (l ≤ m))
   | .add => ze T.frc k (m + l)
   | .sub => ze T.frc k (m - l)
   | _ => none
 |.str m, .str l => match op with
  | .eql => lZ T.frc (lEq m l) (m == l)
  | .neq => lZ T.frc (!lEq m l) (m != l)
  |.add => match T.frc with
   |true => match Nat.ble (m.length + l.length) 9223372036854775807 with
    | true => listK (m ++ l) fun r => some (.str r)
    | false => none
   | false => none
  | _ => none
 |.bool m, .bool l => match T.ty t with
  |some ⟨_, _, _, .bool⟩ => match op with
   | .eql => lZ T.frc (m == l) (m == l)
   | .neq => lZ T.frc (m != l) (m != l)
   | _ => none
  | _ => none
 | _, _ => none
def atV : List V → Nat → Option V
 | [], _ => none
 | x :: _, 0 => some x
 | _ :: r, i + 1 => atV r i
theorem ll : ∀ (l : List V) (i : Nat), atV l i = l[i]?
 | [], i => by simp [atV]
 | x :: r, 0 => by simp [atV]
 | x :: r, i + 1 => by simp [atV, ll r i]
def atB : List UInt8 → Nat → Option UInt8
 | [], _ => none
 | x :: _, 0 => some x
 | _ :: r, i + 1 => atB r i
theorem AN : ∀ (l : List UInt8) (i : Nat), atB l i = l[i]?
 | [], i => by simp [atB]
 | x :: r, 0 => by simp [atB]
 | x :: r, i + 1 => by simp [atB, AN r i]
def atF : List (Nat × Nat × Bool) → Nat → Option (Nat × Nat × Bool)
 | [], _ => none
 | x :: _, 0 => some x
 | _ :: r, i + 1 => atF r i
theorem we : ∀ (l : List (Nat × Nat × Bool)) (i : Nat), atF l i = l[i]?
 | [], i => by simp [atF]
 | x :: r, 0 => by simp [atF]
 | x :: r, i + 1 => by simp [atF, we r i]
def zf (T : Tab) (t : TypeId) (i : Nat) : Option (Nat × Nat × Bool) := match T.ty t with
 | some ⟨_, _, _, .struct fs⟩ => atF fs i
 | _ => none
def rx : List V → Nat → List V
 | l, 0 => l
 | [], _ + 1 => []
 | _ :: r, i + 1 => rx r i
theorem pL : ∀ (l : List V) (i : Nat), rx l i = l.drop i
 | [], 0 => rfl
 | _ :: _, 0 => rfl
 | [], i + 1 => by simp [rx]
 | _ :: r, i + 1 => by simp [rx, pL r i]
def qa {α : Type} : List V → Nat → (List V → Option α) → Option α
 | _, 0, c => c []
 | [], _ + 1, _ => none
 | x :: r, i + 1, c => qa r i fun r' => c (x :: r')
theorem pH {α : Type} : ∀ {l : List V} {i : Nat} {c : List V → Option α} {v : α}, qa l i c = some v → i ≤ l.length ∧ c (l.take i) = some v
 | l, 0, c, v, h => by simpa [qa] using h
 | [], i + 1, c, v, h => by simp [qa] at h
 | x :: r, i + 1, c, v, h => by
  simp only [qa] at h
  have := pH h
  simpa using this
def mj (d : TD) (cs : List V) (o : Nat) : Option V := match d.agg with
 |true => match Nat.blt 0 d.size with
  | true => qa (rx cs o) d.size fun l => some (.agg l)
  | false => none
 | false => atV cs o
def Cn (f : Bool) (m l : Int) : Option V := match f with
 |true => match iLt m l with
  | true => some (.int .i64 l)
  | false => some (.int .i64 m)
 | false => some (.int .i64 (max m l))
theorem Dl {f : Bool} {m l : Int} {v : V} (h : Cn f m l = some v) : v = .int .i64 (max m l) := by
 unfold Cn at h
 split at h
 ·split at h
  ·rename_i hb
   rw [oK] at hb
   simp only [decide_eq_true_eq] at hb
   injection h with h; rw [← h, Int.max_eq_right (by omega)]
  ·rename_i hb
   rw [oK] at hb
   simp only [decide_eq_false_iff_not] at hb
   injection h with h; rw [← h, Int.max_eq_left (by omega)]
 ·injection h with h; exact h.symm
def kI (T : Tab) (h : Nat → Ob) (F : Fm) (op : Op) : Option V :=
 match op with
 | .move x => aJ F x
 | .assign x => aJ F x
 |.pick c x y => match aJ F c with
  | some (.bool true) => aJ F x
  | some (.bool false) => aJ F y
  | _ => none
 |.nilCheck x => match aJ F x with
  | some (.ptr id o) => some (.ptr id o)
  | some (.el id sz i o) => some (.el id sz i o)
  | some (.box cs o) => some (.box cs o)
  | _ => none
 |.extract x i => match aJ F x with
  | some (.tup vs) => atV vs i
  | _ => none
 |.unOp .not _ x => match aJ F x with
  | some (.bool b) => lZ T.frc (!b) (!b)
  | _ => none
 |.fieldAddr t x i => match zf T t i with
  |some (k, _, _) => match aJ F x with
   | some (.ptr id o) => eD (o + k) fun r => some (.ptr id r)
   | some (.el id sz j o) => eD (o + k) fun r => some (.el id sz j r)
   | some (.box cs o) => eD (o + k) fun r => some (.box cs r)
   | _ => none
  | none => none
 |.field t x i => match aJ F x with
  |some (.agg cs) => match zf T t i with
   | some (k, _, true) => atV cs k
   | some (k, m, false) => qa (rx cs k) m fun l => some (.agg l)
   | none => none
  | _ => none
 |.binOp op t x y _ => match aJ F x with
  |some a => match aJ F y with
   | some b => Bi T op t a b
   | none => none
  | none => none
 |.call ⟨.builtin .len, ⟨[x]⟩, ⟨[t]⟩⟩ => match T.ty t with
  |some ⟨_, _, _, .sl _⟩ => match aJ F x with
   | some .nils => some (.int .i64 0)
   |some (.row _ els) => match T.frc with
    | true => eD els.length fun n => some (.int .i64 (.ofNat n))
    | false => some (.int .i64 els.length)
   |some (.sl id) => match h id with
    |.row _ _ els => match T.frc with
     | true => eD els.length fun n => some (.int .i64 (.ofNat n))
     | false => some (.int .i64 els.length)
    | _ => none
   | _ => none
  |some ⟨_, _, _, .str⟩ => match aJ F x with
   |some (.str l) => match T.frc with
    | true => eD l.length fun n => some (.int .i64 (.ofNat n))
    | false => some (.int .i64 l.length)
   | _ => none
  | _ => none
 |.call ⟨.builtin .max, ⟨[x, y]⟩, ⟨[t, u]⟩⟩ => match aJ F x with
  |some (.int .i64 m) => match aJ F y with
   | some (.int .i64 l) => Cn T.frc m l
   | _ => none
  | _ => none
 |.index t x y => match T.ty t with
  |some ⟨_, _, _, .str⟩ => match aJ F x with
   |some (.str l) => match aJ F y with
    |some (.int .i64 (.ofNat i)) => match atB l i with
     | some c => eD c.toNat fun c => some (.int .u8 (.ofNat c))
     | none => none
    | _ => none
   | _ => none
  | _ => none
 |.indexAddr t x y => match T.ty t with
  |some ⟨_, _, _, .sl e⟩ => match T.ty e with
   |some d => match aJ F x with
    |some (.row sz els) => match aJ F y with
     |some (.int .i64 (.ofNat i)) => match Nat.beq sz d.size with
      |true => match atV els i with
       | some v => listK v.cells fun cs => some (.box cs 0)
       | none => none
      | false => none
     | _ => none
    |some (.sl id) => match h id with
     |.row _ sz els => match aJ F y with
      |some (.int .i64 (.ofNat i)) => match Nat.beq sz d.size && Nat.blt i els.length with
       | true => some (.el id sz i 0)
       | false => none
      | _ => none
     | _ => none
    | _ => none
   | none => none
  | _ => none
 |.build t ⟨ps⟩ => match T.ty t with
  |some ⟨_, _, z, .struct fs⟩ => match jA F ps with
   |some vs => match nS (fun i => match atF fs i with | some (o, s, _) => some (o, s) | none => none) z.cells vs with
    | some cs => listK cs fun cs => some (.agg cs)
    | none => none
   | none => none
  |some ⟨_, _, z, .arr _ e⟩ => match T.ty e with
   |some d => match jA F ps with
    |some vs => match nS (fun i => some (i * d.size, d.size)) z.cells vs with
     | some cs => listK cs fun cs => some (.agg cs)
     | none => none
    | none => none
   | none => none
  | _ => none
 |.slice t x lo hi none => match T.ty t with
  |some ⟨_, _, _, .str⟩ => match aJ F x with
   |some (.str l) => match (match lo with | none => some (V.int .i64 (.ofNat 0)) | some y => aJ F y) with
    |some (.int .i64 (.ofNat i)) => match (match hi with | none => some (V.int .i64 (.ofNat l.length)) | some y => aJ F y) with
     |some (.int .i64 (.ofNat j)) => match Nat.ble i j && Nat.ble j l.length with
      | true => listK ((l.drop i).take (j - i)) fun r => some (.str r)
      | false => none
     | _ => none
    | _ => none
   | _ => none
  |some ⟨_, _, _, .sl e⟩ => match T.ty e with
   |some d => match aJ F x with
    |some (.row sz els) => match (match lo with | none => some (V.int .i64 (.ofNat 0)) | some y => aJ F y) with
     |some (.int .i64 (.ofNat i)) => match (match hi with | none => some (V.int .i64 (.ofNat els.length)) | some y => aJ F y) with
      |some (.int .i64 (.ofNat j)) => match Nat.ble i j && Nat.ble j els.length && Nat.beq sz d.size with
       | true => listK ((els.drop i).take (j - i)) fun r => some (.row sz r)
       | false => none
      | _ => none
     | _ => none
    | _ => none
   | none => none
  | _ => none
 |.load t x => match aJ F x with
  |some (.box cs o) => match T.ty t with
   | some d => mj d cs o
   | none => none
  | _ => none
 | _ => none
section
variable {P : Program} {T : Tab} {S : Nat → Prop} {w : World} {ρ : Nat → Option Value} {h : Nat → Ob} {a : Act} {n : Nat} {F : Fm} {ty : TypeId}
theorem FI {t u : TypeId} {x y : Operand} {k : IntKind} {m l : Int} (fr : Fr a n (fA a)) (hx : Opd S w ρ a x (.int k m)) (hy : Opd S w ρ a y (.int k l)) : Yld P S w ρ a ty (.binOp .add t x y u) (.int k (k.wrap (m + l))) :=
 ⟨.int k (k.wrap (m + l)), by simp only [VRel], fun w' _ _ _ _ _ => by simp only [execOp, fr.eval (aX hx), fr.eval (aX hy)]; simp [go_sem, eqGuard]⟩
theorem EO {t u : TypeId} {x y : Operand} {k : IntKind} {m l : Int} (fr : Fr a n (fA a)) (hx : Opd S w ρ a x (.int k m)) (hy : Opd S w ρ a y (.int k l)) : Yld P S w ρ a ty (.binOp .sub t x y u) (.int k (k.wrap (m - l))) :=
 ⟨.int k (k.wrap (m - l)), by simp only [VRel], fun w' _ _ _ _ _ => by simp only [execOp, fr.eval (aX hx), fr.eval (aX hy)]; simp [go_sem, eqGuard]⟩
theorem Ah (m l : List UInt8) : (ByteArray.mk m.toArray ++ ByteArray.mk l.toArray) = ⟨(m ++ l).toArray⟩ := by
 apply ByteArray.ext; simp [ByteArray.data_append]
theorem EC {t u : TypeId} {x y : Operand} {m l : List UInt8} (fr : Fr a n (fA a)) (hx : Opd S w ρ a x (.str m)) (hy : Opd S w ρ a y (.str l)) (hl : m.length + l.length ≤ 9223372036854775807) : Yld P S w ρ a ty (.binOp .add t x y u) (.str (m ++ l)) :=
 ⟨.string ⟨(m ++ l).toArray⟩, by simp only [VRel], fun w' _ _ _ _ _ => by simp only [execOp, fr.eval (gz hx), fr.eval (gz hy)]; simp [go_sem, eqGuard, Ah, show ¬ 9223372036854775807 < m.length + l.length by omega]⟩
theorem Do (hT : TabOk P T) {op : BinOp} {t u : TypeId} {x y : Operand} {c d v : V} (fr : Fr a n (fA a)) (hx : Opd S w ρ a x c) (hy : Opd S w ρ a y d) (hv : Bi T op t c d = some v) : Yld P S w ρ a ty (.binOp op t x y u) v := by
 unfold Bi at hv
 split at hv
 ·split at hv
  ·cases hv
  ·rename_i hk
   have := Ed hk
   subst this
   split at hv
   ·rw [gv (qK _ _) hv]; exact Gg fr hx hy
   ·rw [gv (by rw [qK]; rfl) hv]; exact Gp fr hx hy
   ·rw [gv (oK _ _) hv]; exact FZ fr hx hy
   ·rw [gv (oK _ _) hv]; exact Gv fr hx hy
   ·rw [gv (by rw [oK, Bool.eq_iff_iff]; simp) hv]; exact Gu fr hx hy
   ·rw [gv (by rw [oK, Bool.eq_iff_iff]; simp) hv]; exact FP fr hx hy
   ·rw [xe hv]; exact FI fr hx hy
   ·rw [xe hv]; exact EO fr hx hy
   ·cases hv
 ·split at hv
  ·rw [gv (oF _ _) hv]; exact Gb fr hx hy
  ·rw [gv (by rw [oF]; rfl) hv]; exact Gx fr hx hy
  ·split at hv
   ·split at hv
    ·rename_i hb
     rw [bZ] at hv
     simp only [Option.some.injEq] at hv; subst hv
     exact EC fr hx hy (by simpa using hb)
    ·cases hv
   ·cases hv
  ·cases hv
 ·split at hv
  ·rename_i hd
   have ht := (hT.ty _ _ hd).bool rfl
   split at hv
   ·rw [gv rfl hv]; exact Gl fr ht hx hy
   ·rw [gv rfl hv]; exact Gs fr ht hx hy
   ·cases hv
  ·cases hv
 ·cases hv
theorem tQ (hT : TabOk P T) {t : TypeId} {i o s : Nat} {b : Bool} (hf : zf T t i = some (o, s, b)) : lA P t i = some o ∧ (b = true → nn P t i = some o) ∧ (b = false → nh P t i = some (o, s)) := by
 unfold zf at hf
 split at hf
 ·rename_i hd
  rw [we] at hf
  exact ((hT.ty _ _ hd).fields rfl).2 i o s b hf
 ·cases hf
theorem pu (hT : TabOk P T) (hr : HRel S w ρ h) (hF : FRel S w ρ a n F) {op : Op} {v : V} (hv : kI T h F op = some v) : Yld P S w ρ a ty op v := by
 have fr := hF.fr
 unfold kI at hv
 split at hv
 ·exact ET fr (al hF hv)
 ·exact Ca fr (al hF hv)
 ·split at hv
  ·exact DN fr (al hF ‹_›) (al hF hv)
  ·exact DP fr (al hF ‹_›) (al hF hv)
  ·cases hv
 ·split at hv
  ·injection hv with hv; subst hv; exact Fa fr (al hF ‹_›)
  ·injection hv with hv; subst hv; exact EQ fr (al hF ‹_›)
  ·injection hv with hv; subst hv; exact Fg fr (al hF ‹_›)
  ·cases hv
 ·split at hv
  ·rw [ll] at hv; exact FY fr (al hF ‹_›) hv
  ·cases hv
 ·split at hv
  ·rw [gv rfl hv]; exact GA fr (al hF ‹_›)
  ·cases hv
 ·split at hv
  ·rename_i hfl
   have hfo := (tQ hT hfl).1
   split at hv
   ·rw [cD] at hv; injection hv with hv; subst hv; exact GB fr (al hF ‹_›) hfo
   ·rw [cD] at hv; injection hv with hv; subst hv; exact Gz fr (al hF ‹_›) hfo
   ·rw [cD] at hv; injection hv with hv; subst hv; exact Gw fr (al hF ‹_›) hfo
   ·cases hv
  ·cases hv
 ·split at hv
  ·split at hv
   ·rename_i hfl
    rw [ll] at hv
    exact GU fr (al hF ‹_›) ((tQ hT hfl).2.1 rfl) hv
   ·rename_i hfl
    obtain ⟨_, hv⟩ := pH hv
    rw [pL] at hv
    injection hv with hv; subst hv
    exact FU fr (al hF ‹_›) ((tQ hT hfl).2.2 rfl)
   ·cases hv
  ·cases hv
 ·split at hv
  ·split at hv
   ·exact Do hT fr (al hF ‹_›) (al hF ‹_›) hv
   ·cases hv
  ·cases hv
 ·split at hv
  ·rename_i hd
   have ht := (hT.ty _ _ hd).sl rfl
   split at hv
   ·injection hv with hv; subst hv; exact Fv fr ht (al hF ‹_›)
   ·split at hv
    ·rw [cD] at hv; injection hv with hv; subst hv; exact Ae fr ht (al hF ‹_›)
    ·injection hv with hv; subst hv; exact Ae fr ht (al hF ‹_›)
   ·split at hv
    ·split at hv
     ·rw [cD] at hv; injection hv with hv; subst hv; exact Ay hr ‹_› fr ht (al hF ‹_›)
     ·injection hv with hv; subst hv; exact Ay hr ‹_› fr ht (al hF ‹_›)
    ·cases hv
   ·cases hv
  ·rename_i hd
   have ht := (hT.ty _ _ hd).str rfl
   split at hv
   ·split at hv
    ·rw [cD] at hv; injection hv with hv; subst hv; exact zZ fr ht (al hF ‹_›)
    ·injection hv with hv; subst hv; exact zZ fr ht (al hF ‹_›)
   ·cases hv
  ·cases hv
 ·split at hv
  ·split at hv
   ·rw [Dl hv]; exact DW fr (al hF ‹_›) (al hF ‹_›)
   ·cases hv
  ·cases hv
 ·split at hv
  ·rename_i hd
   have ht := (hT.ty _ _ hd).str rfl
   split at hv
   ·split at hv
    ·split at hv
     ·rename_i hb
      rw [AN] at hb
      rw [cD] at hv; injection hv with hv; subst hv
      exact Fb fr ht (al hF ‹_›) (al hF ‹_›) hb
     ·cases hv
    ·cases hv
   ·cases hv
  ·cases hv
 ·split at hv
  ·rename_i hd
   have ht := (hT.ty _ _ hd).sl rfl
   split at hv
   ·rename_i d he
    have hz := (hT.ty _ _ he).size
    split at hv
    ·split at hv
     ·split at hv
      ·rename_i hb
       have := Nat.eq_of_beq_eq_true hb
       subst this
       split at hv
       ·rename_i hi
        rw [ll] at hi
        rw [bZ] at hv
        injection hv with hv; subst hv
        exact p_idxR fr ht hz (al hF ‹_›) (al hF ‹_›) hi
       ·cases hv
      ·cases hv
     ·cases hv
    ·split at hv
     ·split at hv
      ·split at hv
       ·rename_i hb
        simp only [Bool.and_eq_true, Nat.beq_eq, Nat.blt_eq] at hb
        obtain ⟨rfl, hlt⟩ := hb
        injection hv with hv; subst hv
        exact p_idxO hr ‹_› fr ht hz (al hF ‹_›) (al hF ‹_›) hlt
       ·cases hv
      ·cases hv
     ·cases hv
    ·cases hv
   ·cases hv
  ·cases hv
 ·split at hv
  ·rename_i fs hd
   have hf := (hT.ty _ _ hd).fields rfl
   obtain ⟨z, hz1, hz2⟩ := (hT.ty _ _ hd).zeroT
   split at hv
   ·rename_i vs hps
    obtain ⟨ys, g1, g2⟩ := my hF hps
    split at hv
    ·rename_i cs hfl
     rw [bZ] at hv; injection hv with hv; subst hv
     refine DQ fr g1 g2 hz1 (hz2 _ _ _) hf.1 (fun i p hp => ?_) hfl
     rw [we] at hp
     split at hp
     ·rename_i o s b hi
      simp only [Option.some.injEq] at hp; subst hp
      simp [hi]
     ·cases hp
    ·cases hv
   ·cases hv
  ·rename_i e hd
   have ht := (hT.ty _ _ hd).arr rfl
   obtain ⟨z, hz1, hz2⟩ := (hT.ty _ _ hd).zeroT
   split at hv
   ·rename_i d he
    have hz := (hT.ty _ _ he).size
    split at hv
    ·rename_i vs hps
     obtain ⟨ys, g1, g2⟩ := my hF hps
     split at hv
     ·rename_i cs hfl
      rw [bZ] at hv; injection hv with hv; subst hv
      exact Bv fr g1 g2 hz1 (hz2 _ _ _) ht hz hfl
     ·cases hv
    ·cases hv
   ·cases hv
  ·cases hv
 ·rename_i t x lo hi
  split at hv
  ·rename_i hd
   have ht := (hT.ty _ _ hd).str rfl
   split at hv
   ·split at hv
    ·rename_i i hi1
     split at hv
     ·rename_i j hj1
      split at hv
      ·rename_i hb
       simp only [Bool.and_eq_true, Nat.ble_eq] at hb
       rw [bZ] at hv; injection hv with hv; subst hv
       refine CA fr ht (al hF ‹_›) ?_ ?_ hb.1 hb.2
       ·cases lo with
        | none => injection hi1 with hi1; injection hi1 with _ hi1; injection hi1 with hi1; exact .inl ⟨rfl, hi1.symm⟩
        | some y => exact .inr ⟨y, rfl, al hF hi1⟩
       ·cases hi with
        | none => injection hj1 with hj1; injection hj1 with _ hj1; injection hj1 with hj1; exact .inl ⟨rfl, hj1.symm⟩
        | some y => exact .inr ⟨y, rfl, al hF hj1⟩
      ·cases hv
     ·cases hv
    ·cases hv
   ·cases hv
  ·rename_i hd
   have ht := (hT.ty _ _ hd).sl rfl
   split at hv
   ·rename_i d he
    have hz := (hT.ty _ _ he).size
    split at hv
    ·split at hv
     ·rename_i i hi1
      split at hv
      ·rename_i j hj1
       split at hv
       ·rename_i hb
        simp only [Bool.and_eq_true, Nat.ble_eq, Nat.beq_eq] at hb
        obtain ⟨⟨hb1, hb2⟩, rfl⟩ := hb
        rw [bZ] at hv; injection hv with hv; subst hv
        refine CI fr ht hz (al hF ‹_›) ?_ ?_ hb1 hb2
        ·cases lo with
         | none => injection hi1 with hi1; injection hi1 with _ hi1; injection hi1 with hi1; exact .inl ⟨rfl, hi1.symm⟩
         | some y => exact .inr ⟨y, rfl, al hF hi1⟩
        ·cases hi with
         | none => injection hj1 with hj1; injection hj1 with _ hj1; injection hj1 with hj1; exact .inl ⟨rfl, hj1.symm⟩
         | some y => exact .inr ⟨y, rfl, al hF hj1⟩
       ·cases hv
      ·cases hv
     ·cases hv
    ·cases hv
   ·cases hv
  ·cases hv
 ·split at hv
  ·rename_i cs o hx
   split at hv
   ·rename_i d hd
    have td := hT.ty _ _ hd
    unfold mj at hv
    split at hv
    ·rename_i ha
     split at hv
     ·rename_i h0
      obtain ⟨hl, hv⟩ := pH hv
      rw [pL] at hv hl
      injection hv with hv; subst hv
      have h0' : 0 < d.size := by simpa using h0
      exact BT fr (td.ag ha) (al hF hx) (by simp at hl; omega)
     ·cases hv
    ·rename_i ha
     rw [ll] at hv
     exact Df fr (td.sc ha) (al hF hx) hv
   ·cases hv
  ·cases hv
 ·cases hv
end
end Go.Proofs.YthnohcipianijaaGreatDoor
namespace Go.Proofs.YthnohcipianijaaGreatDoor
open Go.RowKit
inductive ED where
 | nop
 | new (o : Ob)
 | set (id : Nat) (o : Ob)
 | repl (id : Nat) (o : Ob)
def ED.app (h : Nat → Ob) (nid : Nat) : ED → Nat → Ob
 | .nop => h
 | .new o => bV h nid o
 | .set id o => bV h id o
 | .repl id o => bV (bV h id .gone) nid o
def ED.tch : ED → Nat → Prop
 | .nop, _ => False
 | .new _, _ => False
 | .set id _, i => i = id
 | .repl id _, i => i = id
def wB (h : Nat → Ob) (sz : Nat) : V → Option (List V)
 | .nils => some []
 |.row sz' els => match Nat.beq sz sz' with
  | true => some els
  | false => none
 |.sl g => match h g with
  |.row _ sz' els => match Nat.beq sz sz' with
   | true => some els
   | false => none
  | _ => none
 | _ => none
def jZ (T : Tab) (h : Nat → Ob) (F : Fm) (nid : Nat) (op : Op) : Option (Option V × ED) :=
 match op with
 |.load t x => match aJ F x with
  |some (.ptr id o) => match T.ty t with
   |some d => match h id with
    |.var _ cs => match mj d cs o with
     | some v => some (some v, .nop)
     | none => none
    | _ => none
   | none => none
  |some (.el id sz i o) => match T.ty t with
   |some d => match h id with
    |.row _ sz' els => match Nat.beq sz sz' with
     |true => match atV els i with
      |some v0 => match mj d v0.cells o with
       | some v => some (some v, .nop)
       | none => none
      | none => none
     | false => none
    | _ => none
   | none => none
  | _ => none
 |.alloc t => match T.ty t with
  | some d => listK d.zero.cells fun cs => some (some (.ptr nid 0), .new (.var t cs))
  | none => none
 |.box t x => match aJ F x with
  | some v => listK v.cells fun cs => some (some (.ptr nid 0), .new (.var t cs))
  | none => none
 |.store t x y => match T.ty t with
  |some d => match aJ F y with
   |some v => match Nat.beq v.cells.length d.size && v.cells.all V.one with
    |true => match aJ F x with
     |some (.ptr id o) => match h id with
      |.var tb cs => match Nat.ble (o + d.size) cs.length with
       | true => listK (nN cs o v.cells) fun cs => some (none, .set id (.var tb cs))
       | false => none
      | _ => none
     |some (.el id sz i o) => match h id with
      |.row e sz' els => match Nat.beq sz sz' with
       |true => match atV els i with
        |some v0 => match Nat.ble (o + d.size) v0.cells.length with
         |true => match v0 with
          | .agg cs => listK (els.set i (V.over (.agg cs) o v.cells)) fun els => some (none, .set id (.row e sz els))
          |v0 => match v.one with
           | true => listK (els.set i (v0.over o v.cells)) fun els => some (none, .set id (.row e sz els))
           | false => none
         | false => none
        | none => none
       | false => none
      | _ => none
     | _ => none
    | false => none
   | none => none
  | none => none
 |.buildSlice t m ⟨ps⟩ => match T.ty t with
  |some ⟨_, _, _, .sl e⟩ => match T.ty e with
   |some d => match jA F ps with
    |some vs => match iz d.size 0 vs with
     |some els => match Nat.beq els.length m && Nat.ble (m * d.size) 16777216 && Nat.ble m 16777216 with
      | true => eD d.size fun sz => some (some (.sl nid), .new (.row e sz els))
      | false => none
     | none => none
    | none => none
   | none => none
  | _ => none
 |.makeSlice t x y => match T.ty t with
  |some ⟨_, _, _, .sl e⟩ => match T.ty e with
   |some d => match aJ F x with
    |some (.int .i64 (.ofNat m)) => match aJ F y with
     |some (.int .i64 (.ofNat m')) => match Nat.beq m m' && Nat.ble (d.bytes * m) 1000000 && Nat.ble m 1000000 && Nat.blt 0 d.size with
      | true => listK (List.replicate m d.zero) fun els => eD d.size fun sz => some (some (.sl nid), .new (.row e sz els))
      | false => none
     | _ => none
    | _ => none
   | none => none
  | _ => none
 |.call ⟨.builtin .append, ⟨[x, y]⟩, ⟨[t, t']⟩⟩ => match T.frc && Nat.beq t t' with
  |true => match T.ty t with
   |some ⟨_, _, _, .sl e⟩ => match T.ty e with
    |some d => match aJ F y with
     |some v => match wB h d.size v with
      |some news => match aJ F x with
       |some .nils => match Nat.ble news.length 100000 && Nat.ble d.bytes 100000 && Nat.blt 0 d.size with
        | true => eD d.size fun sz => some (some (.sl nid), .new (.row e sz news))
        | false => none
       |some (.sl id) => match h id with
        |.row e' sz els => match Nat.beq e e' && Nat.beq sz d.size && Nat.ble (els.length + news.length) 100000 && Nat.ble d.bytes 100000 && Nat.blt 0 d.size with
         | true => listK (els ++ news) fun els => some (some (.sl nid), .repl id (.row e sz els))
         | false => none
        | _ => none
       | _ => none
      | none => none
     | none => none
    | none => none
   | _ => none
  | false => none
 |.slice t x none (some y) none => match T.ty t with
  |some ⟨_, _, _, .sl e⟩ => match T.ty e with
   |some d => match aJ F x with
    |some (.sl id) => match h id with
     |.row e' sz els => match aJ F y with
      |some (.int .i64 (.ofNat k)) => match Nat.beq e e' && Nat.beq sz d.size && Nat.ble k els.length with
       | true => listK (els.take k) fun els => some (some (.sl nid), .repl id (.row e sz els))
       | false => none
      | _ => none
     | _ => none
    | _ => none
   | none => none
  | _ => none
 | _ => none
section
variable {P : Program} {T : Tab} {S : Nat → Prop} {w : World} {ρ : Nat → Option Value} {h : Nat → Ob} {a : Act} {n : Nat} {F : Fm} {ty : TypeId}
theorem mb {t : TypeId} {d : TD} (td : TdOk P t d) {cs : List V} {o : Nat} {v : V} (hv : mj d cs o = some v) : (du P t = true ∧ cs[o]? = some v) ∨ (kR P t = some d.size ∧ o + d.size ≤ cs.length ∧ v = .agg ((cs.drop o).take d.size)) := by
 unfold mj at hv
 split at hv
 ·rename_i ha
  split at hv
  ·rename_i h0
   obtain ⟨hl, hv⟩ := pH hv
   rw [pL] at hv hl
   injection hv with hv; subst hv
   have h0' : 0 < d.size := by simpa using h0
   exact .inr ⟨td.ag ha, by simp at hl; omega, rfl⟩
  ·cases hv
 ·rename_i ha
  rw [ll] at hv
  exact .inl ⟨td.sc ha, hv⟩
theorem pn {v : V} (h : v.one = true) : v.cells = [v] := by cases v <;> first | rfl | cases h
theorem xX (hr : HRel S w ρ h) (hF : FRel S w ρ a n F) {y : Operand} {sz : Nat} {v : V} {news : List V} (hy : aJ F y = some v) (hs : wB h sz v = some news) : ∃ u, aF (fA a) y = some u ∧ oG S w ρ sz news u := by
 obtain ⟨u, h1, h2⟩ := al hF hy
 refine ⟨u, h1, ?_⟩
 unfold wB at hs
 split at hs
 ·injection hs with hs; subst hs; exact Bj h2
 ·split at hs
  ·rename_i hb
   have := Nat.eq_of_beq_eq_true hb
   subst this
   injection hs with hs; subst hs; exact DD h2
  ·cases hs
 ·split at hs
  ·split at hs
   ·rename_i ho _ hb
    have := Nat.eq_of_beq_eq_true hb
    subst this
    injection hs with hs; subst hs; exact DO hr ho h2
   ·cases hs
  ·cases hs
 ·cases hs
theorem rh (hT : TabOk P T) (hr : HRel S w ρ h) (hF : FRel S w ρ a n F) {nid : Nat} (hn : h nid = .free) {op : Op} {v : Option V} {ed : ED} (hv : jZ T h F nid op = some (v, ed)) : Does P S w ρ h a ty op v (ed.app h nid) ed.tch := by
 have fr := hF.fr
 unfold jZ at hv
 split at hv
 ·split at hv
  ·split at hv
   ·rename_i d hd
    split at hv
    ·rename_i ho
     split at hv
     ·rename_i u hu
      simp only [Option.some.injEq, Prod.mk.injEq] at hv
      obtain ⟨rfl, rfl⟩ := hv
      rcases mb (hT.ty _ _ hd) hu with ⟨h1, h2⟩ | ⟨h1, h2, rfl⟩
      ·exact EZ hr fr (al hF ‹_›) ho h1 h2
      ·exact CT hr fr (al hF ‹_›) ho h1 h2
     ·cases hv
    ·cases hv
   ·cases hv
  ·split at hv
   ·rename_i d hd
    split at hv
    ·rename_i ho
     split at hv
     ·rename_i hb
      have := Nat.eq_of_beq_eq_true hb
      subst this
      split at hv
      ·rename_i v0 hi
       rw [ll] at hi
       split at hv
       ·rename_i u hu
        simp only [Option.some.injEq, Prod.mk.injEq] at hv
        obtain ⟨rfl, rfl⟩ := hv
        rcases mb (hT.ty _ _ hd) hu with ⟨h1, h2⟩ | ⟨h1, h2, rfl⟩
        ·exact xw hr fr (al hF ‹_›) ho h1 hi h2
        ·exact uZ hr fr (al hF ‹_›) ho h1 hi h2
       ·cases hv
      ·cases hv
     ·cases hv
    ·cases hv
   ·cases hv
  ·cases hv
 ·split at hv
  ·rename_i d hd
   rw [bZ] at hv
   simp only [Option.some.injEq, Prod.mk.injEq] at hv
   obtain ⟨rfl, rfl⟩ := hv
   obtain ⟨z, h1, h2⟩ := (hT.ty _ _ hd).zeroT
   exact DB hr hn h1 h2
  ·cases hv
 ·split at hv
  ·rw [bZ] at hv
   simp only [Option.some.injEq, Prod.mk.injEq] at hv
   obtain ⟨rfl, rfl⟩ := hv
   exact Gc hr fr hn (al hF ‹_›)
  ·cases hv
 ·split at hv
  ·rename_i d hd
   have hz := (hT.ty _ _ hd).size
   split at hv
   ·rename_i u hu
    split at hv
    ·rename_i hb
     simp only [Bool.and_eq_true, Nat.beq_eq] at hb
     split at hv
     ·split at hv
      ·split at hv
       ·rename_i ho _ hle
        rw [bZ] at hv
        simp only [Option.some.injEq, Prod.mk.injEq] at hv
        obtain ⟨rfl, rfl⟩ := hv
        exact Dx hr fr (al hF ‹_›) (al hF hu) ho hz hb.1 hb.2 (Nat.le_of_ble_eq_true hle)
       ·cases hv
      ·cases hv
     ·split at hv
      ·rename_i ho
       split at hv
       ·rename_i hq
        have := Nat.eq_of_beq_eq_true hq
        subst this
        split at hv
        ·rename_i v0 hi
         rw [ll] at hi
         split at hv
         ·rename_i hle
          split at hv
          ·rename_i cs
           rw [bZ] at hv
           simp only [Option.some.injEq, Prod.mk.injEq] at hv
           obtain ⟨rfl, rfl⟩ := hv
           exact sa hr fr (al hF ‹_›) (al hF hu) ho hz hi hb.1 hb.2 (Nat.le_of_ble_eq_true hle) (.inl ⟨cs, rfl⟩)
          ·rename_i hna
           split at hv
           ·rename_i h1
            rw [bZ] at hv
            simp only [Option.some.injEq, Prod.mk.injEq] at hv
            obtain ⟨rfl, rfl⟩ := hv
            refine sa hr fr (al hF ‹_›) (al hF hu) ho hz hi hb.1 hb.2 (Nat.le_of_ble_eq_true hle) (.inr ⟨?_, pn h1⟩)
            cases v0 with
            | agg cs => exact absurd rfl (hna cs)
            | _ => rfl
           ·cases hv
         ·cases hv
        ·cases hv
       ·cases hv
      ·cases hv
     ·cases hv
    ·cases hv
   ·cases hv
  ·cases hv
 ·split at hv
  ·rename_i e ht
   split at hv
   ·rename_i d hd
    split at hv
    ·rename_i vs hps
     split at hv
     ·rename_i els hrp
      split at hv
      ·rename_i hb
       simp only [Bool.and_eq_true, Nat.beq_eq] at hb
       rw [cD] at hv
       simp only [Option.some.injEq, Prod.mk.injEq] at hv
       obtain ⟨rfl, rfl⟩ := hv
       obtain ⟨ys, g1, g2⟩ := my hF hps
       obtain ⟨z, h1, h2⟩ := (hT.ty _ _ hd).zeroT
       exact Be hr fr hn g1 g2 ((hT.ty _ _ ht).sl rfl) (hT.ty _ _ hd).size h1 hrp hb.1.1 hb.1.2 hb.2
      ·cases hv
     ·cases hv
    ·cases hv
   ·cases hv
  ·cases hv
 ·split at hv
  ·rename_i e ht
   split at hv
   ·rename_i d hd
    split at hv
    ·split at hv
     ·split at hv
      ·rename_i hb
       simp only [Bool.and_eq_true, Nat.beq_eq, Nat.ble_eq, Nat.blt_eq] at hb
       obtain ⟨⟨⟨rfl, hb1⟩, hb2⟩, hb3⟩ := hb
       rw [bZ, cD] at hv
       simp only [Option.some.injEq, Prod.mk.injEq] at hv
       obtain ⟨rfl, rfl⟩ := hv
       obtain ⟨z, h1, h2, h3, h4⟩ := (hT.ty _ _ hd).info
       exact zD hr fr hn (al hF ‹_›) (al hF ‹_›) ((hT.ty _ _ ht).sl rfl) h1 h3 hb3 h4 h2 (by omega) (by simp only [maxLen]; omega)
      ·cases hv
     ·cases hv
    ·cases hv
   ·cases hv
  ·cases hv
 ·split at hv
  ·rename_i hb0
   simp only [Bool.and_eq_true, Nat.beq_eq] at hb0
   obtain ⟨_, rfl⟩ := hb0
   split at hv
   ·rename_i e ht
    split at hv
    ·rename_i d hd
     obtain ⟨z, h1, h2, h3, h4⟩ := (hT.ty _ _ hd).info
     split at hv
     ·rename_i u hu
      split at hv
      ·rename_i news hs
       obtain ⟨y', g1, g2⟩ := xX hr hF hu hs
       split at hv
       ·split at hv
        ·rename_i hb
         simp only [Bool.and_eq_true, Nat.ble_eq, Nat.blt_eq] at hb
         obtain ⟨⟨hb1, hb2⟩, hb3⟩ := hb
         rw [cD] at hv
         simp only [Option.some.injEq, Prod.mk.injEq] at hv
         obtain ⟨rfl, rfl⟩ := hv
         refine Au hr fr hn g1 g2 ((hT.ty _ _ ht).sl rfl) h1 h3 hb3 (al hF ‹_›) (by simp only [maxLen]; omega) ?_
         exact Nat.le_trans (Nat.mul_le_mul hb1 hb2) (by decide)
        ·cases hv
       ·split at hv
        ·rename_i ho
         split at hv
         ·rename_i hb
          simp only [Bool.and_eq_true, Nat.ble_eq, Nat.blt_eq, Nat.beq_eq] at hb
          obtain ⟨⟨⟨⟨rfl, rfl⟩, hb1⟩, hb2⟩, hb3⟩ := hb
          rw [bZ] at hv
          simp only [Option.some.injEq, Prod.mk.injEq] at hv
          obtain ⟨rfl, rfl⟩ := hv
          refine vN hr fr hn g1 g2 ((hT.ty _ _ ht).sl rfl) h1 h3 hb3 (al hF ‹_›) ho (by simp only [maxLen]; omega) ?_
          exact Nat.le_trans (Nat.mul_le_mul hb1 hb2) (by decide)
         ·cases hv
        ·cases hv
       ·cases hv
      ·cases hv
     ·cases hv
    ·cases hv
   ·cases hv
  ·cases hv
 ·split at hv
  ·rename_i e ht
   split at hv
   ·rename_i d hd
    split at hv
    ·split at hv
     ·rename_i ho
      split at hv
      ·split at hv
       ·rename_i hb
        simp only [Bool.and_eq_true, Nat.ble_eq, Nat.beq_eq] at hb
        obtain ⟨⟨rfl, rfl⟩, hb1⟩ := hb
        rw [bZ] at hv
        simp only [Option.some.injEq, Prod.mk.injEq] at hv
        obtain ⟨rfl, rfl⟩ := hv
        exact xQ hr fr hn (al hF ‹_›) (al hF ‹_›) ho ((hT.ty _ _ ht).sl rfl) (hT.ty _ _ hd).size hb1
       ·cases hv
      ·cases hv
     ·cases hv
    ·cases hv
   ·cases hv
  ·cases hv
 ·cases hv
def ED.ok (h : Nat → Ob) : ED → Prop
 | .nop => True
 | .new o => True
 | .set id o => h id ≠ .gone ∧ h id ≠ .free
 | .repl id o => h id ≠ .gone ∧ h id ≠ .free
theorem nJ {nid : Nat} {op : Op} {v : Option V} {ed : ED} (hv : jZ T h F nid op = some (v, ed)) : ed.ok h := by
 unfold jZ at hv
 repeat' (split at hv)
 all_goals first
  | (cases hv; done)
  | (simp only [bZ, cD, Option.some.injEq, Prod.mk.injEq] at hv; obtain ⟨_, rfl⟩ := hv; first | exact trivial | (constructor <;> simp_all))
end
end Go.Proofs.YthnohcipianijaaGreatDoor
namespace Go.Proofs.YthnohcipianijaaGreatDoor
open Go.RowKit
section
variable {P : Program} {ops : Array Oper} {Q : Exit → Act → World → Prop} {B S : World → Prop}
def wpB (P : Program) (ops : Array Oper) (Q : Exit → Act → World → Prop) (B S : World → Prop) (m : Nat) : Nat → Array Bool → Act → World → Prop
 | 0, listed, a, w => Region.ready .any ops listed = [] ∧ Q .normal a w
 | fuel + 1, listed, a, w =>
  (Region.ready .any ops listed = [] → Q .normal a w) ∧
  ∀ i ∈ Region.ready .any ops listed, wpOp P ops Q i (fun a' w' => B w' ∧ (S w' ∨ (listed.setIfInBounds i true).getD m false = true) ∧ wpB P ops Q B S m fuel (listed.setIfInBounds i true) a' w') a w
theorem tc {m : Nat} : ∀ (fuel : Nat) (listed : Array Bool) (a : Act) (w : World), wpB P ops Q B S m fuel listed a w → wpAny P .any ops Q fuel listed a w
 | 0, _, _, _, h => h
 | fuel + 1, _, _, _, h => ⟨h.1, fun i hi => wpOp_mono (fun a' w' h' => tc fuel _ a' w' h'.2.2) (h.2 i hi)⟩
theorem sw {B' S' : World → Prop} {m : Nat} (hB : ∀ w, B' w → B w) (hS : ∀ w, B' w → S' w → S w) : ∀ (fuel : Nat) (listed : Array Bool) (a : Act) (w : World), wpB P ops Q B' S' m fuel listed a w → wpB P ops Q B S m fuel listed a w
 | 0, _, _, _, h => h
 | fuel + 1, _, _, _, h => ⟨h.1, fun i hi => wpOp_mono (fun a' w' h' => ⟨hB _ h'.1, h'.2.1.imp (hS _ h'.1) id, sw hB hS fuel _ a' w' h'.2.2⟩) (h.2 i hi)⟩
theorem wpB_pure {m : Nat} {i : Nat} {oi : Oper} {v : Value} (him : i ≠ m) (hi : ops[i]? = some oi) (hsel : ∀ (j : Nat) (o : Oper) cs b, ops[j]? = some o → o.op ≠ .select cs b)
    (hQ : ∀ c a w, Q (.panic c) (a.put oi.dst v) w → Q (.panic c) a w) :
    ∀ (fuel : Nat) (listed : Array Bool) (a : Act) (w : World),
      (∀ j oj, ops[j]? = some oj → j ≠ i → listed.getD j true = false → (∀ e ∈ oj.after, Region.binds .any e = true → e.on ≠ i) → oi.apart ops oj = true) →
      i ∈ Region.ready .any ops listed → YieldsIf P ops B oi v a → B w → (S w ∨ listed.getD m false = true) →
      wpB P ops Q B S m fuel (listed.setIfInBounds i true) (a.put oi.dst v) w → wpB P ops Q B S m (fuel + 1) listed a w := by
  intro fuel
  induction fuel with
  | zero =>
    intro listed a w _ hr hy hB hS H
    refine ⟨fun h => (by rw [h] at hr; cases hr), fun j hj => ?_⟩
    by_cases hji : j = i
    · subst hji; exact hy.wpOp hi hB ⟨hB, hS.imp id jN, H⟩
    · have := ready_mono hj hji
      rw [H.1] at this
      cases this
  | succ fuel ih =>
    intro listed a w hfree hr hy hB hS H
    refine ⟨fun h => (by rw [h] at hr; cases hr), fun j hj => ?_⟩
    by_cases hji : j = i
    · subst hji; exact hy.wpOp hi hB ⟨hB, hS.imp id jN, H⟩
    · have h1 := H.2 j (ready_mono hj hji)
      obtain ⟨hjun, oj, hoj, hall⟩ := mem_ready.1 hj
      have hnot := ue (j := j) hr hall
      have h2 := wpOp_putIf hoj (hfree j oj hoj hji hjun hnot) (fun cs b => hsel i oi cs b hi) (fun cs b => hsel j oj cs b hoj) hQ hy h1
      have hfree' : ∀ k ok, ops[k]? = some ok → k ≠ i → (listed.setIfInBounds j true).getD k true = false →
          (∀ e ∈ ok.after, Region.binds .any e = true → e.on ≠ i) → oi.apart ops ok = true := fun k ok hk hki hun hno => by
        refine hfree k ok hk hki ?_ hno
        by_cases hjk : j = k
        · subst hjk; exact hjun
        · rw [getD_set_ne true hjk] at hun; exact hun
      refine wpOp_mono (fun a' w' h3 => ?_) h2
      have hS3 : S w' ∨ (listed.setIfInBounds j true).getD m false = true := h3.2.2.1.imp id fun h => by
        rw [Array.setIfInBounds_comm _ _ (fun e => hji e.symm), getD_set_ne false him] at h
        exact h
      refine ⟨h3.2.1, hS3, ih (listed.setIfInBounds j true) a' w' hfree' (ready_mono hr (Ne.symm hji)) h3.1 h3.2.1 hS3 ?_⟩
      rw [Array.setIfInBounds_comm _ _ hji]
      exact h3.2.2.2
theorem BP {m : Nat} {i : Nat} {oi : Oper} {v : Value} (him : i ≠ m) (hwt : ta .any ops m i = true) (hi : ops[i]? = some oi) (hsel : ∀ (j : Nat) (o : Oper) cs b, ops[j]? = some o → o.op ≠ .select cs b)
    (hQ : ∀ c a w, Q (.panic c) (a.put oi.dst v) w → Q (.panic c) a w) :
    ∀ (fuel : Nat) (listed : Array Bool) (a : Act) (w : World),
      (∀ j oj, ops[j]? = some oj → j ≠ i → listed.getD j true = false → (∀ e ∈ oj.after, Region.binds .any e = true → e.on ≠ i) → oi.apart ops oj = true) →
      i ∈ Region.ready .any ops listed → YieldsIf P ops (fun w => B w ∧ S w) oi v a → B w → S w → listed.getD m false = false →
      wpB P ops Q B S m fuel (listed.setIfInBounds i true) (a.put oi.dst v) w → wpB P ops Q B S m (fuel + 1) listed a w := by
  intro fuel
  induction fuel with
  | zero =>
    intro listed a w _ hr hy hB hS _ H
    refine ⟨fun h => (by rw [h] at hr; cases hr), fun j hj => ?_⟩
    by_cases hji : j = i
    · subst hji; exact hy.wpOp hi ⟨hB, hS⟩ ⟨hB, .inl hS, H⟩
    · have := ready_mono hj hji
      rw [H.1] at this
      cases this
  | succ fuel ih =>
    intro listed a w hfree hr hy hB hS hlm H
    refine ⟨fun h => (by rw [h] at hr; cases hr), fun j hj => ?_⟩
    by_cases hji : j = i
    · subst hji; exact hy.wpOp hi ⟨hB, hS⟩ ⟨hB, .inl hS, H⟩
    · have h1 := H.2 j (ready_mono hj hji)
      obtain ⟨hjun, oj, hoj, hall⟩ := mem_ready.1 hj
      have hnot := ue (j := j) hr hall
      have hjm : j ≠ m := by
        rintro rfl
        unfold ta at hwt
        rw [hoj] at hwt
        obtain ⟨e, he, hb⟩ := Array.any_eq_true'.1 hwt
        simp only [Bool.and_eq_true, beq_iff_eq] at hb
        exact hnot e he hb.1 hb.2
      have h2 := wpOp_putIf hoj (hfree j oj hoj hji hjun hnot) (fun cs b => hsel i oi cs b hi) (fun cs b => hsel j oj cs b hoj) hQ hy h1
      have hfree' : ∀ k ok, ops[k]? = some ok → k ≠ i → (listed.setIfInBounds j true).getD k true = false →
          (∀ e ∈ ok.after, Region.binds .any e = true → e.on ≠ i) → oi.apart ops ok = true := fun k ok hk hki hun hno => by
        refine hfree k ok hk hki ?_ hno
        by_cases hjk : j = k
        · subst hjk; exact hjun
        · rw [getD_set_ne true hjk] at hun; exact hun
      refine wpOp_mono (fun a' w' h3 => ?_) h2
      have hlm' : (listed.setIfInBounds j true).getD m false = false := by rw [getD_set_ne false hjm]; exact hlm
      have hS' : S w' := by
        rcases h3.2.2.1 with h | h
        · exact h
        · rw [Array.setIfInBounds_comm _ _ (fun e => hji e.symm), getD_set_ne false him, hlm'] at h
          cases h
      refine ⟨h3.2.1, .inl hS', ih (listed.setIfInBounds j true) a' w' hfree' (ready_mono hr (Ne.symm hji)) h3.1 h3.2.1 hS' hlm' ?_⟩
      rw [Array.setIfInBounds_comm _ _ hji]
      exact h3.2.2.2
end
inductive EI where
 | seq (c : Code)
 | blk (id : Nat)
 | loop (c : Code) (j : Nat)
 | scp
inductive EP where
 | code (c : Code)
 | ops (all : Array Oper) (rest : List Oper)
 | ex (e : Exit)
 | drw (all : Array Oper) (L : List Nat) (m left : Nat) (listed : Array Bool)
def cJ (P : Program) (Q : Exit → Act → World → Prop) : List EI → Exit → Act → World → Prop
 | [] => Q
 | .seq c :: s => Exit.then (c.wp P (cJ P Q s)) (cJ P Q s)
 | .blk id :: s => Exit.inBlock id (cJ P Q s)
 | .loop c j :: s => Exit.then (Code.rounds P c (cJ P Q s) j) (cJ P Q s)
 | .scp :: s => Exit.noGoto (cJ P Q s)
def vblk : Value → Option Nat
 | .pointer (some a) => some a.block
 | .slice (some a) _ _ => some a.block
 | _ => none
def Ls (ρ : Nat → Option Value) (L : List Nat) (w w' : World) : Prop := ∀ id, id ∈ L → ∀ x b, ρ id = some x → vblk x = some b → w'.heap[b]? = w.heap[b]?
def EP.wp (P : Program) (Q : Exit → Act → World → Prop) (p : EP) (s : List EI) (S : Nat → Prop) (w : World) (ρ : Nat → Option Value) (a : Act) : Prop :=
 match p with
 | .code c => c.wp P (cJ P Q s) a w
 | .ops all rest => wpList P all (cJ P Q s) rest a w
 | .ex e => cJ P Q s e a w
 | .drw all L m left listed => Region.noSelect all = true → wpB P all (NoPanic (cJ P Q s)) (Agree S w) (Ls ρ L w) m left listed a w
structure Hp where
 nx : Nat
 es : List (Nat × Ob)
def ar : List (Nat × Ob) → Nat → Ob
 | [], _ => .gone
 |(i, o) :: r, j => match Nat.beq i j with
  | true => o
  | false => ar r j
def Hp.get (H : Hp) (i : Nat) : Ob := match Nat.blt i H.nx with
 | true => ar H.es i
 | false => .free
def yN {α : Type} (id : Nat) (o : Ob) : List (Nat × Ob) → (List (Nat × Ob) → α) → α
 | [], c => c []
 |(i, p) :: r, c => match Nat.beq i id with
  | true => c ((i, o) :: r)
  | false => yN id o r fun r' => c ((i, p) :: r')
def tF {α : Type} (id : Nat) : List (Nat × Ob) → (List (Nat × Ob) → α) → α
 | [], c => c []
 |(i, p) :: r, c => match Nat.beq i id with
  | true => tF id r c
  | false => tF id r fun r' => c ((i, p) :: r')
def Hp.ap {α : Type} (H : Hp) (e : ED) (c : Hp → α) : α := match e with
 | .nop => c H
 | .new o => eD H.nx fun k => eD (k + 1) fun n => c ⟨n, (k, o) :: H.es⟩
 | .set id o => yN id o H.es fun es => eD H.nx fun k => c ⟨k, es⟩
 | .repl id o => tF id H.es fun es => eD H.nx fun k => eD (k + 1) fun n => c ⟨n, (k, o) :: es⟩
def nO (id : Nat) (o : Ob) : List (Nat × Ob) → List (Nat × Ob)
 | [] => []
 |(i, p) :: r => match Nat.beq i id with
  | true => (i, o) :: r
  | false => (i, p) :: nO id o r
def mf (id : Nat) : List (Nat × Ob) → List (Nat × Ob)
 | [] => []
 |(i, p) :: r => match Nat.beq i id with
  | true => mf id r
  | false => (i, p) :: mf id r
theorem xt {α : Type} {id : Nat} {o : Ob} : ∀ (l : List (Nat × Ob)) (c : List (Nat × Ob) → α), yN id o l c = c (nO id o l)
 | [], c => rfl
 | (i, p) :: r, c => by
  simp only [yN, nO]
  split
  ·rfl
  ·rw [xt r]
theorem ro {α : Type} {id : Nat} : ∀ (l : List (Nat × Ob)) (c : List (Nat × Ob) → α), tF id l c = c (mf id l)
 | [], c => rfl
 | (i, p) :: r, c => by
  simp only [tF, mf]
  split
  ·rw [ro r]
  ·rw [ro r]
theorem nbF {a b : Nat} (h : a ≠ b) : Nat.beq a b = false := by
 cases hb : Nat.beq a b
 ·rfl
 ·exact absurd (Nat.eq_of_beq_eq_true hb) h
theorem nbT (a : Nat) : Nat.beq a a = true := by simp
theorem nlT {a b : Nat} (h : a < b) : Nat.blt a b = true := by simpa [Nat.blt_eq] using h
theorem rM {id i : Nat} {o : Ob} (hi : i ≠ id) : ∀ {l : List (Nat × Ob)}, ar (nO id o l) i = ar l i
 | [] => rfl
 | (j, p) :: r => by
  simp only [nO]
  split
  ·rename_i hb
   have e1 := Nat.eq_of_beq_eq_true hb
   subst e1
   simp only [ar, nbF (Ne.symm hi)]
  ·simp only [ar]
   rw [rM hi]
theorem qn {id : Nat} {o : Ob} : ∀ {l : List (Nat × Ob)}, ar l id ≠ .gone → ar (nO id o l) id = o
 | [], h => absurd rfl h
 | (j, p) :: r, h => by
  simp only [nO]
  split
  ·rename_i hb
   simp only [ar, hb]
  ·rename_i hb
   simp only [ar, hb] at h ⊢
   exact qn h
theorem lV {id i : Nat} : ∀ {l : List (Nat × Ob)}, ar (mf id l) i = if i = id then .gone else ar l i
 | [] => by simp [ar, mf]
 | (j, p) :: r => by
  simp only [mf, ar]
  split
  ·rename_i hb
   have e1 := Nat.eq_of_beq_eq_true hb
   subst e1
   rw [lV]
   by_cases hi : i = j
   ·simp [hi]
   ·simp [hi, nbF (Ne.symm hi)]
  ·rename_i hb
   have hne := Nat.ne_of_beq_eq_false hb
   simp only [ar]
   split
   ·rename_i hb2
    have e2 := Nat.eq_of_beq_eq_true hb2
    subst e2
    rw [if_neg hne]
   ·exact lV
def Hp.app (H : Hp) : ED → Hp
 | .nop => H
 | .new o => ⟨H.nx + 1, (H.nx, o) :: H.es⟩
 | .set id o => ⟨H.nx, nO id o H.es⟩
 | .repl id o => ⟨H.nx + 1, (H.nx, o) :: mf id H.es⟩
theorem Hp.ap_eq {α : Type} (H : Hp) (e : ED) (c : Hp → α) : H.ap e c = c (H.app e) := by
 cases e <;> simp [Hp.ap, Hp.app, cD, xt, ro]
theorem Hp.get_free (H : Hp) : H.get H.nx = .free := by
 unfold Hp.get
 have : Nat.blt H.nx H.nx = false := by simp [Bool.eq_false_iff]
 rw [this]
theorem Hp.get_app {H : Hp} {e : ED} (he : e.ok H.get) : (H.app e).get = e.app H.get H.nx := by
 funext i
 cases e with
 | nop => rfl
 | new o =>
  simp only [Hp.app, ED.app]
  by_cases hi : i = H.nx
  ·subst hi
   rw [bj]
   simp only [Hp.get, ar, nlT (Nat.lt_succ_self H.nx), nbT]
  ·rw [bP _ _ hi]
   have hb : Nat.beq H.nx i = false := nbF (Ne.symm hi)
   have : Nat.blt i (H.nx + 1) = Nat.blt i H.nx := by rw [Bool.eq_iff_iff]; simp [Nat.blt_eq]; omega
   simp [Hp.get, ar, hb, this]
 | set id o =>
  simp only [Hp.app, ED.app]
  have h1 : ar H.es id ≠ .gone := by
   have := he.1
   unfold Hp.get at this
   split at this
   ·exact this
   ·rename_i hc
    exact absurd (by unfold Hp.get; rw [hc]) he.2
  by_cases hi : i = id
  ·subst hi
   rw [bj]
   have h2 := he.2
   unfold Hp.get at h2 ⊢
   split at h2
   ·rename_i hc
    simp only [hc]
    exact qn h1
   ·exact absurd rfl h2
  ·rw [bP _ _ hi]
   unfold Hp.get
   simp only []
   rw [rM hi]
 | repl id o =>
  simp only [Hp.app, ED.app]
  have hid : id < H.nx := by
   have h2 := he.2
   unfold Hp.get at h2
   split at h2
   ·rename_i hc; simpa [Nat.blt_eq] using hc
   ·exact absurd rfl h2
  by_cases hi : i = H.nx
  ·subst hi
   rw [bj]
   simp only [Hp.get, ar, nlT (Nat.lt_succ_self H.nx), nbT]
  ·rw [bP _ _ hi]
   have hb : Nat.beq H.nx i = false := nbF (Ne.symm hi)
   have hlt : Nat.blt i (H.nx + 1) = Nat.blt i H.nx := by rw [Bool.eq_iff_iff]; simp [Nat.blt_eq]; omega
   by_cases hii : i = id
   ·subst hii
    rw [bj]
    have : Nat.blt i H.nx = true := by simpa [Nat.blt_eq] using hid
    simp [Hp.get, ar, hb, hlt, this, lV]
   ·rw [bP _ _ hii]
    simp [Hp.get, ar, hb, hlt, lV, hii]
theorem vM (a b : List (Nat × Ob)) (i : Nat) : ar (a ++ b) i = ar a i ∨ (ar a i = .gone ∧ ar (a ++ b) i = ar b i) := by
 induction a with
 | nil => exact .inr ⟨rfl, rfl⟩
 | cons p r ih =>
  obtain ⟨j, o⟩ := p
  simp only [List.cons_append, ar]
  split
  ·exact .inl rfl
  ·exact ih
end Go.Proofs.YthnohcipianijaaGreatDoor
namespace Go.Proofs.YthnohcipianijaaGreatDoor
open Go.RowKit
structure Ctx where
 w0 : World
 S0 : Nat → Prop
 X0 : Nat → Prop
 pin : Nat → Option Value
structure Inv (K : Ctx) (S : Nat → Prop) (w : World) (ρ : Nat → Option Value) (h : Nat → Ob) : Prop where
 chg : ChgP K.X0 K.w0 w
 s0 : ∀ b, K.S0 b → S b
 s1 : ∀ b, S b → K.S0 b ∨ K.X0 b ∨ K.w0.heap.size ≤ b
 ow : ∀ id b, own ρ id (h id) b → K.X0 b ∨ K.w0.heap.size ≤ b
 pin : ∀ id x, K.pin id = some x → ρ id = some x
section
variable {P : Program} {T : Tab} {K : Ctx} {S S' : Nat → Prop} {w w' : World} {ρ ρ' : Nat → Option Value} {h h' : Nat → Ob} {a : Act} {n : Nat} {F : Fm} {X : Nat → Prop}
theorem Inv.eff (hi : Inv K S w ρ h) (he : Eff S w w' ρ ρ' h h' X) : Inv K S w' ρ' h' :=
 ⟨hi.chg.trans he.chg (fun b ⟨id, _, hb⟩ => hi.ow id b hb), hi.s0, hi.s1, fun id b hb => by
  rcases he.new id b hb with ⟨j, hj⟩ | hj
  ·exact hi.ow j b hj
  ·exact .inr (Nat.le_trans hi.chg.size hj), fun id x hx => he.up.r _ _ (hi.pin id x hx)⟩
theorem Inv.frz (hr : HRel S w ρ h) (hi : Inv K S w ρ h) (id : Nat) : Inv K (fun b => S b ∨ own ρ id (h id) b) w ρ (bV h id .gone) :=
 ⟨hi.chg, fun b hb => .inl (hi.s0 b hb), fun b hb => by
  rcases hb with hb | hb
  ·exact hi.s1 b hb
  ·exact .inr (hi.ow id b hb), fun i b hb => by
  by_cases hii : i = id
  ·subst hii; rw [bj] at hb; exact hb.elim
  ·rw [bP _ _ hii] at hb; exact hi.ow i b hb, hi.pin⟩
theorem HRel.chg0 (hr : HRel S w ρ h) (hc : Chg [] w w') : HRel S w' ρ h := by
 have up : Up S S w w' ρ ρ := ⟨fun _ h => h, fun b _ hb => hc.block b hb (by simp), fun _ _ h => h⟩
 refine ⟨fun i => (hr.ob i).up up (fun hf => ?_) (fun b hb => hc.block b (eh (hr.ob i) hb) (by simp)), hr.sep, hr.dis, fun b hb => Nat.lt_of_lt_of_le (hr.slt b hb) hc.size⟩
 have := hr.ob i; rw [hf] at this; exact this
theorem Up.chg0 (hc : Chg [] w w') : Up S S w w' ρ ρ := ⟨fun _ h => h, fun b _ hb => hc.block b hb (by simp), fun _ _ h => h⟩
theorem Inv.chg0 (hi : Inv K S w ρ h) (hc : Chg [] w w') : Inv K S w' ρ h := ⟨hi.chg.trans (ChgP.of hc) (fun b hb => by simp at hb), hi.s0, hi.s1, hi.ow, hi.pin⟩
theorem HRel.drop (hr : HRel S w ρ h) (hh : ∀ i, h' i = h i ∨ h' i = .gone) : HRel S w ρ h' := by
 have back : ∀ i b, own ρ i (h' i) b → own ρ i (h i) b := fun i b hb => by
  rcases hh i with e | e
  ·rw [e] at hb; exact hb
  ·rw [e] at hb; exact hb.elim
 refine ⟨fun i => ?_, fun i b hb => hr.sep i b (back i b hb), fun i j b hbi hbj => hr.dis i j b (back i b hbi) (back j b hbj), hr.slt⟩
 rcases hh i with e | e
 ·rw [e]; exact hr.ob i
 ·rw [e]; trivial
theorem Inv.drop (hi : Inv K S w ρ h) (hh : ∀ i, h' i = h i ∨ h' i = .gone) : Inv K S w ρ h' :=
 ⟨hi.chg, hi.s0, hi.s1, fun i b hb => by
  rcases hh i with e | e
  ·rw [e] at hb; exact hi.ow i b hb
  ·rw [e] at hb; exact hb.elim, hi.pin⟩
theorem Agree.refl : Agree S w w := fun _ _ => rfl
theorem nm (hr : HRel S w ρ h) (he : Eff S w w' ρ ρ' h h' X) : Agree S w w' := fun b hb => he.up.blk b hb (hr.slt b hb)
def bf (F : Fm) (all : Array Oper) (g : Option (Nat × Bool)) : Option Bool := match g with
 | none => some true
 |some (j, b) => match (all[j]?).bind (·.dst) with
  |some d => match F.get d with
   | some (.bool true) => some b
   | some (.bool false) => some (!b)
   | some (.tup _) => some false
   | _ => none
  | none => none
theorem bF (hF : FRel S w ρ a n F) {all : Array Oper} {o : Oper} {c : Bool} (hw : bf F all o.guard = some c) : Region.wanted o (yielded all a.tmps) = c := by
 unfold bf at hw
 split at hw
 ·rename_i hg
  injection hw with hw; subst hw
  exact tx hF.fr (by rw [hg]; rfl)
 ·rename_i j b hg
  split at hw
  ·rename_i d hd
   split at hw
   ·rename_i hv
    obtain ⟨x, h1, h2⟩ := hF.get d _ hv
    simp only [VRel] at h2; subst h2
    injection hw with hw; subst hw
    cases b
    ·exact tH hF.fr (by rw [hg]; simp only [sG, look, hd]; simp [fA, h1])
    ·exact tx hF.fr (by rw [hg]; simp only [uS, look, hd]; simp [fA, h1])
   ·rename_i hv
    obtain ⟨x, h1, h2⟩ := hF.get d _ hv
    simp only [VRel] at h2; subst h2
    injection hw with hw; subst hw
    cases b
    ·exact tx hF.fr (by rw [hg]; simp only [uS, look, hd]; simp [fA, h1])
    ·exact tH hF.fr (by rw [hg]; simp only [sG, look, hd]; simp [fA, h1])
   ·rename_i hv
    obtain ⟨x, h1, h2⟩ := hF.get d _ hv
    simp only [VRel] at h2; obtain ⟨xs, rfl, _⟩ := h2
    injection hw with hw; subst hw
    exact tH hF.fr (by rw [hg]; simp only [sG, look, hd]; simp [fA, h1])
   ·cases hw
  ·cases hw
end
def Go (P : Program) (K : Ctx) (Q : Exit → Act → World → Prop) (p : EP) (s : List EI) (n : Nat) (F : Fm) (H : Hp) : Prop :=
 ∀ S w ρ a, HRel S w ρ H.get → Inv K S w ρ H.get → FRel S w ρ a n F → EP.wp P Q p s S w ρ a
def CallR (P : Program) (K : Ctx) (fid : FuncId) (vs : List V) (H : Hp) (L : List Nat) (Post : V → Hp → Prop) : Prop :=
  ∀ S w ρ xs, HRel S w ρ H.get → Inv K S w ρ H.get → LRel S w ρ vs xs → Calls P fid xs.toArray w fun e w' =>
    ∃ x S' ρ' v H', e = .returned x ∧ Post v H' ∧ HRel S' w' ρ' H'.get ∧ Inv K S' w' ρ' H'.get ∧ Up S S' w w' ρ ρ' ∧ VRel S' w' ρ' v x ∧ Ls ρ L w w'
def vy (v : Option V) : Option V := match v with
 | some v => some v
 | none => some (.tup [])
section
variable {P : Program} {T : Tab} {K : Ctx} {Q : Exit → Act → World → Prop} {s : List EI} {n : Nat} {F : Fm} {H : Hp}
theorem pD {S : Nat → Prop} {w : World} {ρ : Nat → Option Value} : VRel S w ρ (.tup []) undef := by
 simp only [VRel]; exact ⟨[], rfl, by simp [LRel]⟩
theorem mU {S : Nat → Prop} {w : World} {ρ : Nat → Option Value} {a : Act} (hF : FRel S w ρ a n F) (d : Option Tmp) : FRel S w ρ (a.put d undef) n (F.seto d (some (.tup []))) :=
 hF.set d (fun u hu => by injection hu with hu; subst hu; exact pD)
theorem bO {S : Nat → Prop} {w : World} {ρ : Nat → Option Value} {a : Act} {v : V} {x : Value} (hF : FRel S w ρ a n F) (d : Option Tmp) (hx : VRel S w ρ v x) : FRel S w ρ (a.put d x) n (F.seto d (some v)) :=
 hF.set d (fun u hu => by injection hu with hu; subst hu; exact hx)
theorem zV {x y : Code} (k : Go P K Q (.code x) (.seq y :: s) n F H) : Go P K Q (.code (.seq x y)) s n F H := fun S w ρ a hr hi hF => wp_seq (k S w ρ a hr hi hF)
theorem vc {id : Nat} {c : Code} (k : Go P K Q (.code c) (.blk id :: s) n F H) : Go P K Q (.code (.block id c)) s n F H := fun S w ρ a hr hi hF => wp_block (k S w ρ a hr hi hF)
theorem xP (k : Go P K Q (.ex .normal) s n F H) : Go P K Q (.code .skip) s n F H := fun S w ρ a hr hi hF => wp_skip (k S w ρ a hr hi hF)
theorem go_ret (k : Go P K Q (.ex .ret) s n F H) : Go P K Q (.code .ret) s n F H := fun S w ρ a hr hi hF => wp_ret (k S w ρ a hr hi hF)
theorem xf {id : Nat} (k : Go P K Q (.ex (.exit id)) s n F H) : Go P K Q (.code (.exit id)) s n F H := fun S w ρ a hr hi hF => wp_exit (k S w ρ a hr hi hF)
theorem Cj {l : Nat} (k : Go P K Q (.ex .normal) s n F H) : Go P K Q (.code (.label l)) s n F H := fun S w ρ a hr hi hF => wp_label (k S w ρ a hr hi hF)
theorem Cc {c : Code} (k : Go P K Q (.code c) (.scp :: s) n F H) : Go P K Q (.code (.scope c)) s n F H := fun S w ρ a hr hi hF => wp_scope_straight (k S w ρ a hr hi hF)
theorem go_loop {c : Code} (j : Nat) (k : Go P K Q (.code c) (.loop c j :: s) n F H) : Go P K Q (.code (.loop c)) s n F H := fun S w ρ a hr hi hF => wp_loop_rounds (j + 1) (k S w ρ a hr hi hF)
theorem va {c : Operand} {x y : Code} (hc : aJ F c = some (.bool true)) (k : Go P K Q (.code x) s n F H) : Go P K Q (.code (.cond c x y)) s n F H := fun S w ρ a hr hi hF => Ci hF.fr (lM (al hF hc)) (k S w ρ a hr hi hF)
theorem wb {c : Operand} {x y : Code} (hc : aJ F c = some (.bool false)) (k : Go P K Q (.code y) s n F H) : Go P K Q (.code (.cond c x y)) s n F H := fun S w ρ a hr hi hF => Ce hF.fr (lM (al hF hc)) (k S w ρ a hr hi hF)
theorem ua {id : Nat} {l : List Oper} (k : Go P K Q (.ops l.toArray l) s n F H) : Go P K Q (.code (.region id l.toArray false)) s n F H := fun S w ρ a hr hi hF => wp_region_lit (k S w ρ a hr hi hF)
theorem Ag {all : Array Oper} (k : Go P K Q (.ex .normal) s n F H) : Go P K Q (.ops all []) s n F H := fun S w ρ a hr hi hF => k S w ρ a hr hi hF
theorem xy {c : Code} (k : Go P K Q (.code c) s n F H) : Go P K Q (.ex .normal) (.seq c :: s) n F H := k
theorem ve {c : Code} {i : Nat} (k : Go P K Q (.ex (.exit i)) s n F H) : Go P K Q (.ex (.exit i)) (.seq c :: s) n F H := k
theorem wv {c : Code} (k : Go P K Q (.ex .ret) s n F H) : Go P K Q (.ex .ret) (.seq c :: s) n F H := k
theorem go_xloop {c : Code} {j : Nat} (k : Go P K Q (.code c) (.loop c j :: s) n F H) : Go P K Q (.ex .normal) (.loop c (j + 1) :: s) n F H := fun S w ρ a hr hi hF => k S w ρ a hr hi hF
theorem go_xloopE {c : Code} {j i : Nat} (k : Go P K Q (.ex (.exit i)) s n F H) : Go P K Q (.ex (.exit i)) (.loop c j :: s) n F H := k
theorem go_xloopR {c : Code} {j : Nat} (k : Go P K Q (.ex .ret) s n F H) : Go P K Q (.ex .ret) (.loop c j :: s) n F H := k
theorem wu {id : Nat} (k : Go P K Q (.ex .normal) s n F H) : Go P K Q (.ex .normal) (.blk id :: s) n F H := k
theorem vn {id : Nat} (k : Go P K Q (.ex .ret) s n F H) : Go P K Q (.ex .ret) (.blk id :: s) n F H := k
theorem wf {id i : Nat} (hb : Nat.beq i id = true) (k : Go P K Q (.ex .normal) s n F H) : Go P K Q (.ex (.exit i)) (.blk id :: s) n F H := fun S w ρ a hr hi hF => by
 have := Nat.eq_of_beq_eq_true hb
 subst this
 simp only [EP.wp, cJ, Exit.inBlock, if_true]
 exact k S w ρ a hr hi hF
theorem vp {id i : Nat} (hb : Nat.beq i id = false) (k : Go P K Q (.ex (.exit i)) s n F H) : Go P K Q (.ex (.exit i)) (.blk id :: s) n F H := fun S w ρ a hr hi hF => by
 simp only [EP.wp, cJ, Exit.inBlock, if_neg (Nat.ne_of_beq_eq_false hb)]
 exact k S w ρ a hr hi hF
theorem BI (k : Go P K Q (.ex .normal) s n F H) : Go P K Q (.ex .normal) (.scp :: s) n F H := k
theorem BY {i : Nat} (k : Go P K Q (.ex (.exit i)) s n F H) : Go P K Q (.ex (.exit i)) (.scp :: s) n F H := k
theorem BF (k : Go P K Q (.ex .ret) s n F H) : Go P K Q (.ex .ret) (.scp :: s) n F H := k
variable {all : Array Oper} {rest : List Oper} {o : Oper}
theorem Af (hw : bf F all o.guard = some false) (k : Go P K Q (.ops all rest) s n (F.seto o.dst (some (.tup []))) H) : Go P K Q (.ops all (o :: rest)) s n F H := fun S w ρ a hr hi hF => by
 show wpList P all (cJ P Q s) (o :: rest) a w
 unfold wpList
 rw [bF hF hw]
 simp only [Bool.false_eq_true, if_false]
 exact k S w ρ _ hr hi (mU hF o.dst)
theorem go_opY {v : V} (hw : bf F all o.guard = some true) (hy : ∀ S w ρ a, HRel S w ρ H.get → FRel S w ρ a n F → Yld P S w ρ a o.type o.op v) (k : Go P K Q (.ops all rest) s n (F.seto o.dst (some v)) H) : Go P K Q (.ops all (o :: rest)) s n F H := fun S w ρ a hr hi hF => by
 show wpList P all (cJ P Q s) (o :: rest) a w
 unfold wpList
 rw [if_pos (bF hF hw)]
 refine .inl ?_
 obtain ⟨x, h1, h2⟩ := hy S w ρ a hr hF
 obtain ⟨d, op, ty, ps, af, g⟩ := o
 unfold Oper.wp
 rw [h2 w Agree.refl d ps af g]
 exact k S w ρ _ hr hi (bO hF d h1)
theorem go_opP (hT : TabOk P T) {v : V} (hw : bf F all o.guard = some true) (hv : kI T H.get F o.op = some v) (k : Go P K Q (.ops all rest) s n (F.seto o.dst (some v)) H) : Go P K Q (.ops all (o :: rest)) s n F H :=
 go_opY hw (fun S w ρ a hr hF => pu hT hr hF hv) k
theorem go_opD {v : Option V} {ed : ED} (hw : bf F all o.guard = some true) (hd : ∀ S w ρ a, HRel S w ρ H.get → FRel S w ρ a n F → Does P S w ρ H.get a o.type o.op v (ed.app H.get H.nx) ed.tch) (hl : ed.ok H.get) (k : Go P K Q (.ops all rest) s n (F.seto o.dst (vy v)) (H.app ed)) : Go P K Q (.ops all (o :: rest)) s n F H := fun S w ρ a hr hi hF => by
 show wpList P all (cJ P Q s) (o :: rest) a w
 unfold wpList
 rw [if_pos (bF hF hw)]
 refine .inl ?_
 obtain ⟨nx, w', ρ', h1, h2, h3⟩ := hd S w ρ a hr hF
 have hr' := h2.hr
 have hi' := hi.eff h2
 rw [← Hp.get_app hl] at hr' hi'
 obtain ⟨d, op, ty, ps, af, g⟩ := o
 unfold Oper.wp
 rw [h1 d ps af g]
 cases v with
 | none =>
  subst h3
  exact k S w' ρ' _ hr' hi' (mU (hF.up h2.up) d)
 | some v =>
  obtain ⟨x, rfl, h4⟩ := h3
  exact k S w' ρ' _ hr' hi' (bO (hF.up h2.up) d h4)
theorem go_opE (hT : TabOk P T) {v : Option V} {ed : ED} (hw : bf F all o.guard = some true) (hv : jZ T H.get F H.nx o.op = some (v, ed)) (k : Go P K Q (.ops all rest) s n (F.seto o.dst (vy v)) (H.app ed)) : Go P K Q (.ops all (o :: rest)) s n F H :=
 go_opD hw (fun S w ρ a hr hF => rh hT hr hF H.get_free hv) (nJ hv) k
theorem go_opC {fid : FuncId} {args : List Operand} {tys : Array TypeId} {vs : List V} {Post : V → Hp → Prop} (he : de P fid = true) (ho : o.op = .call { callee := .value (.func fid), args := args.toArray, argTypes := tys }) (hw : bf F all o.guard = some true) (hv : gl F args = some vs) (hC : CallR P K fid vs H [] Post)
  (k : ∀ v H', Post v H' → Go P K Q (.ops all rest) s n (F.seto o.dst (some v)) H') : Go P K Q (.ops all (o :: rest)) s n F H := fun S w ρ a hr hi hF => by
 show wpList P all (cJ P Q s) (o :: rest) a w
 unfold wpList
 rw [if_pos (bF hF hw)]
 refine .inl ?_
 obtain ⟨xs, h1, h2⟩ := lJ hF hv
 have hc := hC S w ρ xs hr hi h2
 obtain ⟨d, op, ty, ps, af, g⟩ := o
 simp only at ho
 subst ho
 have hx : (execOp a.eval ⟨d, .call { callee := .value (.func fid), args := args.toArray, argTypes := tys }, ty, ps, af, g⟩).run P w = .ok (.enter fid xs.toArray) w := by
  have e : args.toArray.map a.eval = xs.toArray := by rw [← hF.fr.vals h1]; simp
  simp only [execOp, resolve, e]
  simp [Act.eval, Deferred.ofValue, invoke, kG he]
 unfold Oper.wp
 rw [hx, Oper.upon_enter]
 refine hc.mono fun e w1 hR => ?_
 obtain ⟨x, S', ρ', v, H', rfl, hp, hr', hi', hu, hvr, _⟩ := hR
 exact k v H' hp S' w1 ρ' _ hr' hi' (bO (hF.up hu) d hvr)
theorem yb {id : Nat} {l : List Oper} (L : List Nat) (m sz : Nat) (hsz : l.length = sz) (hm : P.follows .mixedOrders = true) (hs : Region.noSelect l.toArray = true) (k : Go P K Q (.drw l.toArray L m sz (Array.replicate sz false)) s n F H) : Go P K Q (.code (.region id l.toArray true)) s n F H := fun S w ρ a hr hi hF => by
 refine wp_region_noPanic (wp_region_any hm (tc (B := Agree S { w with drawn := w.drawn + 1 }) (S := Ls ρ L { w with drawn := w.drawn + 1 }) (m := m) _ _ _ _ ?_))
 have hc := Chg.drew w
 have := k S { w with drawn := w.drawn + 1 } ρ a (hr.chg0 hc) (hi.chg0 hc) (hF.up (Up.chg0 hc)) hs
 subst hsz
 simpa using this
variable {L : List Nat} {m left i : Nat} {listed : Array Bool}
theorem vA (hd : Region.ready .any all listed = []) (k : Go P K Q (.ex .normal) s n F H) : Go P K Q (.drw all L m left listed) s n F H := fun S w ρ a hr hi hF _ => by
 have hk := k S w ρ a hr hi hF
 cases left with
 | zero => exact ⟨hd, hk⟩
 | succ left => exact ⟨fun _ => hk, by rw [hd]; simp⟩
theorem qh {S S' : Nat → Prop} {w w' : World} (hS : ∀ b, S b → S' b) (h1 : Agree S w w') : ∀ x, Agree S' w' x → Agree S w x := fun x hx b hb => (hx b (hS b hb)).trans (h1 b hb)
theorem Du {ρ ρ' : Nat → Option Value} {w w' : World} (hρ : ∀ i x, ρ i = some x → ρ' i = some x) (h1 : Ls ρ L w w') : ∀ x, Ls ρ' L w' x → Ls ρ L w x := fun x hx id hid y b hy hb => (hx id hid y b (hρ _ _ hy) hb).trans (h1 id hid y b hy hb)
theorem hV {S S' : Nat → Prop} {w w' : World} {ρ ρ' : Nat → Option Value} {a : Act} (hu : Up S S' w w' ρ ρ') (hA : Agree S w w') (hL : Ls ρ L w w' ∨ listed.getD m false = true) (h : wpB P all (NoPanic (cJ P Q s)) (Agree S' w') (Ls ρ' L w') m left listed a w') :
  Agree S w w' ∧ (Ls ρ L w w' ∨ listed.getD m false = true) ∧ wpB P all (NoPanic (cJ P Q s)) (Agree S w) (Ls ρ L w) m left listed a w' := by
 refine ⟨hA, hL, ?_⟩
 rcases hL with hL | hL
 ·exact sw (qh hu.s hA) (fun x _ => Du hu.r hL x) _ _ _ _ h
 · -- number m has come up: S does not matter any more
  have key : ∀ (fuel : Nat) (listed : Array Bool) (a : Act) (w'' : World), listed.getD m false = true → wpB P all (NoPanic (cJ P Q s)) (Agree S' w') (Ls ρ' L w') m fuel listed a w'' → wpB P all (NoPanic (cJ P Q s)) (Agree S w) (Ls ρ L w) m fuel listed a w'' := by
   intro fuel
   induction fuel with
   | zero => intro _ _ _ _ h; exact h
   | succ fuel ih =>
    intro listed a w'' hl h
    exact ⟨h.1, fun i hi => wpOp_mono (fun a' w3 h' => ⟨qh hu.s hA _ h'.1, .inr (jN hl), ih _ _ _ (jN hl) h'.2.2⟩) (h.2 i hi)⟩
  exact key _ _ _ _ hL h
theorem lW {ρ : Nat → Option Value} {w : World} : Ls ρ L w w := fun _ _ _ _ _ _ => rfl
theorem CK {v : V} (him : Nat.beq i m = false) (hi : all[i]? = some o) (hf : Region.free .any all listed i = true) (hrd : (Region.ready .any all listed).contains i = true) (hw : bf F all o.guard = some true) (hy : ∀ S w ρ a, HRel S w ρ H.get → FRel S w ρ a n F → Yld P S w ρ a o.type o.op v)
  (k : Go P K Q (.drw all L m left (listed.setIfInBounds i true)) s n (F.seto o.dst (some v)) H) : Go P K Q (.drw all L m (left + 1) listed) s n F H := fun S w ρ a hr hiv hF hs => by
 obtain ⟨x, h1, h2⟩ := hy S w ρ a hr hF
 refine wpB_pure (Nat.ne_of_beq_eq_false him) hi (Region.noSelect_spec hs) (fun _ _ _ h => h.elim) left listed a w (Region.free_spec hi hf) (by simpa using hrd) (.inl ⟨bF hF hw, fun w' hA => ?_⟩) Agree.refl (.inl lW) (k S w ρ _ hr hiv (bO hF o.dst h1) hs)
 obtain ⟨d, op, ty, ps, af, g⟩ := o
 exact h2 w' hA d ps af g
theorem CD (hT : TabOk P T) {v : V} (him : Nat.beq i m = false) (hi : all[i]? = some o) (hf : Region.free .any all listed i = true) (hrd : (Region.ready .any all listed).contains i = true) (hw : bf F all o.guard = some true) (hv : kI T H.get F o.op = some v)
 (k : Go P K Q (.drw all L m left (listed.setIfInBounds i true)) s n (F.seto o.dst (some v)) H) : Go P K Q (.drw all L m (left + 1) listed) s n F H := CK him hi hf hrd hw (fun S w ρ a hr hF => pu hT hr hF hv) k
theorem zA (him : Nat.beq i m = false) (hi : all[i]? = some o) (hf : Region.free .any all listed i = true) (hrd : (Region.ready .any all listed).contains i = true) (hw : bf F all o.guard = some false)
  (k : Go P K Q (.drw all L m left (listed.setIfInBounds i true)) s n (F.seto o.dst (some (.tup []))) H) : Go P K Q (.drw all L m (left + 1) listed) s n F H := fun S w ρ a hr hiv hF hs =>
 wpB_pure (Nat.ne_of_beq_eq_false him) hi (Region.noSelect_spec hs) (fun _ _ _ h => h.elim) left listed a w (Region.free_spec hi hf) (by simpa using hrd) (.inr ⟨bF hF hw, rfl⟩) Agree.refl (.inl lW) (k S w ρ _ hr hiv (mU hF o.dst) hs)
def pf (F : Fm) (op : Op) : Option Nat := match op with
 |.load _ x => match aJ F x with
  | some (.ptr id _) => some id
  | some (.el id _ _ _) => some id
  | _ => none
 | _ => none
theorem zF (hT : TabOk P T) {S : Nat → Prop} {w : World} {ρ : Nat → Option Value} {h : Nat → Ob} {a : Act} {op : Op} {ty : TypeId} {id nid : Nat} {v : V} {ed : ED} (hr : HRel S w ρ h) (hF : FRel S w ρ a n F) (hid : pf F op = some id) (hv : jZ T h F nid op = some (some v, ed)) :
  ∃ x u b, VRel S w ρ v x ∧ ρ id = some u ∧ vblk u = some b ∧ ∀ w', w'.heap[b]? = w.heap[b]? → Runs P a ty op w' (.value x) w' := by
 have fr := hF.fr
 unfold pf at hid
 split at hid
 ·rename_i t x
  unfold jZ at hv
  simp only at hv
  split at hid
  ·rename_i id' o' hx
   injection hid with hid; subst hid
   rw [hx] at hv
   simp only at hv
   split at hv
   ·rename_i d hd
    split at hv
    ·rename_i ho
     split at hv
     ·rename_i u hu
      simp only [Option.some.injEq, Prod.mk.injEq] at hv
      obtain ⟨rfl, rfl⟩ := hv
      rcases mb (hT.ty _ _ hd) hu with ⟨h1, h2⟩ | ⟨h1, h2, rfl⟩
      ·obtain ⟨b, y, g1, g2, g3, g4⟩ := xO (P := P) (ty := ty) hr fr (al hF hx) ho h1 h2
       exact ⟨y, _, b, g3, g1, rfl, fun w' hw => g4 w' ((World.cell?_of_block (a := ⟨b, _, none⟩) hw).trans g2)⟩
      ·obtain ⟨b, ys, g1, g2, g3, g4⟩ := vU (P := P) (ty := ty) hr fr (al hF hx) ho h1 h2
       exact ⟨_, _, b, by simp only [VRel]; exact ⟨ys, rfl, g3⟩, g1, rfl, fun w' hw => g4 w' (fun j hj => (World.cell?_of_block (a := ⟨b, _, none⟩) hw).trans (g2 j hj))⟩
     ·cases hv
    ·cases hv
   ·cases hv
  ·rename_i id' sz i' o' hx
   injection hid with hid; subst hid
   rw [hx] at hv
   simp only at hv
   split at hv
   ·rename_i d hd
    split at hv
    ·rename_i ho
     split at hv
     ·rename_i hb
      have := Nat.eq_of_beq_eq_true hb
      subst this
      split at hv
      ·rename_i v0 hi
       rw [ll] at hi
       split at hv
       ·rename_i u hu
        simp only [Option.some.injEq, Prod.mk.injEq] at hv
        obtain ⟨rfl, rfl⟩ := hv
        have hbk : ∀ (q : Value) (b : Nat), q.ownBlock = some b → vblk q = some b := fun q b hq => by
         cases q <;> first | (simp only [Value.ownBlock] at hq; cases hq; done) | skip
         rename_i A _ _
         cases A <;> simp_all [Value.ownBlock, vblk]
        rcases mb (hT.ty _ _ hd) hu with ⟨h1, h2⟩ | ⟨h1, h2, rfl⟩
        ·obtain ⟨b, q, y, g1, g1', g2, g3, g4⟩ := vF (P := P) (ty := ty) hr fr (al hF hx) ho h1 hi h2
         exact ⟨y, q, b, g3, g1, hbk q b g1', fun w' hw => g4 w' ((World.cell?_of_block (a := ⟨b, _, none⟩) hw).trans g2)⟩
        ·obtain ⟨b, q, ys, g1, g1', g2, g3, g4⟩ := uE (P := P) (ty := ty) hr fr (al hF hx) ho h1 hi h2
         exact ⟨_, q, b, by simp only [VRel]; exact ⟨ys, rfl, g3⟩, g1, hbk q b g1', fun w' hw => g4 w' (fun j hj => (World.cell?_of_block (a := ⟨b, _, none⟩) hw).trans (g2 j hj))⟩
       ·cases hv
      ·cases hv
     ·cases hv
    ·cases hv
   ·cases hv
  ·cases hid
 ·cases hid
theorem CG (hT : TabOk P T) {v : V} {id : Nat} {ed : ED} (him : Nat.beq i m = false) (hwt : ta .any all m i = true) (hlm : listed.getD m false = false) (hi : all[i]? = some o) (hf : Region.free .any all listed i = true) (hrd : (Region.ready .any all listed).contains i = true) (hw : bf F all o.guard = some true)
  (hid : pf F o.op = some id) (hL : L.contains id = true) (hv : jZ T H.get F H.nx o.op = some (some v, ed))
  (k : Go P K Q (.drw all L m left (listed.setIfInBounds i true)) s n (F.seto o.dst (some v)) H) : Go P K Q (.drw all L m (left + 1) listed) s n F H := fun S w ρ a hr hiv hF hs => by
 obtain ⟨x, u, b, h1, h2, h3, h4⟩ := zF (ty := o.type) hT hr hF hid hv
 refine BP (Nat.ne_of_beq_eq_false him) hwt hi (Region.noSelect_spec hs) (fun _ _ _ h => h.elim) left listed a w (Region.free_spec hi hf) (by simpa using hrd) (.inl ⟨bF hF hw, fun w' hA => ?_⟩) Agree.refl lW hlm (k S w ρ _ hr hiv (bO hF o.dst h1) hs)
 have hb := hA.2 id (by simpa using hL) u b h2 h3
 obtain ⟨d, op, ty, ps, af, g⟩ := o
 exact h4 w' hb d ps af g
def cf (h : Nat → Ob) : List Nat → Bool
 | [] => true
 |i :: r => match h i with
  | .var _ _ => cf h r
  | .row _ _ _ => cf h r
  | _ => false
theorem kg {S : Nat → Prop} {w : World} {ρ : Nat → Option Value} {h : Nat → Ob} (hr : HRel S w ρ h) : ∀ {L : List Nat}, cf h L = true → ∀ id, id ∈ L → ∀ x b, ρ id = some x → vblk x = some b → own ρ id (h id) b
 | [], _, id, hid, x, b, hx, hb => by simp at hid
 | j :: r, hl, id, hid, x, b, hx, hb => by
  have hown : ∀ o, h j = o → (∃ t cs, o = .var t cs) ∨ (∃ e sz els, o = .row e sz els) → ∀ x b, ρ j = some x → vblk x = some b → own ρ j (h j) b := by
   rintro o ho (⟨t, cs, rfl⟩ | ⟨e, sz, els, rfl⟩) x b hx hb
   ·obtain ⟨c, xs, g1, _⟩ := ni hr ho
    rw [g1] at hx; cases hx
    simp only [vblk, Option.some.injEq] at hb; subst hb
    rw [ho]; exact g1
   ·obtain ⟨v, xs, g1, g2, _⟩ := hW hr ho
    rw [g1] at hx; cases hx
    rw [ho]
    refine ⟨_, g1, ?_⟩
    obtain ⟨A, c, rfl, _⟩ := ea g2
    cases A <;> simp_all [Value.ownBlock, vblk]
  simp only [cf] at hl
  rcases List.mem_cons.1 hid with e | e
  ·subst e
   split at hl
   ·rename_i t cs ho; exact hown _ ho (.inl ⟨t, cs, rfl⟩) x b hx hb
   ·rename_i e sz els ho; exact hown _ ho (.inr ⟨e, sz, els, rfl⟩) x b hx hb
   ·cases hl
  ·split at hl
   ·exact kg hr hl id e x b hx hb
   ·exact kg hr hl id e x b hx hb
   ·cases hl
def ED.clear (L : List Nat) : ED → Bool
 | .nop => true
 | .new _ => true
 | .set id _ => !L.contains id
 | .repl id _ => !L.contains id
theorem wm {S : Nat → Prop} {w w' : World} {ρ ρ' : Nat → Option Value} {h h' : Nat → Ob} {ed : ED} (hr : HRel S w ρ h) (he : Eff S w w' ρ ρ' h h' ed.tch) (hl : cf h L = true) (hc : ed.clear L = true) : Ls ρ L w w' := fun id hid x b hx hb => by
 have ho := kg hr hl id hid x b hx hb
 refine he.chg.block b (eh (hr.ob id) ho) ?_
 rintro ⟨j, hj, hjo⟩
 have e := hr.dis j id b hjo ho
 subst e
 cases ed with
 | nop => exact hj
 | new _ => exact hj
 | set k _ => simp only [ED.tch] at hj; subst hj; simp [ED.clear] at hc; exact hc hid
 | repl k _ => simp only [ED.tch] at hj; subst hj; simp [ED.clear] at hc; exact hc hid
theorem rq {a b : Bool} (h : (a || b) = true) : a = true ∨ b = true := by simpa using h
theorem lY {S : Nat → Prop} {B : World → Prop} {Sx : World → Prop} {a : Act} {w : World} {Q' : Exit → Act → World → Prop} (hrd : Region.ready .any all listed = [i]) (hk : wpOp P all Q' i (fun a' w' => B w' ∧ (Sx w' ∨ (listed.setIfInBounds i true).getD m false = true) ∧ wpB P all Q' B Sx m left (listed.setIfInBounds i true) a' w') a w) : wpB P all Q' B Sx m (left + 1) listed a w := by
 refine ⟨fun h0 => (by rw [hrd] at h0; cases h0), fun j hj => ?_⟩
 rw [hrd] at hj
 obtain rfl : j = i := by simpa using hj
 exact hk
theorem go_d1S (hrd : Region.ready .any all listed = [i]) (hi : all[i]? = some o) (hw : bf F all o.guard = some false) (k : Go P K Q (.drw all L m left (listed.setIfInBounds i true)) s n (F.seto o.dst (some (.tup []))) H) : Go P K Q (.drw all L m (left + 1) listed) s n F H := fun S w ρ a hr hiv hF hs => by
 refine lY (S := S) hrd ?_
 unfold wpOp
 simp only [hi]
 rw [bF hF hw]
 simp only [Bool.false_eq_true, if_false]
 exact ⟨Agree.refl, .inl lW, k S w ρ _ hr hiv (mU hF o.dst) hs⟩
theorem AL {v : V} (hrd : Region.ready .any all listed = [i]) (hi : all[i]? = some o) (hw : bf F all o.guard = some true) (hy : ∀ S w ρ a, HRel S w ρ H.get → FRel S w ρ a n F → Yld P S w ρ a o.type o.op v)
  (k : Go P K Q (.drw all L m left (listed.setIfInBounds i true)) s n (F.seto o.dst (some v)) H) : Go P K Q (.drw all L m (left + 1) listed) s n F H := fun S w ρ a hr hiv hF hs => by
 refine lY (S := S) hrd ?_
 obtain ⟨x, h1, h2⟩ := hy S w ρ a hr hF
 unfold wpOp
 simp only [hi]
 rw [if_pos (bF hF hw)]
 refine .inl ?_
 have hk := k S w ρ _ hr hiv (bO hF o.dst h1) hs
 obtain ⟨d, op, ty, ps, af, g⟩ := o
 unfold Oper.wp
 rw [h2 w Agree.refl d ps af g]
 exact ⟨Agree.refl, .inl lW, hk⟩
theorem vO {v : Option V} {ed : ED} (hrd : Region.ready .any all listed = [i]) (hi : all[i]? = some o) (hw : bf F all o.guard = some true) (hd : ∀ S w ρ a, HRel S w ρ H.get → FRel S w ρ a n F → Does P S w ρ H.get a o.type o.op v (ed.app H.get H.nx) ed.tch) (hl : ed.ok H.get)
  (hc : ((cf H.get L && ed.clear L) || (listed.setIfInBounds i true).getD m false) = true) (k : Go P K Q (.drw all L m left (listed.setIfInBounds i true)) s n (F.seto o.dst (vy v)) (H.app ed)) : Go P K Q (.drw all L m (left + 1) listed) s n F H := fun S w ρ a hr hiv hF hs => by
 refine lY (S := S) hrd ?_
 obtain ⟨nx, w', ρ', h1, h2, h3⟩ := hd S w ρ a hr hF
 have hr' := h2.hr
 have hi' := hiv.eff h2
 rw [← Hp.get_app hl] at hr' hi'
 have hA := nm hr h2
 have hLs : Ls ρ L w w' ∨ (listed.setIfInBounds i true).getD m false = true := (rq hc).imp (fun h => by
  simp only [Bool.and_eq_true] at h
  exact wm hr h2 h.1 h.2) id
 unfold wpOp
 simp only [hi]
 rw [if_pos (bF hF hw)]
 refine .inl ?_
 have kN := fun (e : v = none) => k S w' ρ' (a.put o.dst undef) hr' hi' (by subst e; exact mU (hF.up h2.up) o.dst) hs
 have kV := fun (x : Value) (u : V) (e : v = some u) (hx : VRel S w' ρ' u x) => k S w' ρ' (a.put o.dst x) hr' hi' (by subst e; exact bO (hF.up h2.up) o.dst hx) hs
 obtain ⟨d, op, ty, ps, af, g⟩ := o
 unfold Oper.wp
 rw [h1 d ps af g]
 cases v with
 | none =>
  subst h3
  exact hV h2.up hA hLs (kN rfl)
 | some v =>
  obtain ⟨x, rfl, h4⟩ := h3
  exact hV h2.up hA hLs (kV x v rfl h4)
theorem go_d1C {fid : FuncId} {args : List Operand} {tys : Array TypeId} {vs : List V} {Post : V → Hp → Prop} {L' : List Nat} (he : de P fid = true) (hrd : Region.ready .any all listed = [i]) (hi : all[i]? = some o) (ho : o.op = .call { callee := .value (.func fid), args := args.toArray, argTypes := tys }) (hw : bf F all o.guard = some true) (hv : gl F args = some vs) (hC : CallR P K fid vs H L' Post)
  (hc : L' = L ∨ (listed.setIfInBounds i true).getD m false = true) (k : ∀ v H', Post v H' → Go P K Q (.drw all L m left (listed.setIfInBounds i true)) s n (F.seto o.dst (some v)) H') : Go P K Q (.drw all L m (left + 1) listed) s n F H := fun S w ρ a hr hiv hF hs => by
 refine lY (S := S) hrd ?_
 obtain ⟨xs, h1, h2⟩ := lJ hF hv
 have hcl := hC S w ρ xs hr hiv h2
 unfold wpOp
 simp only [hi]
 rw [if_pos (bF hF hw)]
 refine .inl ?_
 obtain ⟨d, op, ty, ps, af, g⟩ := o
 simp only at ho
 subst ho
 have hx : (execOp a.eval ⟨d, .call { callee := .value (.func fid), args := args.toArray, argTypes := tys }, ty, ps, af, g⟩).run P w = .ok (.enter fid xs.toArray) w := by
  have e : args.toArray.map a.eval = xs.toArray := by rw [← hF.fr.vals h1]; simp
  simp only [execOp, resolve, e]
  simp [Act.eval, Deferred.ofValue, invoke, kG he]
 unfold Oper.wp
 rw [hx, Oper.upon_enter]
 refine hcl.mono fun e w1 hR => ?_
 obtain ⟨x, S', ρ', v, H', rfl, hp, hr', hi', hu, hvr, hls⟩ := hR
 have hk := k v H' hp S' w1 ρ' _ hr' hi' (bO (hF.up hu) d hvr) hs
 exact hV hu (fun b hb => hu.blk b hb (hr.slt b hb)) (hc.imp (fun e => by subst e; exact hls) id) hk
end
end Go.Proofs.YthnohcipianijaaGreatDoor
