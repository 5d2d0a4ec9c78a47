/- Contracts of the functions that the law reaches, part 1. -/
import Derived.Test.YthnohcipianijaaGreatDoorProg
import Derived.WalkKit
import Derived.WalkMore
import Derived.Lib.Hide
import Derived.Below
import Derived.Laws.OwnMore
import Derived.Deep.AppendLies
import Derived.Deep.Draws
import Derived.Maps.AppendAt
import Derived.OrdersHeld
import Derived.Deep.RegionHeld3
import Derived.Deep.LoopGhost
import Derived.Laws.MakeOwn
import Derived.LoopN
import Derived.Scope
import Derived.Maps.Keyed
import Derived.Laws.StructEq
import Derived.WideKeyRuns
import Derived.Laws.Pointers
import Derived.ChangeKeysEq
import Derived.Laws.BytesArg
import Derived.WalkLawsBesides
import Derived.WalkSpells
import Derived.Outline
import Derived.Deep.Light
import Derived.Lib.Bytealg
import Derived.Lib.Walk
import Derived.BigQuiet
import Derived.Deep.QuietTactic
import Derived.Shelf.Strconv.ParseIntPublic10
import Derived.Test.YthnohcipianijaaGreatDoorRows
import Derived.ProofKit
import Derived.OpenShut
import Derived.Deep.DeepHandedRow
import Derived.LaidLaws
import Derived.ShutString
import Derived.SizedLaws
import Derived.JoinedCond
import Derived.Deep.CondSized
import Derived.Test.YthnohcipianijaaGreatDoorCards
import Derived.Test.YthnohcipianijaaGreatDoorTie
set_option linter.unusedVariables false
set_option linter.unusedSimpArgs false
namespace Go.Proofs.YthnohcipianijaaGreatDoor
open Go.RowKit
structure Fr (a : Act) (n : Nat) (f : Nat → Option Value) : Prop where
 size : a.tmps.size = n
 defers : a.defers = []
 get : ∀ i v, f i = some v → a.tmps[i]? = some v
def up (f : Nat → Option Value) (d : Nat) (v : Value) : Nat → Option Value := fun i => match Nat.beq i d with | true => some v | false => f i
def look (f : Nat → Option Value) (ops : Array Oper) (j : Nat) : Option Value := ((ops[j]?).bind (·.dst)).bind f
def nF (f : Nat → Option Value) (ops : Array Oper) (g : Option (Nat × Bool)) : Bool :=
 match g with
 | none => true
 |some (j, b) => match look f ops j with
  | some (.bool c) => c == b
  | _ => false
def lU (f : Nat → Option Value) (ops : Array Oper) (g : Option (Nat × Bool)) : Bool :=
 match g with
 | none => false
 |some (j, b) => match look f ops j with
  | some (.bool c) => c != b
  | some (.tuple _) => true
  | _ => false
def ay (f : Nat → Option Value) : Operand → Option Value
 | .tmp t => f t
 | .const v => some v
 | .global g => some (.pointer (some ⟨g, 0, none⟩))
 | .func g => some (.func (.func g) #[] #[])
section
variable {P : Program} {ops : Array Oper} {Q : Exit → Act → World → Prop} {a : Act} {w : World} {rest : List Oper} {n : Nat} {f : Nat → Option Value}
theorem Fr.eval (h : Fr a n f) {x : Operand} {v : Value} (hx : ay f x = some v) : a.eval x = v := by
 cases x with
 | tmp t =>
  have := h.get t v hx
  simp [Act.eval, Array.getD_eq_getD_getElem?, this]
 | const u => simpa [ay, Act.eval] using hx
 | global g => simpa [ay, Act.eval] using hx
 | func g => simpa [ay, Act.eval] using hx
theorem Fr.put (h : Fr a n f) {d : Nat} (hd : Nat.blt d n = true) (v : Value) : Fr (a.put (some d) v) n (up f d v) := by
 have hd' : d < n := by simpa using hd
 refine ⟨by simp [Act.put, h.size], h.defers, fun i u hi => ?_⟩
 simp only [up] at hi
 simp only [Act.put]
 split at hi
 ·rename_i hb
  have : i = d := Nat.eq_of_beq_eq_true hb
  subst this
  rw [Array.getElem?_setIfInBounds]
  simp [h.size, hd']; simpa using hi
 ·rename_i hb
  have : ¬ i = d := fun e => by subst e; simp at hb
  rw [Array.getElem?_setIfInBounds, if_neg (fun e => this e.symm)]
  exact h.get i u hi
theorem Fr.le (h : Fr a n f) {g : Nat → Option Value} (hg : ∀ i v, g i = some v → f i = some v) : Fr a n g := ⟨h.size, h.defers, fun i v hi => h.get i v (hg i v hi)⟩
theorem nZ (h : Fr a n f) {j : Nat} {b : Bool} (hl : look f ops j = some (.bool b)) : yielded ops a.tmps j = some b := by
 unfold look at hl
 unfold yielded
 cases hd : (ops[j]?).bind (·.dst) with
 | none => rw [hd] at hl; cases hl
 | some d =>
  rw [hd] at hl
  have := h.get d _ hl
  simp [this]
theorem qN (h : Fr a n f) {j : Nat} {vs : Array Value} (hl : look f ops j = some (.tuple vs)) : yielded ops a.tmps j = none := by
 unfold look at hl
 unfold yielded
 cases hd : (ops[j]?).bind (·.dst) with
 | none => rw [hd] at hl; cases hl
 | some d =>
  rw [hd] at hl
  have := h.get d _ hl
  simp [this]
theorem mD (h : Fr a n f) {o : Oper} (hw : nF f ops o.guard = true) : Region.wanted o (yielded ops a.tmps) = true := by
 unfold Region.wanted
 unfold nF at hw
 split at hw
 ·rename_i hg; rw [hg]
 ·rename_i j b hg
  rw [hg]
  split at hw
  ·rename_i c hl
   show (yielded ops a.tmps j == some b) = true
   rw [nZ h hl]; simpa using hw
  ·cases hw
theorem mF (h : Fr a n f) {o : Oper} (hw : lU f ops o.guard = true) : Region.wanted o (yielded ops a.tmps) = false := by
 unfold Region.wanted
 unfold lU at hw
 split at hw
 ·cases hw
 ·rename_i j b hg
  rw [hg]
  split at hw
  ·rename_i c hl
   show (yielded ops a.tmps j == some b) = false
   rw [nZ h hl]; cases c <;> cases b <;> first | rfl | cases hw
  ·rename_i vs hl
   show (yielded ops a.tmps j == some b) = false
   rw [qN h hl]; rfl
  ·cases hw
variable {d : Nat} {ty : TypeId} {ps : String} {af : Array Edge} {g : Option (Nat × Bool)}
end
theorem Fr.results {a : Act} {n : Nat} {f : Nat → Option Value} (h : Fr a n f) {fn : Func} {t : Tmp} {v : Value} (hr : fn.results = #[.tmp t]) (hv : f t = some v) (P : Program) (w : World) : (results fn a.tmps).run P w = .ok v w := by
 rw [results_tmp hr]
 have := h.get t v hv
 simp [Array.getD_eq_getD_getElem?, this]
end Go.Proofs.YthnohcipianijaaGreatDoor
namespace Go.Proofs.YthnohcipianijaaGreatDoor
open Go.RowKit
def Ext (w w' : World) : Prop := Below w.heap.size w w'
section
variable {w w1 w2 : World}
theorem Ext.refl (w : World) : Ext w w := Below.refl _ _
theorem Ext.size (h : Ext w w1) : w.heap.size ≤ w1.heap.size := Below.size h
theorem Ext.trans (h : Ext w w1) (k : Ext w1 w2) : Ext w w2 := Below.trans h (Below.mono k h.size)
theorem Ext.drew (h : Ext w w1) : Ext w w1.drew := Below.drew h
theorem Ext.alloc (h : Ext w w1) (o : Obj) : Ext w (w1.alloc o) := Below.alloc h h.size o
theorem Ext.setCell (h : Ext w w1) {p : Addr} (hp : w.heap.size ≤ p.block) (u : Value) : Ext w (w1.setCell p u) := Below.setCell h hp u
theorem Ext.grown (h : Ext w w1) {row : Option Nat} (hg : w1.grownBy w2 row) (hr : ∀ k, row = some k → w.heap.size ≤ k) : Ext w w2 := Below.grown h hg h.size hr
theorem Ext.cell (h : Ext w w1) {p : Addr} (hp : p.block < w.heap.size) : w1.cell? p = w.cell? p := Below.cell h hp
theorem Ext.lt (h : Ext w w1) {b : Nat} (hb : b < w.heap.size) : b < w1.heap.size := Nat.lt_of_lt_of_le hb h.size
theorem Ext.frozen (h : Ext w w1) {p : Addr} (hp : p.block < w.heap.size) : w1.frozen? p = w.frozen? p := Below.frozen h hp
theorem Ext.block (h : Ext w w1) {k : Nat} (hk : k < w.heap.size) : w1.heap[k]? = w.heap[k]? := Below.block h k hk
end
def Row (w : World) (size : Nat) (A : Option Addr) (n : Nat) (xs : List Value) : Prop :=
 xs.length = n * size ∧ (0 < n → ∃ b off, A = some ⟨b, off, none⟩ ∧ b < w.heap.size ∧ ∀ j, j < n * size → w.cell? ⟨b, off + j, none⟩ = xs[j]?)
section
variable {w w' : World} {size n : Nat} {A : Option Addr} {xs : List Value}
theorem Row.none_ : Row w size A 0 [] := ⟨by simp, fun h => absurd h (by omega)⟩
theorem Row.ext (h : Row w size A n xs) (he : Ext w w') : Row w' size A n xs :=
 ⟨h.1, fun hn => by
  obtain ⟨b, off, e, hb, hc⟩ := h.2 hn
  exact ⟨b, off, e, he.lt hb, fun j hj => (he.cell (p := ⟨b, off + j, none⟩) hb).trans (hc j hj)⟩⟩
end
end Go.Proofs.YthnohcipianijaaGreatDoor
namespace Go.Proofs.YthnohcipianijaaGreatDoor
open Go.RowKit
structure Chg (X : List Nat) (w w' : World) : Prop where
 os : w'.os = w.os
 tape : w'.tape = w.tape
 output : w'.output = w.output
 size : w.heap.size ≤ w'.heap.size
 block : ∀ k, k < w.heap.size → k ∉ X → w'.heap[k]? = w.heap[k]?
section
variable {X Y : List Nat} {w w1 w2 : World}
theorem Chg.refl (X : List Nat) (w : World) : Chg X w w := ⟨rfl, rfl, rfl, Nat.le_refl _, fun _ _ _ => rfl⟩
theorem Chg.trans (h : Chg X w w1) (k : Chg Y w1 w2) (hY : ∀ b, b ∈ Y → b ∈ X ∨ w.heap.size ≤ b) : Chg X w w2 :=
 ⟨k.os.trans h.os, k.tape.trans h.tape, k.output.trans h.output, Nat.le_trans h.size k.size, fun b hb hX => by
  rw [k.block b (Nat.lt_of_lt_of_le hb h.size) (fun hc => by rcases hY b hc with h1 | h1; exact hX h1; omega), h.block b hb hX]⟩
theorem Chg.mono (h : Chg X w w1) (hY : ∀ b, b ∈ X → b ∈ Y) : Chg Y w w1 := ⟨h.os, h.tape, h.output, h.size, fun b hb hX => h.block b hb (fun hc => hX (hY b hc))⟩
theorem Chg.of_ext (h : Ext w w1) (X : List Nat) : Chg X w w1 :=
 have h' : Below w.heap.size w w1 := h
 ⟨h'.os, h'.tape, h'.output, h'.size, fun b hb _ => h'.block b hb⟩
theorem Chg.ext (h : Chg [] w w1) : Ext w w1 := (⟨h.os, h.tape, h.output, h.size, fun b hb => h.block b hb (by simp)⟩ : Below w.heap.size w w1)
theorem Chg.alloc (w : World) (o : Obj) : Chg [] w (w.alloc o) := Chg.of_ext ((Ext.refl w).alloc o) []
theorem Chg.drew (w : World) : Chg [] w { w with drawn := w.drawn + 1 } := ⟨rfl, rfl, rfl, Nat.le_refl _, fun _ _ _ => rfl⟩
theorem Chg.set (w : World) (b o : Nat) (v : Value) : Chg [b] w (w.setCell ⟨b, o, none⟩ v) :=
 ⟨rfl, rfl, rfl, by simp [World.setCell], fun k hk hX => Below.heap_setCell w ⟨b, o, none⟩ v k (by simpa using hX)⟩
theorem Chg.grown {row : Option Nat} (h : w.grownBy w1 row) : Chg row.toList w w1 :=
 ⟨h.os, h.tape, h.output, h.size, fun k hk hX => h.block k hk (fun e => hX (by rw [← e]; simp))⟩
theorem Chg.lt (h : Chg X w w1) {b : Nat} (hb : b < w.heap.size) : b < w1.heap.size := Nat.lt_of_lt_of_le hb h.size
def Blk (w : World) (b : Nat) (t : TypeId) (cs : List Value) : Prop := w.heap[b]? = some (.cells cs.toArray t (0, 0))
variable {b : Nat} {t : TypeId} {cs : List Value}
theorem Blk.lt (h : Blk w b t cs) : b < w.heap.size := by
 rcases Nat.lt_or_ge b w.heap.size with hlt | hge
 ·exact hlt
 ·unfold Blk at h; rw [Array.getElem?_eq_none hge] at h; cases h
theorem Blk.cell (h : Blk w b t cs) (i : Nat) : w.cell? ⟨b, i, none⟩ = cs[i]? := by unfold Blk at h; simp [World.cell?, h]
theorem Blk.frozen (h : Blk w b t cs) (i : Nat) : w.frozen? ⟨b, i, none⟩ = false := by unfold Blk at h; simp [World.frozen?, h]
theorem Blk.chg (h : Blk w b t cs) (hx : Chg X w w1) (hb : b ∉ X) : Blk w1 b t cs := (hx.block b h.lt hb).trans h
theorem Blk.new (w : World) (t : TypeId) (cs : List Value) : Blk (w.alloc (.cells cs.toArray t)) w.heap.size t cs := heap_alloc_new w _
theorem Blk.set (h : Blk w b t cs) (i : Nat) (u : Value) : Blk (w.setCell ⟨b, i, none⟩ u) b t (cs.set i u) := by
 unfold Blk at h ⊢
 simp [World.setCell, Array.getElem?_modify, h]
end
def Runs (P : Program) (a : Act) (ty : TypeId) (op : Op) (w : World) (x : Next) (w' : World) : Prop := ∀ d ps af g, (execOp a.eval ⟨d, op, ty, ps, af, g⟩).run P w = .ok x w'
def upo (f : Nat → Option Value) (d : Option Tmp) (v : Value) : Nat → Option Value := match d with | some d => up f d v | none => f
def wX (d : Option Tmp) (n : Nat) : Bool := match d with | some d => Nat.blt d n | none => true
def kG (f : Nat → Option Value) : List Operand → Option (List Value)
 | [] => some []
 |x :: r => match ay f x with
  |some v => match kG f r with
   | some vs => some (v :: vs)
   | none => none
  | none => none
def bV (f : Nat → Option Value) : List (Nat × Operand) → Option (List (Nat × Value))
 | [] => some []
 |(i, x) :: r => match ay f x with
  |some v => match bV f r with
   | some vs => some ((i, v) :: vs)
   | none => none
  | none => none
section
variable {P : Program} {ops : Array Oper} {Q : Exit → Act → World → Prop} {a : Act} {w w' : World} {rest : List Oper} {n : Nat} {f : Nat → Option Value} {ty : TypeId}
theorem Fr.puto (h : Fr a n f) {d : Option Tmp} (hd : wX d n = true) (v : Value) : Fr (a.put d v) n (upo f d v) := by
 cases d with
 | none => exact h
 | some d => exact h.put hd v
theorem Fr.vals (h : Fr a n f) : ∀ {l : List Operand} {vs : List Value}, kG f l = some vs → l.map a.eval = vs
 | [], vs, e => by simp [kG] at e; simp [e]
 | x :: r, vs, e => by
  simp only [kG] at e
  split at e
  ·rename_i v hv
   split at e
   ·rename_i us hu
    have := h.vals hu
    simp only [Option.some.injEq] at e
    rw [List.map_cons, h.eval hv, this, e]
   ·cases e
  ·cases e
theorem Fr.parts (h : Fr a n f) : ∀ {l : List (Nat × Operand)} {vs : List (Nat × Value)}, bV f l = some vs → l.map (fun p => (p.1, a.eval p.2)) = vs
 | [], vs, e => by simp [bV] at e; simp [e]
 | (i, x) :: r, vs, e => by
  simp only [bV] at e
  split at e
  ·rename_i v hv
   split at e
   ·rename_i us hu
    have := h.parts hu
    simp only [Option.some.injEq] at e
    rw [List.map_cons, h.eval hv, this, e]
   ·cases e
  ·cases e
theorem gc (b o j : Nat) : (⟨b, o, none⟩ : Addr).add j = ⟨b, o + j, none⟩ := by unfold Addr.add; split <;> simp_all
theorem ue {x : Operand} {v : Value} (h : Fr a n f) (hx : ay f x = some v) : Runs P a ty (.move x) w (.value v) w := fun _ _ _ _ => by rw [← h.eval hx]; rfl
theorem rY {x : Operand} {v : Value} (h : Fr a n f) (hx : ay f x = some v) : Runs P a ty (.assign x) w (.value v) w := fun _ _ _ _ => by rw [← h.eval hx]; rfl
theorem sr {c x y : Operand} {v : Value} (h : Fr a n f) (hc : ay f c = some (.bool true)) (hx : ay f x = some v) : Runs P a ty (.pick c x y) w (.value v) w := fun _ _ _ _ => by simp [execOp, h.eval hc, h.eval hx, asBool]
theorem te {c x y : Operand} {v : Value} (h : Fr a n f) (hc : ay f c = some (.bool false)) (hy : ay f y = some v) : Runs P a ty (.pick c x y) w (.value v) w := fun _ _ _ _ => by simp [execOp, h.eval hc, h.eval hy, asBool]
theorem ws {t : TypeId} {x : Operand} {b c : Bool} (h : Fr a n f) (hx : ay f x = some (.bool b)) (hc : (!b) = c) : Runs P a ty (.unOp .not t x) w (.value (.bool c)) w := fun _ _ _ _ => by subst hc; simp only [execOp, h.eval hx]; simp [go_sem]
section
variable {t u : TypeId} {x y : Operand} {k1 : IntKind} {m l : Int} {c : Bool}
theorem vg (h : Fr a n f) (hx : ay f x = some (.int k1 m)) (hy : ay f y = some (.int k1 l)) (hc : (m == l) = c) : Runs P a ty (.binOp .eql t x y u) w (.value (.bool c)) w := fun _ _ _ _ => by subst hc; simp only [execOp, h.eval hx, h.eval hy]; simp [go_sem, eqGuard]
theorem wq (h : Fr a n f) (hx : ay f x = some (.int k1 m)) (hy : ay f y = some (.int k1 l)) (hc : (m != l) = c) : Runs P a ty (.binOp .neq t x y u) w (.value (.bool c)) w := fun _ _ _ _ => by subst hc; simp only [execOp, h.eval hx, h.eval hy]; simp [go_sem, eqGuard]
theorem wt (h : Fr a n f) (hx : ay f x = some (.int k1 m)) (hy : ay f y = some (.int k1 l)) (hc : decide (m < l) = c) : Runs P a ty (.binOp .lss t x y u) w (.value (.bool c)) w := fun _ _ _ _ => by subst hc; simp only [execOp, h.eval hx, h.eval hy]; simp [go_sem, eqGuard]
theorem wk (h : Fr a n f) (hx : ay f x = some (.int k1 m)) (hy : ay f y = some (.int k1 l)) (hc : decide (m ≤ l) = c) : Runs P a ty (.binOp .leq t x y u) w (.value (.bool c)) w := fun _ _ _ _ => by subst hc; simp only [execOp, h.eval hx, h.eval hy]; simp [go_sem, eqGuard]
theorem vm (h : Fr a n f) (hx : ay f x = some (.int k1 m)) (hy : ay f y = some (.int k1 l)) (hc : decide (l < m) = c) : Runs P a ty (.binOp .gtr t x y u) w (.value (.bool c)) w := fun _ _ _ _ => by subst hc; simp only [execOp, h.eval hx, h.eval hy]; simp [go_sem, eqGuard]
theorem vr (h : Fr a n f) (hx : ay f x = some (.int k1 m)) (hy : ay f y = some (.int k1 l)) (hc : decide (l ≤ m) = c) : Runs P a ty (.binOp .geq t x y u) w (.value (.bool c)) w := fun _ _ _ _ => by subst hc; simp only [execOp, h.eval hx, h.eval hy]; simp [go_sem, eqGuard]
end
theorem wy {t u : TypeId} {x y : Operand} {m l c : Bool} (ht : P.underlying t = some .bool) (h : Fr a n f) (hx : ay f x = some (.bool m)) (hy : ay f y = some (.bool l)) (hc : (m == l) = c) : Runs P a ty (.binOp .eql t x y u) w (.value (.bool c)) w := fun _ _ _ _ => by subst hc; simp only [execOp, h.eval hx, h.eval hy]; simp [go_sem, eqGuard, ht]
section
variable {t u : TypeId} {x y : Operand} {m l : List UInt8} {c : Bool}
theorem vn (h : Fr a n f) (hx : ay f x = some (.string ⟨m.toArray⟩)) (hy : ay f y = some (.string ⟨l.toArray⟩)) (hc : (m == l) = c) : Runs P a ty (.binOp .eql t x y u) w (.value (.bool c)) w := fun _ _ _ _ => by subst hc; simp only [execOp, h.eval hx, h.eval hy]; simp [go_sem, eqGuard]
theorem ww (h : Fr a n f) (hx : ay f x = some (.string ⟨m.toArray⟩)) (hy : ay f y = some (.string ⟨l.toArray⟩)) (hc : (m != l) = c) : Runs P a ty (.binOp .neq t x y u) w (.value (.bool c)) w := fun _ _ _ _ => by subst hc; simp only [execOp, h.eval hx, h.eval hy]; simp [go_sem, eqGuard, bne]
theorem uH (h : Fr a n f) (ht : P.underlying t = some .string) (hx : ay f x = some (.string ⟨m.toArray⟩)) : Runs P a ty (.call { callee := .builtin .len, args := #[x], argTypes := #[t] }) w (.value (.int .i64 m.length)) w := fun _ _ _ _ => by
 simp only [execOp, resolve, List.map_toArray, List.map_cons, List.map_nil, h.eval hx]; simp [go_sem, resolve, invoke, builtin, ht]
end
theorem oA {t e : TypeId} {x : Operand} {A : Option Addr} {m c : Nat} (h : Fr a n f) (ht : P.underlying t = some (.slice e)) (hx : ay f x = some (.slice A m c)) : Runs P a ty (.call { callee := .builtin .len, args := #[x], argTypes := #[t] }) w (.value (.int .i64 m)) w := fun _ _ _ _ => by
 simp only [execOp, resolve, List.map_toArray, List.map_cons, List.map_nil, h.eval hx]; simp [go_sem, resolve, invoke, builtin, ht]
theorem om {x : Operand} {p : Addr} (h : Fr a n f) (hx : ay f x = some (.pointer (some p))) : Runs P a ty (.nilCheck x) w (.value (.pointer (some p))) w := fun _ _ _ _ => by simp only [execOp, h.eval hx]; rfl
theorem qY {x : Operand} {i : Nat} {vs : Array Value} {v : Value} (h : Fr a n f) (hx : ay f x = some (.tuple vs)) (hi : vs[i]? = some v) : Runs P a ty (.extract x i) w (.value v) w := fun _ _ _ _ => by
 simp only [execOp, h.eval hx]; simp [Instr.extract, hi]
theorem qr {t : TypeId} {x : Operand} {i b o : Nat} {v : Value} (h : Fr a n f) (hx : ay f x = some (.pointer (some ⟨b, o, none⟩))) (hv : ∀ w, (Instr.fieldAt t (.pointer (some ⟨b, o, none⟩)) i).run P w = .ok v w) : Runs P a ty (.fieldAddr t x i) w (.value v) w := fun _ _ _ _ => by
 simp only [execOp, h.eval hx]; simp [hv]
theorem nJ {t : TypeId} {x : Operand} {i : Nat} {cs : Array Value} {v : Value} (h : Fr a n f) (hx : ay f x = some (.agg cs)) (hv : ∀ w, (Instr.field t (.agg cs) i).run P w = .ok v w) : Runs P a ty (.field t x i) w (.value v) w := fun _ _ _ _ => by
 simp only [execOp, h.eval hx]; simp [hv]
theorem nQ {t e : TypeId} {x y : Operand} {b o m c sz r : Nat} {i : Int} {k : Nat} (h : Fr a n f) (ht : P.underlying t = some (.slice e)) (hz : (P.info? e).map (·.size) = some sz) (hx : ay f x = some (.slice (some ⟨b, o, none⟩) m c)) (hy : ay f y = some (.int .i64 i))
  (hk : i = (k : Int)) (hlt : k < m) (hr : o + k * sz = r) : Runs P a ty (.indexAddr t x y) w (.value (.pointer (some ⟨b, r, none⟩))) w := fun _ _ _ _ => by
 obtain ⟨i0, hi, hs⟩ := Option.map_eq_some_iff.1 hz
 subst hk hs hr
 simp only [execOp, h.eval hx, h.eval hy]
 simp [Instr.indexAt, asIntOf, run_underlying ht, sizeOf, typeInfo, hi, hlt, gc]
theorem nR {t : TypeId} {ps : List (Nat × Operand)} {vs : List (Nat × Value)} {v : Value} (h : Fr a n f) (hx : bV f ps = some vs) (hv : ∀ w, (Instr.build t vs.toArray).run P w = .ok v w) : Runs P a ty (.build t ps.toArray) w (.value v) w := fun _ _ _ _ => by
 have e : (ps.toArray.map fun (i, x) => (i, a.eval x)) = vs.toArray := by rw [← h.parts hx]; simp
 simp only [execOp]
 rw [e]; simp [hv]
def bH (P : Program) (t : TypeId) : Bool := match P.underlying t with
 | some (.struct _) => false
 | some (.array _ _) => false
 | some _ => true
 | none => false
def fh (P : Program) (t : TypeId) : Option Nat := match P.underlying t with
 | some (.struct _) => (P.info? t).map (·.size)
 | some (.array _ _) => (P.info? t).map (·.size)
 | _ => none
def cf (P : Program) (t : TypeId) : Option Nat := (P.info? t).map (·.size)
def fo (P : Program) (t : TypeId) : Option (List Value) := ((P.info? t).bind (·.zero)).map (·.cells.toList)
theorem mP {t : TypeId} {p : Addr} {v : Value} (ht : bH P t = true) (hc : w.cell? p = some v) : (Instr.loadAt t (.pointer (some p))).run P w = .ok v w := by
 unfold bH at ht
 cases hu : P.underlying t with
 | none => rw [hu] at ht; cases ht
 | some d =>
  rw [hu] at ht
  cases d <;> first | (simp [Instr.loadAt, Instr.sureAddr, loadVar, isAgg, run_underlying hu, hc]; done) | cases ht
theorem jV (b : Nat) : ∀ (m i o : Nat) (acc : List Value) (cs : List Value), cs.length = m → (∀ j, j < m → w.cell? ⟨b, o + i + j, none⟩ = cs[j]?) → (loadCellsFrom ⟨b, o, none⟩ i m acc.toArray).run P w = .ok (acc ++ cs).toArray w
 | 0, i, o, acc, cs, hl, hc => by
  have : cs = [] := List.eq_nil_of_length_eq_zero hl
  subst this; simp [loadCellsFrom]
 | m + 1, i, o, acc, cs, hl, hc => by
  cases cs with
  | nil => cases hl
  | cons c r =>
   have h0 := hc 0 (by omega)
   simp only [Nat.add_zero, List.getElem?_cons_zero] at h0
   have ih := jV b m (i + 1) o (acc ++ [c]) r (by simpa using hl) (fun j hj => by have := hc (j + 1) (by omega); simpa [Nat.add_assoc, Nat.add_comm 1 j] using this)
   have ha : (⟨b, o, none⟩ : Addr).add i = ⟨b, o + i, none⟩ := by unfold Addr.add; split <;> simp_all
   simp only [loadCellsFrom, ha]
   simp [go_sem, h0]
   simpa using ih
theorem mV {t : TypeId} {b o m : Nat} {cs : List Value} (ht : fh P t = some m) (hl : cs.length = m) (hc : ∀ j, j < m → w.cell? ⟨b, o + j, none⟩ = cs[j]?) : (Instr.loadAt t (.pointer (some ⟨b, o, none⟩))).run P w = .ok (.agg cs.toArray) w := by
 have hA : (isAgg t).run P w = .ok true w ∧ (sizeOf t).run P w = .ok m w := by
  unfold fh at ht
  cases hu : P.underlying t with
  | none => rw [hu] at ht; cases ht
  | some d =>
   rw [hu] at ht
   cases d <;> first | cases ht | (obtain ⟨i, hi, hs⟩ := Option.map_eq_some_iff.1 ht; simp [isAgg, run_underlying hu, sizeOf, typeInfo, hi, hs])
 have hL := jV (P := P) (w := w) b m 0 o [] cs hl (by simpa using hc)
 simp only [Instr.loadAt, Instr.sureAddr, loadVar, loadCells]
 simp [hA.1, hA.2, hL]
theorem mO {t : TypeId} {x : Operand} {p : Addr} {v : Value} (h : Fr a n f) (hx : ay f x = some (.pointer (some p))) (ht : bH P t = true) (hc : w.cell? p = some v) : Runs P a ty (.load t x) w (.value v) w := fun _ _ _ _ => by
 simp only [execOp, h.eval hx]; simp [mP ht hc]
theorem ly {t : TypeId} {x : Operand} {b o m : Nat} {cs : List Value} (h : Fr a n f) (hx : ay f x = some (.pointer (some ⟨b, o, none⟩))) (ht : fh P t = some m) (hl : cs.length = m) (hc : ∀ j, j < m → w.cell? ⟨b, o + j, none⟩ = cs[j]?) : Runs P a ty (.load t x) w (.value (.agg cs.toArray)) w := fun _ _ _ _ => by
 simp only [execOp, h.eval hx]; simp [mV ht hl hc]
theorem ry {v : Value} (h : v.oneCell' = true) : v.cells = #[v] := by cases v <;> first | rfl | cases h
theorem tB {t : TypeId} (cs : List Value) (hz : fo P t = some cs) (a : Act) (w : World) (ty : TypeId) : ∃ w' b, Runs P a ty (.alloc t) w (.value (.pointer (some ⟨b, 0, none⟩))) w' ∧ Blk w' b t cs ∧ Chg [] w w' ∧ b = w.heap.size ∧ b < w'.heap.size := by
 refine ⟨w.alloc (.cells cs.toArray t), w.heap.size, fun _ _ _ _ => ?_, Blk.new w t cs, Chg.alloc _ _, rfl, by simp⟩
 unfold fo at hz
 obtain ⟨z, hz1, hz2⟩ := Option.map_eq_some_iff.1 hz
 obtain ⟨i, hi, hiz⟩ := Option.bind_eq_some_iff.1 hz1
 have e : z.cells = cs.toArray := by rw [← hz2]
 simp [execOp, Instr.alloc, zeroValue, typeInfo, hi, hiz, newVar, newRow, e]
theorem vT {t : TypeId} {x : Operand} {v : Value} {cs : List Value} (h : Fr a n f) (hx : ay f x = some v) (hv : v.cells = cs.toArray) (w : World) (ty : TypeId) : ∃ w' b, Runs P a ty (.box t x) w (.value (.pointer (some ⟨b, 0, none⟩))) w' ∧ Blk w' b t cs ∧ Chg [] w w' ∧ b = w.heap.size ∧ b < w'.heap.size := by
 refine ⟨w.alloc (.cells cs.toArray t), w.heap.size, fun _ _ _ _ => ?_, Blk.new w t cs, Chg.alloc _ _, rfl, by simp⟩
 simp only [execOp, h.eval hx]
 simp [Instr.box, newVar, newRow, hv]
end
end Go.Proofs.YthnohcipianijaaGreatDoor
namespace Go.Proofs.YthnohcipianijaaGreatDoor
open Go.RowKit
def bI (P : Program) (fid : FuncId) : Bool := match P.funcs[fid]? with
 | some fn => !(fn.name == "runtime.NumGoroutine") && fn.body.isSome
 | none => false
theorem fa {P : Program} {fid : FuncId} (he : bI P fid = true) (args : Array Value) (w : World) : (callFunc fid args).run P w = .ok (.enter fid args) w := by
 unfold bI at he
 split at he
 ·rename_i fn hf
  simp only [Bool.and_eq_true, Bool.not_eq_true', beq_eq_false_iff_ne, ne_eq] at he
  have hb : fn.body.isNone = false := by cases hx : fn.body <;> simp_all
  simp [callFunc, hf, he.1, hb]
  intro h0; simp [h0] at hb
 ·cases he
section
variable {P : Program} {ops : Array Oper} {Q : Exit → Act → World → Prop} {a : Act} {w w' : World} {rest : List Oper} {n : Nat} {f : Nat → Option Value} {ty : TypeId}
variable {d : Option Tmp} {op : Op} {ps : String} {af : Array Edge} {g : Option (Nat × Bool)} {v : Value}
theorem sG {c : Operand} {c1 c2 : Code} (h : Fr a n f) (hc : ay f c = some (.bool true)) (k : c1.wp P Q a w) : (Code.cond c c1 c2).wp P Q a w :=
 wp_cond_true (h.eval hc) k
theorem su {c : Operand} {c1 c2 : Code} (h : Fr a n f) (hc : ay f c = some (.bool false)) (k : c2.wp P Q a w) : (Code.cond c c1 c2).wp P Q a w :=
 wp_cond_false (h.eval hc) k
end
section
variable {P : Program} {Q : Exit → Act → World → Prop} {a : Act} {w : World} {n : Nat} {f : Nat → Option Value}
def fm : List (Nat × Value) → Nat → Option Value
 | [], _ => none
 | (j, v) :: r, i => match Nat.beq i j with | true => some v | false => fm r i
def tm (f : Nat → Option Value) : List (Nat × Value) → Prop
 | [] => True
 | (j, v) :: r => f j = some v ∧ tm f r
theorem tV : ∀ {l : List (Nat × Value)}, tm f l → ∀ i v, fm l i = some v → f i = some v
 | [], _, i, v, h => by cases h
 | (j, u) :: r, hA, i, v, h => by
  simp only [fm] at h
  split at h
  ·rename_i hb
   have := Nat.eq_of_beq_eq_true hb
   subst this
   rw [← h]; exact hA.1
  ·exact tV hA.2 i v h
theorem Fr.pick (h : Fr a n f) {l : List (Nat × Value)} (hl : tm f l) : Fr a n (fm l) := h.le (tV hl)
def lj (a : Act) : ResultVar → Sem Value
 | .tmp t => pure (a.tmps.getD t undef)
 | .cell x t => do loadVar t (← asAddr (a.tmps.getD x undef))
def kg : List Value → Value
 | [v] => v
 | vs => .tuple vs.toArray
end
section
variable {P : Program} {ops : Array Oper} {Q : Exit → Act → World → Prop} {md : Region.Mode} {S : World → Prop}
def ma (md : Region.Mode) (ops : Array Oper) (m i : Nat) : Bool := match ops[m]? with
 | none => true
 | some o => o.after.any (fun e => Region.binds md e && e.on == i)
theorem em {listed : Array Bool} {i m : Nat} (h : listed.getD m false = true) : (listed.setIfInBounds i true).getD m false = true := by
 rw [Array.getD_eq_getD_getElem?] at *
 rw [Array.getElem?_setIfInBounds]
 split
 ·rename_i he
  subst he
  split
  ·rfl
  ·rename_i hs; rw [Array.getElem?_eq_none (by omega)] at h; cases h
 ·exact h
theorem nj {listed : Array Bool} {i j : Nat} {oj : Oper} (hr : i ∈ Region.ready md ops listed) (hall : ∀ e ∈ oj.after, Region.binds md e = true → listed.getD e.on false = true) : ∀ e ∈ oj.after, Region.binds md e = true → e.on ≠ i := fun e he hb heq => by
 have hiun := (mem_ready.1 hr).1
 have h1 := hall e he hb
 rw [heq] at h1
 rcases Nat.lt_or_ge i listed.size with h' | h'
 ·simp [h'] at hiun h1; rw [hiun] at h1; cases h1
 ·simp [Array.getElem?_eq_none h'] at h1
variable {a : Act} {w w' : World} {n : Nat} {f : Nat → Option Value} {ty : TypeId} {d : Option Tmp} {op : Op} {ps : String} {af : Array Edge} {g : Option (Nat × Bool)} {v : Value} {m fuel : Nat} {listed : Array Bool}
variable {K : Act → World → Prop}
end
end Go.Proofs.YthnohcipianijaaGreatDoor
namespace Go.Proofs.YthnohcipianijaaGreatDoor
open Go.RowKit
def fD (P : Program) (t : TypeId) (i : Nat) : Option Nat := match P.underlying t with
 |some (.struct fs) => match fs[i]? with
  |some fl => match P.info? fl.type with
   | some inf => if inf.size = 0 then none else some fl.offset
   | none => none
  | none => none
 | _ => none
def hI (P : Program) (t : TypeId) (i : Nat) : Option Nat := match P.underlying t with
 |some (.struct fs) => match fs[i]? with
  | some fl => if bH P fl.type = true then some fl.offset else none
  | none => none
 | _ => none
section
variable {P : Program} {a : Act} {w w' : World} {n : Nat} {f : Nat → Option Value} {ty : TypeId}
theorem rb {t : TypeId} {x : Operand} {i b o k r : Nat} (h : Fr a n f) (hx : ay f x = some (.pointer (some ⟨b, o, none⟩))) (ho : fD P t i = some k) (hr : o + k = r) : Runs P a ty (.fieldAddr t x i) w (.value (.pointer (some ⟨b, r, none⟩))) w := by
 refine qr h hx fun w => ?_
 subst hr
 unfold fD at ho
 split at ho
 ·rename_i fs hu
  split at ho
  ·rename_i fl hfl
   split at ho
   ·rename_i inf hinf
    split at ho
    ·cases ho
    ·rename_i hz
     simp only [Option.some.injEq] at ho
     subst ho
     simp [Instr.fieldAt, run_underlying hu, hfl, Instr.sureAddr, fieldPlace, sizeOf, typeInfo, hinf, hz, gc]
   ·cases ho
  ·cases ho
 ·cases ho
theorem wV {t : TypeId} {x : Operand} {i k : Nat} {cs : List Value} {v : Value} (h : Fr a n f) (hx : ay f x = some (.agg cs.toArray)) (ho : hI P t i = some k) (hv : cs[k]? = some v) : Runs P a ty (.field t x i) w (.value v) w := by
 refine nJ h hx fun w => ?_
 unfold hI at ho
 split at ho
 ·rename_i fs hu
  split at ho
  ·rename_i fl hfl
   split at ho
   ·rename_i hs
    simp only [Option.some.injEq] at ho
    subst ho
    have hA : (isAgg fl.type).run P w = .ok false w := by
     unfold bH at hs
     cases hu2 : P.underlying fl.type with
     | none => rw [hu2] at hs; cases hs
     | some d =>
      rw [hu2] at hs
      cases d <;> first | (simp [isAgg, run_underlying hu2]; done) | cases hs
    simp [Instr.field, run_underlying hu, hfl, part, hA, asAgg, hv]
   ·cases ho
  ·cases ho
 ·cases ho
theorem ko (off : Nat) : ∀ (l : List Value) (j : Nat) (c : List Value), off + j + l.length ≤ c.length →
  (l.zipIdx j).foldl (fun (cs : Array Value) (p : Value × Nat) => cs.setIfInBounds (off + p.2) p.1) c.toArray = (c.take (off + j) ++ l ++ c.drop (off + j + l.length)).toArray
 | [], j, c, h => by simp
 | x :: r, j, c, h => by
  simp only [List.length_cons] at h
  have ih := ko off r (j + 1) (c.set (off + j) x) (by simp; omega)
  simp only [List.zipIdx_cons, List.foldl_cons, List.setIfInBounds_toArray]
  rw [ih]
  congr 1
  have e1 : (c.set (off + j) x).take (off + (j + 1)) = c.take (off + j) ++ [x] := by
   rw [← Nat.add_assoc, List.take_succ_eq_append_getElem (by simp; omega), List.take_set_of_le (Nat.le_refl _)]
   simp
  have e2 : (c.set (off + j) x).drop (off + (j + 1) + r.length) = c.drop (off + j + (r.length + 1)) := by
   rw [List.drop_set_of_lt (by omega)]; congr 1; omega
  rw [e1, e2]; simp
theorem nP (sz : Nat) : ∀ (vs : List (Nat × Value)) (k : Nat) (c : List Value), vs.map (·.1) = (List.range vs.length).map (· + k) → (∀ p ∈ vs, p.2.cells.size = sz) → (k + vs.length) * sz = c.length →
  Instr.fill (fun i => some (i * sz, sz)) c.toArray vs = some (c.take (k * sz) ++ vs.flatMap fun p => p.2.cells.toList).toArray
 | [], k, c, _, _, hl => by simp [Instr.fill]; simp at hl; rw [hl]; simp
 | (i, v) :: r, k, c, hi, hc, hl => by
  have hv : v.cells.size = sz := hc (i, v) (by simp)
  have hi0 : i = k := by
   have := congrArg (fun l => l.head?) hi
   simpa [List.range_succ_eq_map] using this
  subst hi0
  simp only [List.length_cons] at hl
  have hle : (i + 1) * sz ≤ c.length := by rw [← hl]; exact Nat.mul_le_mul_right _ (by omega)
  rw [Nat.add_mul, Nat.one_mul] at hle
  have hf := ko (i * sz) v.cells.toList 0 c (by simpa [hv] using hle)
  have hr : r.map (·.1) = (List.range r.length).map (· + (i + 1)) := by
   have := congrArg List.tail hi
   simp only [List.map_cons, List.tail_cons, List.length_cons, List.range_succ_eq_map, List.map_map] at this
   rw [this]
   apply List.map_congr_left
   intro x _
   simp; omega
  have ih := nP sz r (i + 1) (c.take (i * sz) ++ v.cells.toList ++ c.drop (i * sz + sz)) hr (fun p hp => hc p (by simp [hp])) (by
   have e : (i + (r.length + 1)) * sz = (i + 1 + r.length) * sz := by congr 1; omega
   simp [hv]; rw [← hl] at hle ⊢; omega)
  simp only [Instr.fill]
  rw [if_neg (by simp [hv]; omega)]
  have e0 : (v.cells.zipIdx.foldl (fun cs (x : Value × Nat) => match x with | (c, j) => cs.setIfInBounds (i * sz + j) c) c.toArray) = (c.take (i * sz) ++ v.cells.toList ++ c.drop (i * sz + sz)).toArray := by
   rw [← Array.foldl_toList, Array.toList_zipIdx]
   simp only [Nat.add_zero, Array.length_toList, hv] at hf
   exact hf
  rw [e0, ih]
  congr 1
  have e3 : (c.take (i * sz) ++ v.cells.toList ++ c.drop (i * sz + sz)).take ((i + 1) * sz) = c.take (i * sz) ++ v.cells.toList := by
   rw [Nat.add_mul, Nat.one_mul, List.take_append_of_le_length (by simp [hv]; omega)]
   apply List.take_of_length_le
   simp [hv]; omega
  rw [e3]; simp
theorem mR {t e : TypeId} {ps : List (Nat × Operand)} {vs : List (Nat × Value)} {sz m : Nat} {z cs : List Value} (h : Fr a n f) (hx : bV f ps = some vs) (ht : P.underlying t = some (.slice e)) (hz : cf P e = some sz) (hzero : fo P e = some z)
  (hidx : ps.map (·.1) = List.range m) (hc : vs.all (fun p => p.2.cells.size == sz) = true) (hsm : Nat.ble (m * sz) 16777216 = true) (hcs : (vs.flatMap fun p => p.2.cells.toList) = cs) (w : World) (ty : TypeId) :
  ∃ w' b, Runs P a ty (.buildSlice t m ps.toArray) w (.value (.slice (some ⟨b, 0, none⟩) m m)) w' ∧ Blk w' b e cs ∧ Chg [] w w' ∧ b = w.heap.size ∧ b < w'.heap.size := by
 subst hcs
 refine ⟨w.alloc (.cells (vs.flatMap fun p => p.2.cells.toList).toArray e), w.heap.size, fun _ _ _ _ => ?_, Blk.new w e _, Chg.alloc _ _, rfl, by simp⟩
 obtain ⟨inf, hi, hs⟩ := Option.map_eq_some_iff.1 (show (P.info? e).map (·.size) = some sz from hz)
 unfold fo at hzero
 obtain ⟨z0, hz1, hz2⟩ := Option.map_eq_some_iff.1 hzero
 obtain ⟨inf', hi', hiz⟩ := Option.bind_eq_some_iff.1 hz1
 rw [hi] at hi'
 cases hi'
 have hpv : vs.map (·.1) = List.range m := by rw [← hidx, ← h.parts hx]; simp
 have hm : vs.length = m := by have := congrArg List.length hpv; simpa using this
 have e : (ps.toArray.map fun (i, x) => (i, a.eval x)) = vs.toArray := by rw [← h.parts hx]; simp
 have hsm' : m * sz ≤ 16777216 := by simpa using hsm
 have hfill : ∀ c : Array Value, c.size = m * sz → Instr.fill (fun i => some (i * sz, sz)) c vs = some (vs.flatMap fun p => p.2.cells.toList).toArray := fun c hcz => by
  have := nP sz vs 0 c.toList (by rw [hpv, hm]; simp) (fun p hp => by simpa using List.all_eq_true.1 hc p hp) (by simp [hm, hcz])
  simpa using this
 simp only [execOp]
 rw [e]
 simp only [Instr.buildSlice]
 by_cases h0 : m * sz = 0
 ·have hfl := hfill ((Array.range 0).map (fun x => (default : Value))) (by simp [h0])
  simp [run_underlying ht, sizeOf, typeInfo, hi, hs, h0, newRow]
  rw [hfl]; simp
 ·have hfl := hfill ((Array.range (m * sz)).map (z0.cells[· % z0.cells.size]!)) (by simp)
  try simp at hfl
  simp [run_underlying ht, sizeOf, typeInfo, hi, hs, h0, newRow, zeroValue, hiz, show ¬ 16777216 < m * sz by omega, hfl]
theorem ux {t e : TypeId} {x y : Operand} {m : Nat} {z : Value} {sz by_ : Nat} {cs : List Value} (h : Fr a n f) (hx : ay f x = some (.int .i64 (m : Int))) (hy : ay f y = some (.int .i64 (m : Int))) (ht : P.underlying t = some (.slice e))
  (hi : (P.info? e).map (fun i => (i.zero, i.size, i.bytes)) = some (some z, sz, by_)) (hb : Nat.ble (by_ * m) 281474976710656 = true) (h63 : Nat.ble m 9223372036854775807 = true) (hcs : madeCells z.cells (m * sz) = cs.toArray) (w : World) (ty : TypeId) :
  ∃ w' b, Runs P a ty (.makeSlice t x y) w (.value (.slice (some ⟨b, 0, none⟩) m m)) w' ∧ Blk w' b e cs ∧ Chg [] w w' ∧ b = w.heap.size ∧ b < w'.heap.size := by
 obtain ⟨i0, hi0, hx0⟩ := Option.map_eq_some_iff.1 hi
 simp only [Prod.mk.injEq] at hx0
 obtain ⟨hz, hs, hby⟩ := hx0
 refine ⟨w.alloc (.cells cs.toArray e), w.heap.size, fun _ _ _ _ => ?_, Blk.new w e _, Chg.alloc _ _, rfl, by simp⟩
 have hb' : (i0.bytes : Int) * (m : Int) ≤ 281474976710656 := by
  have h9 : i0.bytes * m ≤ 281474976710656 := by rw [hby]; exact Nat.le_of_ble_eq_true hb
  have h8 : ((i0.bytes * m : Nat) : Int) ≤ 281474976710656 := by omega
  rwa [Int.natCast_mul] at h8
 have h63' : m ≤ 9223372036854775807 := Nat.le_of_ble_eq_true h63
 have hr := run_make (P := P) w t e i0 z ht hi0 hz .i64 .i64 m m (by omega) (by omega) hb' (by omega)
 simp only [execOp, h.eval hx, h.eval hy]
 simp only [Int.toNat_natCast, hs, hcs] at hr
 simp [hr]
theorem lY {base b e size m : Nat} {cs : List Value} (h : Blk w b e cs) (hb : base ≤ b) (hl : cs.length = m * size) (hm : Nat.ble m maxLen = true) : w.ownsRow base e size (.slice (some ⟨b, 0, none⟩) m m) m cs := by
 refine ⟨hl, .inr ⟨b, m, cs.toArray, rfl, hb, h, Nat.le_refl _, by simpa using hm, by simpa using hl, ?_⟩⟩
 simp [← hl]
end
end Go.Proofs.YthnohcipianijaaGreatDoor
namespace Go.Proofs.YthnohcipianijaaGreatDoor
open Go.RowKit
theorem Chg.cell {X : List Nat} {w w1 : World} (h : Chg X w w1) {b o : Nat} (hb : b < w.heap.size) (hX : b ∉ X) : w1.cell? ⟨b, o, none⟩ = w.cell? ⟨b, o, none⟩ := World.cell?_of_block (a := ⟨b, o, none⟩) (h.block b hb hX)
section
variable {P : Program} {a : Act} {w w' : World} {n : Nat} {f : Nat → Option Value} {X : List Nat}
end
end Go.Proofs.YthnohcipianijaaGreatDoor
namespace Go.Proofs.YthnohcipianijaaGreatDoor
open Go.RowKit
theorem un {P : Program} {a : Act} {w : World} {n : Nat} {f : Nat → Option Value} {ty t u : TypeId} {x y : Operand} {k : IntKind} {m l : Int} (h : Fr a n f) (hx : ay f x = some (.int k m)) (hy : ay f y = some (.int k l)) : Runs P a ty (.call { callee := .builtin .max, args := #[x, y], argTypes := #[t, u] }) w (.value (.int k (max m l))) w := fun _ _ _ _ => by
 simp only [execOp, resolve, List.map_toArray, List.map_cons, List.map_nil, h.eval hx, h.eval hy]
 simp [go_sem, invoke, builtin]
 try (split <;> omega)
end Go.Proofs.YthnohcipianijaaGreatDoor
namespace Go.Proofs.YthnohcipianijaaGreatDoor.Lx
def dA (c : UInt8) : Bool := decide (97 ≤ c.toNat) && decide (c.toNat ≤ 122)
def upperB (c : UInt8) : Bool := decide (65 ≤ c.toNat) && decide (c.toNat ≤ 90)
def aT (c : UInt8) : Bool := decide (48 ≤ c.toNat) && decide (c.toNat ≤ 57)
def bF (c : UInt8) : Bool := dA c || upperB c
def bh (c : UInt8) : Bool := bF c || aT c || c.toNat == 95
def hW (c : UInt8) : Bool := c.toNat == 9 || c.toNat == 10 || c.toNat == 13 || c.toNat == 32
def lw (c : UInt8) : Bool := decide (32 ≤ c.toNat) && decide (c.toNat ≤ 126)
def bO (c : UInt8) : Bool := hW c || lw c
def words : List (List UInt8) := [[109, 111, 100, 117, 108, 101], [100, 101, 102], [116, 121, 112, 101], [108, 101, 116], [105, 110], [105, 102], [116, 104, 101, 110], [101, 108, 115, 101], [116, 114, 117, 101], [102, 97, 108, 115, 101], [73, 110, 116], [84, 101, 120, 116], [66, 111, 111, 108]]
def gi (l : List UInt8) : Bool := words.contains l
def spanN (p : UInt8 → Bool) (l : List UInt8) : Nat := (l.takeWhile p).length
def bv (l : List UInt8) : Bool :=
 upperB (l.getD 0 0) && !gi (l.take (spanN bh l)) && decide (spanN bh l + 1 < l.length) && ((l.getD (spanN bh l) 0).toNat == 46) && bF (l.getD (spanN bh l + 1) 0)
def bo (l : List UInt8) (n : Nat) : Nat × Nat × Nat :=
 if 24 < n then (0, 0, 3) else if gi (l.take n) = true then (7, n, 0) else if dA (l.getD 0 0) = true then (1, n, 0) else (2, n, 0)
def da (l : List UInt8) (n m : Nat) : Nat × Nat × Nat :=
 if 24 < n ∨ 24 < m then (0, 0, 3)
 else if gi ((l.drop (n + 1)).take m) = true then (0, 0, 2)
 else if dA (l.getD (n + 1) 0) = true then (3, n + 1 + m, 0)
 else (4, n + 1 + m, 0)
def aU (l : List UInt8) : Nat × Nat × Nat :=
 if bv l = true then da l (spanN bh l) (spanN bh (l.drop (spanN bh l + 1))) else bo l (spanN bh l)
def cx (l : List UInt8) : Nat × Nat :=
 let n := spanN aT l
 if 1 < n ∧ (l.getD 0 0).toNat = 48 then (0, 2) else if 15 < n then (0, 3) else (n, 0)
def quotedT : List UInt8 → Nat → Nat × Nat
 | [], _ => (0, 2)
 | c :: r, i =>
  if bO c = false then (i, 1)
  else if c.toNat = 34 then (i + 1, 0)
  else if c.toNat = 92 ∨ c.toNat < 32 then (0, 2)
  else quotedT r (i + 1)
def signs : List UInt8 := [40, 41, 91, 93, 58, 44, 61, 43, 45, 42, 60, 63]
def tokenT (l : List UInt8) : Nat × Nat × Nat :=
 let c := l.getD 0 0
 if bO c = false then (0, 0, 1)
 else if bF c = true then aU l
 else if aT c = true then (5, cx l)
 else if c.toNat = 34 then (6, quotedT l.tail 1)
 else if c.toNat = 61 ∧ 1 < l.length ∧ (l.getD 1 0).toNat = 61 then (8, 2, 0)
 else if signs.contains c = true then (8, 1, 0)
 else (0, 0, 2)
def cu : Bool → List UInt8 → Nat → Nat × Option Nat
 | _, [], n => (n, none)
 | false, c :: r, n => if hW c = true then cu false r (n + 1) else if c.toNat = 35 then cu true r (n + 1) else (n, none)
 | true, c :: r, n => if c.toNat = 10 then cu false r (n + 1) else if bO c = false then (n, some n) else cu true r (n + 1)
structure TokZ where
 kind : Int
 lead : List UInt8
 text : List UInt8
structure Scanned where
 toks : List TokZ
 tail : List UInt8
 place : Nat
 err : Nat
def scanT : Nat → List UInt8 → Nat → List TokZ → Scanned
 | 0, _, _, _ => ⟨[], [], 0, 0⟩
 | f + 1, l, pos, acc =>
  match (cu false l 0).2 with
  | some b => ⟨[], [], pos + b, 1⟩
  | none =>
   if (cu false l 0).1 = l.length then ⟨acc, l, 0, 0⟩
   else if (tokenT (l.drop (cu false l 0).1)).2.2 = 0 then
    scanT f (l.drop ((cu false l 0).1 + (tokenT (l.drop (cu false l 0).1)).2.1)) (pos + (cu false l 0).1 + (tokenT (l.drop (cu false l 0).1)).2.1)
     (acc ++ [⟨(tokenT (l.drop (cu false l 0).1)).1, l.take (cu false l 0).1, (l.drop (cu false l 0).1).take (tokenT (l.drop (cu false l 0).1)).2.1⟩])
   else ⟨[], [], pos + (cu false l 0).1 + (tokenT (l.drop (cu false l 0).1)).2.1, (tokenT (l.drop (cu false l 0).1)).2.2⟩
def scan (l : List UInt8) : Scanned := if 4096 < l.length then ⟨[], [], 4096, 3⟩ else scanT (l.length + 1) l 0 []
def bb (l : List UInt8) : Nat := if l = [] then 0 else if (tokenT l).2.2 = 0 ∧ (tokenT l).2.1 = l.length then (tokenT l).1 else 0
theorem gK {p : UInt8 → Bool} {l : List UInt8} {k : Nat} {c : UInt8} (h : k < l.length) (hc : l[k] = c) (hp : p c = true) :
  spanN p (l.drop k) = spanN p (l.drop (k + 1)) + 1 := by
 rw [List.drop_eq_getElem_cons h, hc]; simp [spanN, hp]
theorem mq {p : UInt8 → Bool} {l : List UInt8} {k : Nat} {c : UInt8} (h : k < l.length) (hc : l[k] = c) (hp : p c = false) :
  spanN p (l.drop k) = 0 := by
 rw [List.drop_eq_getElem_cons h, hc]; simp [spanN, hp]
theorem nm {p : UInt8 → Bool} {l : List UInt8} {k : Nat} (h : l.length ≤ k) : spanN p (l.drop k) = 0 := by
 rw [List.drop_of_length_le h]; rfl
theorem lE (p : UInt8 → Bool) : ∀ (l : List UInt8), spanN p l ≤ l.length
 | [] => Nat.le_refl _
 | c :: r => by
  have := lE p r
  unfold spanN at *
  rw [List.takeWhile_cons]
  split <;> simp <;> omega
theorem jM {c : UInt8} (h : bF c = true ∨ aT c = true ∨ ((c.toNat : Int) == 95) = true) : bh c = true := by
 rcases h with h | h | h <;> simp_all [bh] <;> omega
theorem ph {c : UInt8} (h1 : ¬ bF c = true) (h2 : ¬ aT c = true) (h3 : ((c.toNat : Int) == 95) = false) : bh c = false := by
 simp_all [bh]; omega
theorem aE {l : List UInt8} {k : Nat} {c : UInt8} (h : k < l.length) (hc : l[k] = c) : l.getD k 0 = c := by
 simp [List.getD, List.getElem?_eq_getElem h, hc]
theorem lH {n m : Nat} (h : ((n : Int) == (m : Int)) = true) : n = m := by simp at h; omega
theorem iN {n m : Nat} (h : ((n : Int) == (m : Int)) = false) : ¬ n = m := by simp at h; omega
theorem km {l : List UInt8} {k : Nat} {c : UInt8} (h : spanN aT l = k) (h1 : 1 < k) (h0 : 0 < l.length) (hc : l[0] = c) (h48 : ((c.toNat : Int) == 48) = true) : cx l = (0, 2) := by
 unfold cx; rw [h, aE h0 hc]; have := lH (m := 48) h48; simp [h1, this]
theorem kz {l : List UInt8} {k : Nat} (h : spanN aT l = k) (h1 : 1 < k → ¬ (l.getD 0 0).toNat = 48) (h15 : 15 < k) : cx l = (0, 3) := by
 unfold cx; rw [h]; simp only; rw [if_neg (fun x => h1 x.1 x.2), if_pos h15]
theorem gI {l : List UInt8} {k : Nat} (h : spanN aT l = k) (h1 : 1 < k → ¬ (l.getD 0 0).toNat = 48) (h15 : ¬ 15 < k) : cx l = (k, 0) := by
 unfold cx; rw [h]; simp only; rw [if_neg (fun x => h1 x.1 x.2), if_neg h15]
theorem nW {l : List UInt8} {k : Nat} {c : UInt8} (h : k < l.length) (hc : l[k] = c) :
  quotedT (l.drop k) k = if bO c = false then (k, 1) else if c.toNat = 34 then (k + 1, 0) else if c.toNat = 92 ∨ c.toNat < 32 then (0, 2) else quotedT (l.drop (k + 1)) (k + 1) := by
 rw [List.drop_eq_getElem_cons h, hc]; rfl
theorem pj {l : List UInt8} {k : Nat} (h : l.length ≤ k) : quotedT (l.drop k) k = (0, 2) := by
 rw [List.drop_of_length_le h]; rfl
theorem tg (l : List UInt8) (a b : Nat) : (ByteArray.mk l.toArray).extract a b = ⟨((l.drop a).take (b - a)).toArray⟩ := by
 apply ByteArray.ext
 rw [ByteArray.data_extract]
 simp [List.extract_eq_take_drop]
theorem nu (l : List UInt8) (a : Nat) : (l.drop a).take (l.length - a) = l.drop a := by
 apply List.take_of_length_le; simp
theorem ib {l : List UInt8} {n : Nat} (hn : spanN bh l = n) (h : bv l = false) : aU l = bo l n := by simp [aU, h, hn]
theorem rM {l : List UInt8} {n m : Nat} (hn : spanN bh l = n) (hm : spanN bh (l.drop (n + 1)) = m) (h : bv l = true) : aU l = da l n m := by simp [aU, h, hn, hm]
theorem vK {l : List UInt8} {c : UInt8} (h0 : 0 < l.length) (hc : l[0] = c) (h : upperB c = false) : bv l = false := by
 simp [bv, aE h0 hc, h, -List.getD_eq_getElem?_getD]
theorem vo {l : List UInt8} {n : Nat} (hn : spanN bh l = n) (h : gi (l.take n) = true) : bv l = false := by
 simp [bv, hn, h]
theorem vd {l : List UInt8} {n : Nat} (hn : spanN bh l = n) (h : ¬ n + 1 < l.length) : bv l = false := by
 simp [bv, hn, h]
theorem vE {l : List UInt8} {n : Nat} {c : UInt8} (hn : spanN bh l = n) (hl : n < l.length) (hc : l[n] = c) (h : ((c.toNat : Int) == 46) = false) : bv l = false := by
 have := iN (m := 46) h
 simp [bv, hn, aE hl hc, this, -List.getD_eq_getElem?_getD]
theorem vj {l : List UInt8} {n : Nat} {c : UInt8} (hn : spanN bh l = n) (hl : n + 1 < l.length) (hc : l[n + 1] = c) (h : bF c = false) : bv l = false := by
 simp [bv, hn, aE hl hc, h, -List.getD_eq_getElem?_getD]
theorem sA {l : List UInt8} {n : Nat} {c0 c1 c2 : UInt8} (hn : spanN bh l = n) (h0 : 0 < l.length) (hc0 : l[0] = c0) (hu : upperB c0 = true) (hr : gi (l.take n) = false)
  (hl : n + 1 < l.length) (hl' : n < l.length) (hc1 : l[n] = c1) (h46 : ((c1.toNat : Int) == 46) = true) (hc2 : l[n + 1] = c2) (h3 : bF c2 = true) : bv l = true := by
 have := lH (m := 46) h46
 simp [bv, hn, aE h0 hc0, aE hl' hc1, aE hl hc2, hu, hr, hl, h3, this, -List.getD_eq_getElem?_getD]
theorem rT {l : List UInt8} {c : UInt8} (h0 : 0 < l.length) (hc : l[0] = c) :
  tokenT l = if bO c = false then (0, 0, 1) else if bF c = true then aU l else if aT c = true then (5, cx l) else if c.toNat = 34 then (6, quotedT l.tail 1)
   else if c.toNat = 61 ∧ 1 < l.length ∧ (l.getD 1 0).toNat = 61 then (8, 2, 0) else if signs.contains c = true then (8, 1, 0) else (0, 0, 2) := by
 unfold tokenT; rw [aE h0 hc]
end Go.Proofs.YthnohcipianijaaGreatDoor.Lx
namespace Go.Proofs.YthnohcipianijaaGreatDoor.Sx
open Lx
inductive Tree where
 | node (kind : Int) (text : List UInt8) (leads : List (List UInt8)) (kids : List Tree)
def Tree.kind : Tree → Int | .node k _ _ _ => k
def Tree.text : Tree → List UInt8 | .node _ s _ _ => s
def Tree.leads : Tree → List (List UInt8) | .node _ _ l _ => l
def Tree.kids : Tree → List Tree | .node _ _ _ k => k
def fV : Tree := .node 0 [] [] []
def uk : TokZ := ⟨0, [], []⟩
structure PS where
 toks : List TokZ
 off : Nat
 size : Nat
 failed : Nat
 place : Nat
def aM (s : PS) : TokZ := s.toks.headD uk
def kQ (e : Nat) (s : PS) : PS := if s.failed = 0 then ⟨[], s.off, s.size, e, s.off⟩ else ⟨[], s.off, s.size, s.failed, s.place⟩
def bD (s : PS) : PS :=
 match s.toks with
 | [] => s
 | [_] => ⟨[], s.size, s.size, s.failed, s.place⟩
 | t :: u :: r => ⟨u :: r, s.off + (t.text.length + u.lead.length), s.size, s.failed, s.place⟩
def bX (x : List UInt8) (s : PS) : List UInt8 × PS := if (aM s).text = x then ((aM s).lead, bD s) else ([], kQ 2 s)
def iB (k o : Int) (s : PS) : List UInt8 × List UInt8 × PS :=
 if (aM s).kind = 0 ∨ ((aM s).kind ≠ k ∧ (aM s).kind ≠ o) then ([], [], kQ 2 s) else ((aM s).text, (aM s).lead, bD s)
def um : List UInt8 := [109, 111, 100, 117, 108, 101]
def tl : List UInt8 := [100, 101, 102]
def tQ : List UInt8 := [116, 121, 112, 101]
def vW : List UInt8 := [108, 101, 116]
def wIn : List UInt8 := [105, 110]
def wIf : List UInt8 := [105, 102]
def wK : List UInt8 := [116, 104, 101, 110]
def wQ : List UInt8 := [101, 108, 115, 101]
def tY : List UInt8 := [116, 114, 117, 101]
def rH : List UInt8 := [102, 97, 108, 115, 101]
def xP : List UInt8 := [73, 110, 116]
def xa : List UInt8 := [84, 101, 120, 116]
def xf : List UInt8 := [66, 111, 111, 108]
def wP (x : List UInt8) : Bool := x == [43] || x == [45] || x == [42] || x == [60] || x == [61, 61]
def py (t : TokZ) : Bool :=
 t.kind == 5 || t.kind == 6 || t.kind == 1 || t.kind == 3 || t.text == vW || t.text == wIf || t.text == tY || t.text == rH || t.text == [63] || t.text == [91] || t.text == [40]
def mL : Nat → PS → Tree × PS
 | 0, s => (fV, s)
 | n + 1, s =>
  if (aM s).text = xP then (.node 5 [] [(aM s).lead] [], bD s)
  else if (aM s).text = xa then (.node 6 [] [(aM s).lead] [], bD s)
  else if (aM s).text = xf then (.node 7 [] [(aM s).lead] [], bD s)
  else if (aM s).text = [91] then
   (.node 8 [] [(aM s).lead, (bX [93] (mL n (bD s)).2).1] [(mL n (bD s)).1], (bX [93] (mL n (bD s)).2).2)
  else (.node 9 (iB 2 4 s).1 [(iB 2 4 s).2.1] [], (iB 2 4 s).2.2)
def sa (n : Nat) (s0 : PS) : Tree × PS :=
 let a := bX tQ s0
 let b := iB 2 2 a.2
 let c := bX [61] b.2.2
 let t := mL n c.2
 (.node 3 b.1 [a.1, b.2.1, c.1] [t.1], t.2)
def wl (n : Nat) (s0 : PS) : Tree × PS :=
 let b := iB 1 1 s0
 let c := bX [58] b.2.2
 let t := mL n c.2
 (.node 4 b.1 [b.2.1, c.1] [t.1], t.2)
def commaF (item : PS → Tree × PS) (most : Nat) (beg : TokZ → Bool) : Nat → List (List UInt8) → List Tree → PS → List (List UInt8) × List Tree × PS
 | 0, cs, ks, s => (cs, ks, s)
 | m + 1, cs, ks, s =>
  if (aM s).text = [44] then
   let s2 := if ks.length = most ∧ beg (aM (bD s)) = true then kQ 3 (bD s) else bD s
   commaF item most beg m (cs ++ [(aM s).lead]) (ks ++ [(item s2).1]) (item s2).2
  else (cs, ks, s)
def xL (E : PS → Tree × PS) (s : PS) : Tree × PS := (.node 17 [] [] [(E s).1], (E s).2)
def vC (item : PS → Tree × PS) (most : Nat) (beg : TokZ → Bool) (s : PS) : List (List UInt8) × List Tree × PS :=
 if (aM s).text = [41] then ([], [], s) else commaF item most beg ((item s).2.toks.length + 1) [] [(item s).1] (item s).2
def xM (E : PS → Tree × PS) (s0 : PS) : Tree × PS :=
 if (aM s0).kind = 1 ∧ ¬ (aM (bD s0)).text = [40] then (.node 12 (aM s0).text [(aM s0).lead] [], bD s0)
 else
  let a := bX [40] (bD s0)
  let r := vC (xL E) 8 py a.2
  let z := bX [41] r.2.2
  (.node 16 (aM s0).text ([(aM s0).lead, a.1, z.1] ++ r.1) r.2.1, z.2)
def xe (E : PS → Tree × PS) (s0 : PS) : Tree × PS :=
 let a := bX [91] s0
 let r := commaF E 16 py ((E a.2).2.toks.length + 1) [] [(E a.2).1] (E a.2).2
 let z := bX [93] r.2.2
 (.node 18 [] ([a.1, z.1] ++ r.1) r.2.1, z.2)
def vP (E : PS → Tree × PS) (s0 : PS) : Tree × PS :=
 let e := E (bD s0)
 let z := bX [41] e.2
 (.node 22 [] [(aM s0).lead, z.1] [e.1], z.2)
def nw (E : PS → Tree × PS) (s : PS) : Tree × PS :=
 let t := aM s
 if t.kind = 1 ∨ t.kind = 3 then xM E s
 else if t.text = tY then (.node 13 [] [t.lead] [], bD s)
 else if t.text = rH then (.node 14 [] [t.lead] [], bD s)
 else if t.text = [63] then (.node 15 [] [t.lead] [], bD s)
 else if t.text = [91] then xe E s
 else if t.text = [40] then vP E s
 else if t.kind = 5 then (.node 10 t.text [t.lead] [], bD s)
 else if t.kind = 6 then (.node 11 t.text [t.lead] [], bD s)
 else (fV, kQ 2 s)
def wf (U : PS → Tree × PS) : Nat → Tree → PS → Tree × PS
 | 0, t, s => (t, s)
 | m + 1, t, s =>
  if wP (aM s).text = true then wf U m (.node 21 (aM s).text [(aM s).lead] [t, (U (bD s)).1]) (U (bD s)).2
  else (t, s)
def xy (E : PS → Tree × PS) (s0 : PS) : Tree × PS :=
 let b := iB 1 1 (bD s0)
 let c := bX [61] b.2.2
 let x := E c.2
 let d := bX wIn x.2
 let y := E d.2
 (.node 20 b.1 [(aM s0).lead, b.2.1, c.1, d.1] [x.1, y.1], y.2)
def ifF (E : PS → Tree × PS) (s0 : PS) : Tree × PS :=
 let x := E (bD s0)
 let c := bX wK x.2
 let y := E c.2
 let d := bX wQ y.2
 let z := E d.2
 (.node 19 [] [(aM s0).lead, c.1, d.1] [x.1, y.1, z.1], z.2)
def xk (E : PS → Tree × PS) (s : PS) : Tree × PS :=
 if (aM s).text = vW then xy E s
 else if (aM s).text = wIf then ifF E s
 else wf (nw E) ((nw E s).2.toks.length + 1) (nw E s).1 (nw E s).2
def tX : Nat → PS → Tree × PS
 | 0, s => (fV, s)
 | n + 1, s => xk (tX n) s
def mT (n : Nat) (s0 : PS) : Tree × PS :=
 let a := bX tl s0
 let b := iB 1 1 a.2
 let c := bX [40] b.2.2
 let r := vC (wl n) 8 (fun t => t.kind == 1) c.2
 let d := bX [41] r.2.2
 let e := bX [58] d.2
 let t := mL n e.2
 let g := bX [61] t.2
 let x := tX n g.2
 (.node 2 b.1 ([a.1, b.2.1, c.1, d.1, e.1, g.1] ++ r.1) (r.2.1 ++ [t.1, x.1]), x.2)
def mh (n : Nat) : Nat → List Tree → PS → List Tree × PS
 | 0, ks, s => (ks, s)
 | m + 1, ks, s =>
  if s.toks = [] then (ks, s)
  else if ¬ (aM s).text = tl ∧ ¬ (aM s).text = tQ then mh n m ks (kQ 2 s)
  else if ks.length = 40 then mh n m ks (kQ 3 s)
  else if (aM s).text = tl then mh n m (ks ++ [(mT n s).1]) (mT n s).2
  else mh n m (ks ++ [(sa n s).1]) (sa n s).2
def xg (n : Nat) (s0 : PS) : Tree × PS :=
 let a := bX um s0
 let b := iB 2 2 a.2
 let r := mh n (b.2.2.toks.length + 2) [] b.2.2
 (.node 1 b.1 [a.1, b.2.1, []] r.1, r.2)
mutual
def depthT : Tree → Nat
 | .node _ _ _ ks => depthsT ks + 1
def depthsT : List Tree → Nat
 | [] => 0
 | t :: r => max (depthT t) (depthsT r)
end
def vf (toks : List TokZ) (size : Nat) : PS := ⟨toks, match toks with | [] => size | t :: _ => t.lead.length, size, 0, 0⟩
def iY (l : List UInt8) : Tree × Nat × Nat :=
 let r := scan l
 if ¬ r.err = 0 then (fV, r.place, r.err)
 else
  let f := xg (r.toks.length + 1) (vf r.toks l.length)
  if ¬ f.2.failed = 0 then (fV, f.2.place, f.2.failed)
  else if 40 < depthT f.1 then (fV, 0, 4)
  else (.node f.1.kind f.1.text (f.1.leads.set 2 r.tail) f.1.kids, 0, 0)
end Go.Proofs.YthnohcipianijaaGreatDoor.Sx
namespace Go.Proofs.YthnohcipianijaaGreatDoor
open Go.RowKit Lx Sx
abbrev gq (l : List UInt8) : Value := .string ⟨l.toArray⟩
def RowIn (S : Nat → Prop) (w : World) (size : Nat) (A : Option Addr) (n : Nat) (xs : List Value) : Prop :=
 xs.length = n * size ∧ (0 < n → ∃ b off, A = some ⟨b, off, none⟩ ∧ S b ∧ b < w.heap.size ∧ ∀ j, j < n * size → w.cell? ⟨b, off + j, none⟩ = xs[j]?)
mutual
def TreeIs (S : Nat → Prop) (w : World) : Tree → List Value → Prop
 | .node k s ls ks, c => ∃ A m B n, c = [.int .i64 k, gq s, .slice A ls.length m, .slice B ks.length n] ∧ ls.length ≤ m ∧ m ≤ maxLen ∧ ks.length ≤ n ∧ n ≤ maxLen ∧
  RowIn S w 1 A ls.length (ls.map gq) ∧ ∃ cs, KidsAre S w ks cs ∧ RowIn S w 4 B ks.length cs
def KidsAre (S : Nat → Prop) (w : World) : List Tree → List Value → Prop
 | [], cs => cs = []
 | t :: r, cs => ∃ c d, cs = c ++ d ∧ TreeIs S w t c ∧ KidsAre S w r d
end
section
variable {S S' : Nat → Prop} {w w' : World}
theorem RowIn.none_ {size : Nat} {A : Option Addr} : RowIn S w size A 0 [] := ⟨by simp, fun h => absurd h (by omega)⟩
theorem RowIn.keepB {size n : Nat} {A : Option Addr} {xs : List Value} (h : RowIn S w size A n xs) (hS : ∀ b, S b → b < w.heap.size → S' b) (hk : ∀ b, S b → b < w.heap.size → w'.heap[b]? = w.heap[b]?) : RowIn S' w' size A n xs := by
 refine ⟨h.1, fun hn => ?_⟩
 obtain ⟨b, off, e, hs, hb, hc⟩ := h.2 hn
 have hh := hk b hs hb
 refine ⟨b, off, e, hS b hs hb, ?_, fun j hj => ?_⟩
 ·rcases Nat.lt_or_ge b w'.heap.size with h1 | h1
  ·exact h1
  ·rw [Array.getElem?_eq_none h1, Array.getElem?_eq_getElem hb] at hh; cases hh
 ·rw [← hc j hj]; exact World.cell?_of_block (a := ⟨b, off + j, none⟩) hh
theorem RowIn.keep {size n : Nat} {A : Option Addr} {xs : List Value} (h : RowIn S w size A n xs) (hS : ∀ b, S b → S' b) (hk : ∀ b, S b → b < w.heap.size → w'.heap[b]? = w.heap[b]?) : RowIn S' w' size A n xs := by
 refine ⟨h.1, fun hn => ?_⟩
 obtain ⟨b, off, e, hs, hb, hc⟩ := h.2 hn
 have hh := hk b hs hb
 refine ⟨b, off, e, hS b hs, ?_, fun j hj => ?_⟩
 ·rcases Nat.lt_or_ge b w'.heap.size with h1 | h1
  ·exact h1
  ·rw [Array.getElem?_eq_none h1, Array.getElem?_eq_getElem hb] at hh; cases hh
 ·rw [← hc j hj]; exact World.cell?_of_block (a := ⟨b, off + j, none⟩) hh
mutual
theorem TreeIs.keepB (hS : ∀ b, S b → b < w.heap.size → S' b) (hk : ∀ b, S b → b < w.heap.size → w'.heap[b]? = w.heap[b]?) : ∀ {t : Tree} {c : List Value}, TreeIs S w t c → TreeIs S' w' t c
 | .node k s ls ks, c, h => by
  simp only [TreeIs] at h ⊢
  obtain ⟨A, m, B, n, e, h1, h2, h3, h4, h5, cs, h6, h7⟩ := h
  exact ⟨A, m, B, n, e, h1, h2, h3, h4, h5.keepB hS hk, cs, KidsAre.keepB hS hk h6, h7.keepB hS hk⟩
theorem KidsAre.keepB (hS : ∀ b, S b → b < w.heap.size → S' b) (hk : ∀ b, S b → b < w.heap.size → w'.heap[b]? = w.heap[b]?) : ∀ {ts : List Tree} {cs : List Value}, KidsAre S w ts cs → KidsAre S' w' ts cs
 | [], cs, h => by simp only [KidsAre] at h ⊢; exact h
 | t :: r, cs, h => by
  simp only [KidsAre] at h ⊢
  obtain ⟨c, d, e, h1, h2⟩ := h
  exact ⟨c, d, e, TreeIs.keepB hS hk h1, KidsAre.keepB hS hk h2⟩
end
mutual
theorem TreeIs.keep (hS : ∀ b, S b → S' b) (hk : ∀ b, S b → b < w.heap.size → w'.heap[b]? = w.heap[b]?) : ∀ {t : Tree} {c : List Value}, TreeIs S w t c → TreeIs S' w' t c
 | .node k s ls ks, c, h => by
  simp only [TreeIs] at h ⊢
  obtain ⟨A, m, B, n, e, h1, h2, h3, h4, h5, cs, h6, h7⟩ := h
  exact ⟨A, m, B, n, e, h1, h2, h3, h4, h5.keep hS hk, cs, KidsAre.keep hS hk h6, h7.keep hS hk⟩
theorem KidsAre.keep (hS : ∀ b, S b → S' b) (hk : ∀ b, S b → b < w.heap.size → w'.heap[b]? = w.heap[b]?) : ∀ {ts : List Tree} {cs : List Value}, KidsAre S w ts cs → KidsAre S' w' ts cs
 | [], cs, h => by simp only [KidsAre] at h ⊢; exact h
 | t :: r, cs, h => by
  simp only [KidsAre] at h ⊢
  obtain ⟨c, d, e, h1, h2⟩ := h
  exact ⟨c, d, e, TreeIs.keep hS hk h1, KidsAre.keep hS hk h2⟩
end
theorem TreeIs.four {t : Tree} {c : List Value} (h : TreeIs S w t c) : c.length = 4 := by
 cases t; simp only [TreeIs] at h; obtain ⟨A, m, B, n, e, _⟩ := h; rw [e]; rfl
theorem KidsAre.length : ∀ {ts : List Tree} {cs : List Value}, KidsAre S w ts cs → cs.length = ts.length * 4
 | [], cs, h => by simp only [KidsAre] at h; simp [h]
 | t :: r, cs, h => by
  simp only [KidsAre] at h
  obtain ⟨c, d, e, h1, h2⟩ := h
  have := KidsAre.length h2
  have := h1.four
  rw [e]; simp; omega
abbrev Any : Nat → Prop := fun _ => True
theorem TreeIs.ext {t : Tree} {c : List Value} (h : TreeIs S w t c) (he : Ext w w') : TreeIs S w' t c := h.keep (fun _ h => h) (fun _ _ hb => he.block hb)
theorem KidsAre.ext {ts : List Tree} {c : List Value} (h : KidsAre S w ts c) (he : Ext w w') : KidsAre S w' ts c := h.keep (fun _ h => h) (fun _ _ hb => he.block hb)
theorem RowIn.ext {size n : Nat} {A : Option Addr} {xs : List Value} (h : RowIn S w size A n xs) (he : Ext w w') : RowIn S w' size A n xs := h.keep (fun _ h => h) (fun _ _ hb => he.block hb)
theorem RowIn.row {size n : Nat} {A : Option Addr} {xs : List Value} (h : RowIn S w size A n xs) : Row w size A n xs :=
 ⟨h.1, fun hn => by obtain ⟨b, off, e, _, hb, hc⟩ := h.2 hn; exact ⟨b, off, e, hb, hc⟩⟩
theorem TreeIs.bound : ∀ {t : Tree} {c : List Value}, TreeIs S w t c → TreeIs (fun b => S b ∧ b < w.heap.size) w t c := fun {t c} h => TreeIs.keepB (S := S) (S' := fun b => S b ∧ b < w.heap.size) (fun b hb hlt => ⟨hb, hlt⟩) (fun _ _ _ => rfl) h
theorem uA {k : Int} {s : List UInt8} {ls : List (List UInt8)} {ks : List Tree} {A B : Option Addr} {m n : Nat} {cs : List Value} (h1 : ls.length ≤ m) (h2 : m ≤ maxLen) (h3 : ks.length ≤ n) (h4 : n ≤ maxLen)
  (h5 : RowIn S w 1 A ls.length (ls.map gq)) (h6 : KidsAre S w ks cs) (h7 : RowIn S w 4 B ks.length cs) : TreeIs S w (.node k s ls ks) [.int .i64 k, gq s, .slice A ls.length m, .slice B ks.length n] := by
 simp only [TreeIs]
 exact ⟨A, m, B, n, rfl, h1, h2, h3, h4, h5, cs, h6, h7⟩
theorem TreeIs.one {t : Tree} {c : List Value} (h : TreeIs S w t c) : c.all (·.oneCell') = true := by
 cases t; simp only [TreeIs] at h; obtain ⟨A, m, B, n, e, _⟩ := h; rw [e]; rfl
end
end Go.Proofs.YthnohcipianijaaGreatDoor
namespace Go.Proofs.YthnohcipianijaaGreatDoor
open Go.RowKit
inductive V where
 | int (k : IntKind) (n : Int)
 | bool (b : Bool)
 | str (l : List UInt8)
 | nilp
 | nils
 | raw (x : Value)
 | ptr (id off : Nat)
 | el (id sz i off : Nat)
 | sl (id : Nat)
 | box (cs : List V) (off : Nat)
 | row (sz : Nat) (els : List V)
 | agg (cs : List V)
 | tup (vs : List V)
 | clo (fid : FuncId) (cs : List V)
 | lk (els : List (List V))
inductive Ob where
 | free
 | gone
 | var (t : TypeId) (cs : List V)
 | row (e : TypeId) (sz : Nat) (els : List V)
 | ext (bs : List Nat) (Φ : World → Prop)
 | mp (kt et : TypeId) (ks vs : List V)
def Value.blk : Value → Option Nat
 | .pointer (some a) => some a.block
 | _ => none
abbrev ρ0 : Nat → Option Value := fun _ => none
section
variable (S : Nat → Prop) (w : World)
mutual
def VRel (ρ : Nat → Option Value) : V → Value → Prop
 | .int k n, x => x = .int k n
 | .bool b, x => x = .bool b
 | .str l, x => x = .string ⟨l.toArray⟩
 | .nilp, x => x = .pointer none
 | .nils, x => x = .slice none 0 0
 | .raw y, x => x = y ∧ y.oneCell' = true
 | .ptr id o, x => ∃ b, ρ id = some (.pointer (some ⟨b, 0, none⟩)) ∧ x = .pointer (some ⟨b, o, none⟩)
 | .el id sz i o, x => ∃ b n c, ρ id = some (.slice (some ⟨b, 0, none⟩) n c) ∧ x = .pointer (some ⟨b, i * sz + o, none⟩)
 | .sl id, x => ρ id = some x ∧ x.oneCell' = true
 | .box cs o, x => ∃ b off xs, x = .pointer (some ⟨b, off + o, none⟩) ∧ S b ∧ b < w.heap.size ∧ LRel ρ0 cs xs ∧ ∀ j, j < xs.length → w.cell? ⟨b, off + j, none⟩ = xs[j]?
 | .row sz els, x => ∃ A c xs, x = .slice A els.length c ∧ els.length ≤ c ∧ c ≤ maxLen ∧ CRel ρ0 sz els xs ∧ RowIn S w sz A els.length xs
 | .agg cs, x => ∃ xs, x = .agg xs.toArray ∧ LRel ρ cs xs
 | .tup cs, x => ∃ xs, x = .tuple xs.toArray ∧ LRel ρ cs xs
 | .clo fid cs, x => ∃ xs, x = .func (.func fid) #[] xs.toArray ∧ LRel ρ cs xs
 | .lk els, x => KRel els x
def LRel (ρ : Nat → Option Value) : List V → List Value → Prop
 | [], xs => xs = []
 | v :: r, xs => ∃ x ys, xs = x :: ys ∧ VRel ρ v x ∧ LRel ρ r ys
def KRel : List (List V) → Value → Prop
 | [], x => x = .pointer none
 | cs :: r, x => ∃ b off xs y, x = .pointer (some ⟨b, off, none⟩) ∧ S b ∧ b < w.heap.size ∧ LRel ρ0 cs xs ∧ KRel r y ∧ y.oneCell' = true ∧ ∀ j, j < xs.length + 1 → w.cell? ⟨b, off + j, none⟩ = (xs ++ [y])[j]?
def CRel (ρ : Nat → Option Value) (sz : Nat) : List V → List Value → Prop
 | [], xs => xs = []
 | v :: r, xs => ∃ x ys, xs = x.cells.toList ++ ys ∧ (x.cells.size = sz ∧ x.cells.toList.all (·.oneCell') = true) ∧ VRel ρ v x ∧ CRel ρ sz r ys
end
end
structure Up (S S' : Nat → Prop) (w w' : World) (ρ ρ' : Nat → Option Value) : Prop where
 s : ∀ b, S b → S' b
 blk : ∀ b, S b → b < w.heap.size → w'.heap[b]? = w.heap[b]?
 r : ∀ i x, ρ i = some x → ρ' i = some x
section
variable {S S' : Nat → Prop} {w w' : World}
section
variable {ρ ρ' : Nat → Option Value}
theorem Up.refl : Up S S w w ρ ρ := ⟨fun _ h => h, fun _ _ _ => rfl, fun _ _ h => h⟩
theorem Up.lt (u : Up S S' w w' ρ ρ') {b : Nat} (hs : S b) (hb : b < w.heap.size) : b < w'.heap.size := by
 have hh := u.blk b hs hb
 rcases Nat.lt_or_ge b w'.heap.size with h1 | h1
 ·exact h1
 ·rw [Array.getElem?_eq_none h1, Array.getElem?_eq_getElem hb] at hh; cases hh
theorem Up.cell (u : Up S S' w w' ρ ρ') {b i : Nat} (hs : S b) (hb : b < w.heap.size) : w'.cell? ⟨b, i, none⟩ = w.cell? ⟨b, i, none⟩ :=
 World.cell?_of_block (a := ⟨b, i, none⟩) (u.blk b hs hb)
end
theorem Up.z {ρ ρ' : Nat → Option Value} (u : Up S S' w w' ρ ρ') : Up S S' w w' ρ0 ρ0 := ⟨u.s, u.blk, fun _ _ h => h⟩
mutual
theorem VRel.up {ρ ρ' : Nat → Option Value} (u : Up S S' w w' ρ ρ') : ∀ {v : V} {x : Value}, VRel S w ρ v x → VRel S' w' ρ' v x
 | .int _ _, x, h => by simp only [VRel] at h ⊢; exact h
 | .bool _, x, h => by simp only [VRel] at h ⊢; exact h
 | .str _, x, h => by simp only [VRel] at h ⊢; exact h
 | .nilp, x, h => by simp only [VRel] at h ⊢; exact h
 | .nils, x, h => by simp only [VRel] at h ⊢; exact h
 | .raw _, x, h => by simp only [VRel] at h ⊢; exact h
 | .ptr id o, x, h => by
  simp only [VRel] at h ⊢
  obtain ⟨b, h1, h2⟩ := h
  exact ⟨b, u.r _ _ h1, h2⟩
 | .el id sz i o, x, h => by
  simp only [VRel] at h ⊢
  obtain ⟨b, n, c, h1, h2⟩ := h
  exact ⟨b, n, c, u.r _ _ h1, h2⟩
 | .sl id, x, h => by simp only [VRel] at h ⊢; exact ⟨u.r _ _ h.1, h.2⟩
 | .box cs o, x, h => by
  simp only [VRel] at h ⊢
  obtain ⟨b, off, xs, h1, h2, h3, h4, h5⟩ := h
  exact ⟨b, off, xs, h1, u.s b h2, u.lt h2 h3, LRel.up u.z h4, fun j hj => (u.cell h2 h3).trans (h5 j hj)⟩
 | .row sz els, x, h => by
  simp only [VRel] at h ⊢
  obtain ⟨A, c, xs, h1, h2, h3, h4, h5⟩ := h
  exact ⟨A, c, xs, h1, h2, h3, CRel.up u.z h4, h5.keep u.s u.blk⟩
 | .agg cs, x, h => by
  simp only [VRel] at h ⊢
  obtain ⟨xs, h1, h2⟩ := h
  exact ⟨xs, h1, LRel.up u h2⟩
 | .tup cs, x, h => by
  simp only [VRel] at h ⊢
  obtain ⟨xs, h1, h2⟩ := h
  exact ⟨xs, h1, LRel.up u h2⟩
 | .clo fid cs, x, h => by
  simp only [VRel] at h ⊢
  obtain ⟨xs, h1, h2⟩ := h
  exact ⟨xs, h1, LRel.up u h2⟩
 | .lk els, x, h => by
  simp only [VRel] at h ⊢
  exact KRel.up u h
theorem KRel.up {ρ ρ' : Nat → Option Value} (u : Up S S' w w' ρ ρ') : ∀ {els : List (List V)} {x : Value}, KRel S w els x → KRel S' w' els x
 | [], x, h => by simp only [KRel] at h ⊢; exact h
 | cs :: r, x, h => by
  simp only [KRel] at h ⊢
  obtain ⟨b, off, xs, y, h1, h2, h3, h4, h5, h6, h7⟩ := h
  exact ⟨b, off, xs, y, h1, u.s b h2, u.lt h2 h3, LRel.up u.z h4, KRel.up u h5, h6, fun j hj => (u.cell h2 h3).trans (h7 j hj)⟩
theorem LRel.up {ρ ρ' : Nat → Option Value} (u : Up S S' w w' ρ ρ') : ∀ {v : List V} {x : List Value}, LRel S w ρ v x → LRel S' w' ρ' v x
 | [], x, h => by simp only [LRel] at h ⊢; exact h
 | v :: r, x, h => by
  simp only [LRel] at h ⊢
  obtain ⟨y, ys, h1, h2, h3⟩ := h
  exact ⟨y, ys, h1, VRel.up u h2, LRel.up u h3⟩
theorem CRel.up {ρ ρ' : Nat → Option Value} (u : Up S S' w w' ρ ρ') {sz : Nat} : ∀ {v : List V} {x : List Value}, CRel S w ρ sz v x → CRel S' w' ρ' sz v x
 | [], x, h => by simp only [CRel] at h ⊢; exact h
 | v :: r, x, h => by
  simp only [CRel] at h ⊢
  obtain ⟨y, ys, h1, h2, h3, h4⟩ := h
  exact ⟨y, ys, h1, h2, VRel.up u h3, CRel.up u h4⟩
end
end
section
variable (S : Nat → Prop) (w : World) (ρ : Nat → Option Value)
def own (id : Nat) : Ob → Nat → Prop
 | .free, _ => False
 | .gone, _ => False
 | .var _ _, b => ρ id = some (.pointer (some ⟨b, 0, none⟩))
 | .row _ _ _, b => ∃ v, ρ id = some v ∧ v.ownBlock = some b
 | .ext bs _, b => b ∈ bs
 | .mp _ _ _ _, b => ρ id = some (.map (some b))
def cM (id : Nat) : Ob → Prop
 | .free => ρ id = none
 | .gone => True
 | .var t cs => ∃ b xs, ρ id = some (.pointer (some ⟨b, 0, none⟩)) ∧ Blk w b t xs ∧ LRel S w ρ cs xs
 | .row e sz els => ∃ v xs, ρ id = some v ∧ w.ownsRow 0 e sz v els.length xs ∧ CRel S w ρ sz els xs
 | .ext bs Φ => Φ w ∧ (∀ b, b ∈ bs → b < w.heap.size) ∧ ∀ w', (∀ b, b ∈ bs → w'.heap[b]? = w.heap[b]?) → Φ w'
 | .mp _ _ ks vs => ∃ b es clock, ρ id = some (.map (some b)) ∧ w.heap[b]? = some (.map es clock) ∧ LRel S w ρ0 ks (es.toList.map (·.key)) ∧ LRel S w ρ0 vs (es.toList.map (·.val))
structure HRel (h : Nat → Ob) : Prop where
 ob : ∀ id, cM S w ρ id (h id)
 sep : ∀ id b, own ρ id (h id) b → ¬ S b
 dis : ∀ i j b, own ρ i (h i) b → own ρ j (h j) b → i = j
 slt : ∀ b, S b → b < w.heap.size
end
section
variable {S S' : Nat → Prop} {w w' : World} {ρ ρ' : Nat → Option Value} {h h' : Nat → Ob}
theorem oM {base e sz n : Nat} {v : Value} {xs : List Value} (ho : w.ownsRow base e sz v n xs) (hk : ∀ b, v.ownBlock = some b → w'.heap[b]? = w.heap[b]?) : w'.ownsRow base e sz v n xs := by
 refine ⟨ho.1, ?_⟩
 rcases ho.2 with h0 | ⟨g, cap, cur, rfl, hb, hg, h4⟩
 ·exact .inl h0
 ·exact .inr ⟨g, cap, cur, rfl, hb, (hk g rfl).trans hg, h4⟩
theorem cd {id : Nat} {o : Ob} {b : Nat} (ho : cM S w ρ id o) (hb : own ρ id o b) : b < w.heap.size := by
 cases o with
 | free => exact hb.elim
 | gone => exact hb.elim
 | var t cs =>
  obtain ⟨b', xs, h1, h2, _⟩ := ho
  simp only [own] at hb
  rw [h1] at hb
  simp only [Option.some.injEq, Value.pointer.injEq, Addr.mk.injEq, and_true] at hb
  subst hb; exact h2.lt
 | row e sz els =>
  obtain ⟨v, xs, h1, h2, _⟩ := ho
  obtain ⟨v', h3, h4⟩ := hb
  rw [h1] at h3
  simp only [Option.some.injEq] at h3
  subst h3
  exact (h2.lt b h4).2
 | ext bs Φ => exact ho.2.1 b hb
 | mp kt et ks vs =>
  obtain ⟨b', es, ck, h1, h2, _⟩ := ho
  simp only [own] at hb
  rw [h1] at hb
  simp only [Option.some.injEq, Value.map.injEq] at hb
  subst hb
  rcases Nat.lt_or_ge b' w.heap.size with h3 | h3
  ·exact h3
  ·rw [Array.getElem?_eq_none h3] at h2; cases h2
theorem cM.up {id : Nat} {o : Ob} (u : Up S S' w w' ρ ρ') (hf : o = .free → ρ' id = none) (ho : cM S w ρ id o) (hk : ∀ b, own ρ id o b → w'.heap[b]? = w.heap[b]?) : cM S' w' ρ' id o := by
 cases o with
 | free => exact hf rfl
 | gone => trivial
 | var t cs =>
  obtain ⟨b', xs, h1, h2, h3⟩ := ho
  exact ⟨b', xs, u.r _ _ h1, (hk b' h1).trans h2, LRel.up u h3⟩
 | row e sz els =>
  obtain ⟨v, xs, h1, h2, h3⟩ := ho
  exact ⟨v, xs, u.r _ _ h1, oM h2 (fun b hb => hk b ⟨v, h1, hb⟩), CRel.up u h3⟩
 | mp kt et ks vs =>
  obtain ⟨b', es, ck, h1, h2, h3, h4⟩ := ho
  exact ⟨b', es, ck, u.r _ _ h1, (hk b' h1).trans h2, LRel.up u.z h3, LRel.up u.z h4⟩
 | ext bs Φ =>
  obtain ⟨h1, h2, h3⟩ := ho
  refine ⟨h3 _ hk, fun b hb => ?_, fun w'' h' => h3 w'' (fun b hb => (h' b hb).trans (hk b hb))⟩
  have hh := hk b hb
  rcases Nat.lt_or_ge b w'.heap.size with h4 | h4
  ·exact h4
  ·rw [Array.getElem?_eq_none h4, Array.getElem?_eq_getElem (h2 b hb)] at hh; cases hh
theorem rt {id : Nat} {o : Ob} {b : Nat} (hr : ∀ i x, ρ i = some x → ρ' i = some x) (ho : cM S w ρ id o) (hb : own ρ' id o b) : own ρ id o b := by
 cases o with
 | free => exact hb
 | gone => exact hb
 | var t cs =>
  obtain ⟨b', xs, h1, h2, h3⟩ := ho
  have := hr _ _ h1
  simp only [own] at hb ⊢
  rw [this] at hb; rw [h1]; exact hb
 | row e sz els =>
  obtain ⟨v, xs, h1, h2, h3⟩ := ho
  obtain ⟨v', h4, h5⟩ := hb
  rw [hr _ _ h1] at h4
  simp only [Option.some.injEq] at h4
  subst h4
  exact ⟨v, h1, h5⟩
 | ext bs Φ => exact hb
 | mp kt et ks vs =>
  obtain ⟨b', es, ck, h1, h2, h3⟩ := ho
  have := hr _ _ h1
  simp only [own] at hb ⊢
  rw [this] at hb; rw [h1]; exact hb
theorem LRel.length : ∀ {vs : List V} {xs : List Value}, LRel S w ρ vs xs → xs.length = vs.length
 | [], xs, h => by simp only [LRel] at h; simp [h]
 | v :: r, xs, h => by
  simp only [LRel] at h
  obtain ⟨x, ys, rfl, _, h3⟩ := h
  simp [LRel.length h3]
theorem LRel.get : ∀ {vs : List V} {xs : List Value} {i : Nat} {v : V}, LRel S w ρ vs xs → vs[i]? = some v → ∃ x, xs[i]? = some x ∧ VRel S w ρ v x
 | [], xs, i, v, h, hi => by simp at hi
 | u :: r, xs, 0, v, h, hi => by
  simp only [LRel] at h
  obtain ⟨x, ys, rfl, h2, h3⟩ := h
  simp only [List.getElem?_cons_zero, Option.some.injEq] at hi
  subst hi
  exact ⟨x, by simp, h2⟩
 | u :: r, xs, i + 1, v, h, hi => by
  simp only [LRel] at h
  obtain ⟨x, ys, rfl, h2, h3⟩ := h
  simp only [List.getElem?_cons_succ] at hi ⊢
  exact LRel.get h3 hi
theorem LRel.set : ∀ {vs : List V} {xs : List Value} {i : Nat} {v : V} {x : Value}, LRel S w ρ vs xs → VRel S w ρ v x → LRel S w ρ (vs.set i v) (xs.set i x)
 | [], xs, i, v, x, h, hx => by simp only [LRel] at h; subst h; simp [LRel]
 | u :: r, xs, 0, v, x, h, hx => by
  simp only [LRel] at h
  obtain ⟨y, ys, rfl, h2, h3⟩ := h
  exact ⟨x, ys, by simp, hx, h3⟩
 | u :: r, xs, i + 1, v, x, h, hx => by
  simp only [LRel] at h
  obtain ⟨y, ys, rfl, h2, h3⟩ := h
  exact ⟨y, ys.set i x, by simp, h2, LRel.set h3 hx⟩
theorem LRel.append : ∀ {vs us : List V} {xs ys : List Value}, LRel S w ρ vs xs → LRel S w ρ us ys → LRel S w ρ (vs ++ us) (xs ++ ys)
 | [], us, xs, ys, h, hu => by simp only [LRel] at h; subst h; simpa using hu
 | v :: r, us, xs, ys, h, hu => by
  simp only [LRel] at h
  obtain ⟨y, zs, rfl, h2, h3⟩ := h
  exact ⟨y, zs ++ ys, by simp, h2, LRel.append h3 hu⟩
theorem LRel.drop : ∀ {vs : List V} {xs : List Value} (n : Nat), LRel S w ρ vs xs → LRel S w ρ (vs.drop n) (xs.drop n)
 | vs, xs, 0, h => by simpa using h
 | [], xs, n + 1, h => by simp only [LRel] at h; subst h; simp [LRel]
 | v :: r, xs, n + 1, h => by
  simp only [LRel] at h
  obtain ⟨y, zs, rfl, h2, h3⟩ := h
  simpa using LRel.drop n h3
theorem LRel.take : ∀ {vs : List V} {xs : List Value} (n : Nat), LRel S w ρ vs xs → LRel S w ρ (vs.take n) (xs.take n)
 | vs, xs, 0, h => by simp [LRel]
 | [], xs, n + 1, h => by simp only [LRel] at h; subst h; simp [LRel]
 | v :: r, xs, n + 1, h => by
  simp only [LRel] at h
  obtain ⟨y, zs, rfl, h2, h3⟩ := h
  exact ⟨y, zs.take n, by simp, h2, LRel.take n h3⟩
theorem CRel.length {sz : Nat} : ∀ {vs : List V} {xs : List Value}, CRel S w ρ sz vs xs → xs.length = vs.length * sz
 | [], xs, h => by simp only [CRel] at h; simp [h]
 | v :: r, xs, h => by
  simp only [CRel] at h
  obtain ⟨x, ys, rfl, ⟨h2, _⟩, h3, h4⟩ := h
  have := CRel.length h4
  simp [this, h2, Nat.add_mul]; omega
theorem CRel.get {sz : Nat} : ∀ {vs : List V} {xs : List Value} {i : Nat} {v : V}, CRel S w ρ sz vs xs → vs[i]? = some v → ∃ x, VRel S w ρ v x ∧ x.cells.size = sz ∧ ∀ j, j < sz → xs[i * sz + j]? = x.cells.toList[j]?
 | [], xs, i, v, h, hi => by simp at hi
 | u :: r, xs, 0, v, h, hi => by
  simp only [CRel] at h
  obtain ⟨x, ys, rfl, ⟨h2, _⟩, h3, h4⟩ := h
  simp only [List.getElem?_cons_zero, Option.some.injEq] at hi
  subst hi
  exact ⟨x, h3, h2, fun j hj => by rw [List.getElem?_append_left (by simp; omega)]; simp⟩
 | u :: r, xs, i + 1, v, h, hi => by
  simp only [CRel] at h
  obtain ⟨x, ys, rfl, ⟨h2, _⟩, h3, h4⟩ := h
  simp only [List.getElem?_cons_succ] at hi
  obtain ⟨y, g1, g2, g3⟩ := CRel.get h4 hi
  refine ⟨y, g1, g2, fun j hj => ?_⟩
  rw [List.getElem?_append_right (by simp [h2, Nat.add_mul]; omega), ← g3 j hj]
  congr 1
  simp [h2, Nat.add_mul]; omega
theorem CRel.append {sz : Nat} : ∀ {vs us : List V} {xs ys : List Value}, CRel S w ρ sz vs xs → CRel S w ρ sz us ys → CRel S w ρ sz (vs ++ us) (xs ++ ys)
 | [], us, xs, ys, h, hu => by simp only [CRel] at h; subst h; simpa using hu
 | v :: r, us, xs, ys, h, hu => by
  simp only [CRel] at h
  obtain ⟨y, zs, rfl, h2, h3, h4⟩ := h
  exact ⟨y, zs ++ ys, by simp, h2, h3, CRel.append h4 hu⟩
theorem CRel.drop {sz : Nat} : ∀ {vs : List V} {xs : List Value} (n : Nat), CRel S w ρ sz vs xs → CRel S w ρ sz (vs.drop n) (xs.drop (n * sz))
 | vs, xs, 0, h => by simpa using h
 | [], xs, n + 1, h => by simp only [CRel] at h; subst h; simp [CRel]
 | v :: r, xs, n + 1, h => by
  simp only [CRel] at h
  obtain ⟨y, zs, rfl, ⟨h2, _⟩, h3, h4⟩ := h
  have := CRel.drop n h4
  have e : (y.cells.toList ++ zs).drop ((n + 1) * sz) = zs.drop (n * sz) := by
   rw [List.drop_append, List.drop_of_length_le (by simp [h2, Nat.add_mul])]
   simp [h2, Nat.add_mul]
  rw [e]; simpa using this
theorem CRel.take {sz : Nat} : ∀ {vs : List V} {xs : List Value} (n : Nat), CRel S w ρ sz vs xs → CRel S w ρ sz (vs.take n) (xs.take (n * sz))
 | vs, xs, 0, h => by simp [CRel]
 | [], xs, n + 1, h => by simp only [CRel] at h; subst h; simp [CRel]
 | v :: r, xs, n + 1, h => by
  simp only [CRel] at h
  obtain ⟨y, zs, rfl, ⟨h2, h1⟩, h3, h4⟩ := h
  have := CRel.take n h4
  have e : (y.cells.toList ++ zs).take ((n + 1) * sz) = y.cells.toList ++ zs.take (n * sz) := by
   rw [List.take_append, List.take_of_length_le (by simp [h2, Nat.add_mul])]
   congr 2
   simp [h2, Nat.add_mul]
  rw [e]
  exact ⟨y, _, rfl, ⟨h2, h1⟩, h3, this⟩
theorem CRel.ones {sz : Nat} : ∀ {vs : List V} {xs : List Value}, CRel S w ρ sz vs xs → ∀ u ∈ xs, u.oneCell' = true
 | [], xs, h => by simp only [CRel] at h; subst h; simp
 | v :: r, xs, h => by
  simp only [CRel] at h
  obtain ⟨x, ys, rfl, ⟨h2, h1⟩, h3, h4⟩ := h
  intro u hu
  rcases List.mem_append.1 hu with h | h
  ·exact List.all_eq_true.1 h1 u h
  ·exact CRel.ones h4 u h
def V.one : V → Bool
 | .agg _ => false
 | .tup _ => false
 | _ => true
theorem VRel.one {v : V} {x : Value} (hv : VRel S w ρ v x) (h1 : v.one = true) : x.oneCell' = true := by
 cases v with
 | int _ _ => simp only [VRel] at hv; subst hv; rfl
 | bool _ => simp only [VRel] at hv; subst hv; rfl
 | str _ => simp only [VRel] at hv; subst hv; rfl
 | nilp => simp only [VRel] at hv; subst hv; rfl
 | nils => simp only [VRel] at hv; subst hv; rfl
 | raw y => simp only [VRel] at hv; obtain ⟨rfl, h⟩ := hv; exact h
 | ptr id o => simp only [VRel] at hv; obtain ⟨b, _, rfl⟩ := hv; rfl
 | el id sz i o => simp only [VRel] at hv; obtain ⟨b, n, c, _, rfl⟩ := hv; rfl
 | sl id => simp only [VRel] at hv; exact hv.2
 | box cs o => simp only [VRel] at hv; obtain ⟨b, off, xs, rfl, _⟩ := hv; rfl
 | row sz els => simp only [VRel] at hv; obtain ⟨A, c, xs, rfl, _⟩ := hv; rfl
 | agg cs => cases h1
 | tup cs => cases h1
 | clo fid cs => simp only [VRel] at hv; obtain ⟨xs, rfl, _⟩ := hv; rfl
 | lk els =>
  simp only [VRel] at hv
  cases els with
  | nil => simp only [KRel] at hv; subst hv; rfl
  | cons c r => simp only [KRel] at hv; obtain ⟨b, off, xs, y, rfl, _⟩ := hv; rfl
theorem up0 : Up S S w w ρ0 ρ := ⟨fun _ h => h, fun _ _ _ => rfl, fun _ _ h => by cases h⟩
def V.cells : V → List V
 | .agg cs => cs
 | v => [v]
theorem VRel.cells {v : V} {x : Value} (hv : VRel S w ρ v x) : LRel S w ρ v.cells x.cells.toList := by
 have one : ∀ {u : V}, u.cells = [u] → VRel S w ρ u x → x.cells = #[x] → LRel S w ρ u.cells x.cells.toList := fun h1 h2 h3 => by rw [h1, h3]; exact ⟨x, [], rfl, h2, rfl⟩
 cases v with
 | agg cs =>
  simp only [VRel] at hv
  obtain ⟨xs, rfl, h⟩ := hv
  exact h
 | tup cs =>
  refine one rfl hv ?_
  simp only [VRel] at hv
  obtain ⟨xs, rfl, h⟩ := hv
  rfl
 | _ => exact one rfl hv (ry (hv.one rfl))
end
mutual
def V.pure : V → Bool
 | .ptr _ _ => false
 | .el _ _ _ _ => false
 | .sl _ => false
 | .agg cs => pureL cs
 | .tup cs => pureL cs
 | .clo _ cs => pureL cs
 | .int _ _ => true
 | .bool _ => true
 | .str _ => true
 | .nilp => true
 | .nils => true
 | .raw _ => true
 | .box _ _ => true
 | .row _ _ => true
 | .lk _ => true
def pureL : List V → Bool
 | [] => true
 |v :: r => match v.pure with
  | true => pureL r
  | false => false
end
section
variable {S : Nat → Prop} {w : World} {ρ ρ' : Nat → Option Value}
theorem lT {v : V} {r : List V} (h : pureL (v :: r) = true) : v.pure = true ∧ pureL r = true := by
 simp only [pureL] at h
 split at h
 ·exact ⟨‹_›, h⟩
 ·cases h
mutual
theorem VRel.pure : ∀ {v : V} {x : Value}, v.pure = true → VRel S w ρ v x → VRel S w ρ' v x
 | .int _ _, x, _, h => by simp only [VRel] at h ⊢; exact h
 | .bool _, x, _, h => by simp only [VRel] at h ⊢; exact h
 | .str _, x, _, h => by simp only [VRel] at h ⊢; exact h
 | .nilp, x, _, h => by simp only [VRel] at h ⊢; exact h
 | .nils, x, _, h => by simp only [VRel] at h ⊢; exact h
 | .raw _, x, _, h => by simp only [VRel] at h ⊢; exact h
 | .ptr id o, x, hp, h => by cases hp
 | .el id sz i o, x, hp, h => by cases hp
 | .sl id, x, hp, h => by cases hp
 | .box cs o, x, _, h => by simp only [VRel] at h ⊢; exact h
 | .row sz els, x, _, h => by simp only [VRel] at h ⊢; exact h
 | .agg cs, x, hp, h => by
  simp only [VRel] at h ⊢
  obtain ⟨xs, h1, h2⟩ := h
  exact ⟨xs, h1, LRel.pure (by simpa only [V.pure] using hp) h2⟩
 | .tup cs, x, hp, h => by
  simp only [VRel] at h ⊢
  obtain ⟨xs, h1, h2⟩ := h
  exact ⟨xs, h1, LRel.pure (by simpa only [V.pure] using hp) h2⟩
 | .lk _, x, _, h => by simp only [VRel] at h ⊢; exact h
 | .clo fid cs, x, hp, h => by
  simp only [VRel] at h ⊢
  obtain ⟨xs, h1, h2⟩ := h
  exact ⟨xs, h1, LRel.pure (by simpa only [V.pure] using hp) h2⟩
theorem LRel.pure : ∀ {v : List V} {x : List Value}, pureL v = true → LRel S w ρ v x → LRel S w ρ' v x
 | [], x, _, h => by simp only [LRel] at h ⊢; exact h
 | v :: r, x, hp, h => by
  simp only [LRel] at h ⊢
  obtain ⟨y, ys, h1, h2, h3⟩ := h
  have hp' := lT hp
  exact ⟨y, ys, h1, VRel.pure hp'.1 h2, LRel.pure hp'.2 h3⟩
end
theorem CRel.pure {sz : Nat} : ∀ {v : List V} {x : List Value}, pureL v = true → CRel S w ρ sz v x → CRel S w ρ' sz v x
 | [], x, _, h => by simp only [CRel] at h ⊢; exact h
 | v :: r, x, hp, h => by
  simp only [CRel] at h ⊢
  obtain ⟨y, ys, h1, h2, h3, h4⟩ := h
  have hp' := lT hp
  exact ⟨y, ys, h1, h2, VRel.pure hp'.1 h3, CRel.pure hp'.2 h4⟩
end
end Go.Proofs.YthnohcipianijaaGreatDoor
namespace Go.Proofs.YthnohcipianijaaGreatDoor
open Go.RowKit
theorem ng (l : List UInt8) (a b : Nat) : (ByteArray.mk l.toArray).extract a b = ⟨((l.drop a).take (b - a)).toArray⟩ := Lx.tg l a b
def Agree (S : Nat → Prop) (w w' : World) : Prop := ∀ b, S b → w'.heap[b]? = w.heap[b]?
abbrev fA (a : Act) : Nat → Option Value := fun i => a.tmps[i]?
def Opd (S : Nat → Prop) (w : World) (ρ : Nat → Option Value) (a : Act) (x : Operand) (v : V) : Prop := ∃ y, ay (fA a) x = some y ∧ VRel S w ρ v y
def Yld (P : Program) (S : Nat → Prop) (w : World) (ρ : Nat → Option Value) (a : Act) (ty : TypeId) (op : Op) (v : V) : Prop := ∃ x, VRel S w ρ v x ∧ ∀ w', Agree S w w' → Runs P a ty op w' (.value x) w'
section
variable {P : Program} {S : Nat → Prop} {w : World} {ρ : Nat → Option Value} {a : Act} {n : Nat} {ty : TypeId}
theorem vc {x : Operand} {v : V} (fr : Fr a n (fA a)) (hx : Opd S w ρ a x v) : Yld P S w ρ a ty (.move x) v := by
 obtain ⟨y, h1, h2⟩ := hx; exact ⟨y, h2, fun w' _ => ue fr h1⟩
theorem sR {x : Operand} {v : V} (fr : Fr a n (fA a)) (hx : Opd S w ρ a x v) : Yld P S w ρ a ty (.assign x) v := by
 obtain ⟨y, h1, h2⟩ := hx; exact ⟨y, h2, fun w' _ => rY fr h1⟩
theorem ur {c x y : Operand} {v : V} (fr : Fr a n (fA a)) (hc : Opd S w ρ a c (.bool true)) (hx : Opd S w ρ a x v) : Yld P S w ρ a ty (.pick c x y) v := by
 obtain ⟨b, h1, h2⟩ := hc; obtain ⟨z, h3, h4⟩ := hx
 simp only [VRel] at h2; subst h2
 exact ⟨z, h4, fun w' _ => sr fr h1 h3⟩
theorem uG {c x y : Operand} {v : V} (fr : Fr a n (fA a)) (hc : Opd S w ρ a c (.bool false)) (hx : Opd S w ρ a y v) : Yld P S w ρ a ty (.pick c x y) v := by
 obtain ⟨b, h1, h2⟩ := hc; obtain ⟨z, h3, h4⟩ := hx
 simp only [VRel] at h2; subst h2
 exact ⟨z, h4, fun w' _ => te fr h1 h3⟩
theorem wB {x : Operand} {id o : Nat} (fr : Fr a n (fA a)) (hx : Opd S w ρ a x (.ptr id o)) : Yld P S w ρ a ty (.nilCheck x) (.ptr id o) := by
 obtain ⟨y, h1, h2⟩ := hx
 refine ⟨y, h2, fun w' _ => ?_⟩
 simp only [VRel] at h2; obtain ⟨b, _, rfl⟩ := h2
 exact om fr h1
theorem vw {x : Operand} {id sz i o : Nat} (fr : Fr a n (fA a)) (hx : Opd S w ρ a x (.el id sz i o)) : Yld P S w ρ a ty (.nilCheck x) (.el id sz i o) := by
 obtain ⟨y, h1, h2⟩ := hx
 refine ⟨y, h2, fun w' _ => ?_⟩
 simp only [VRel] at h2; obtain ⟨b, _, _, _, rfl⟩ := h2
 exact om fr h1
theorem vB {x : Operand} {cs : List V} {o : Nat} (fr : Fr a n (fA a)) (hx : Opd S w ρ a x (.box cs o)) : Yld P S w ρ a ty (.nilCheck x) (.box cs o) := by
 obtain ⟨y, h1, h2⟩ := hx
 refine ⟨y, h2, fun w' _ => ?_⟩
 simp only [VRel] at h2; obtain ⟨b, off, xs, rfl, _⟩ := h2
 exact om fr h1
theorem xm {x : Operand} {i : Nat} {vs : List V} {v : V} (fr : Fr a n (fA a)) (hx : Opd S w ρ a x (.tup vs)) (hi : vs[i]? = some v) : Yld P S w ρ a ty (.extract x i) v := by
 obtain ⟨y, h1, h2⟩ := hx
 simp only [VRel] at h2; obtain ⟨xs, rfl, h3⟩ := h2
 obtain ⟨z, h4, h5⟩ := h3.get hi
 exact ⟨z, h5, fun w' _ => qY fr h1 (by simpa using h4)⟩
theorem wJ {t : TypeId} {x : Operand} {b : Bool} (fr : Fr a n (fA a)) (hx : Opd S w ρ a x (.bool b)) : Yld P S w ρ a ty (.unOp .not t x) (.bool !b) := by
 obtain ⟨y, h1, h2⟩ := hx
 simp only [VRel] at h2; subst h2
 exact ⟨_, by simp only [VRel], fun w' _ => ws fr h1 rfl⟩
theorem wZ {t : TypeId} {x : Operand} {i id o k : Nat} (fr : Fr a n (fA a)) (hx : Opd S w ρ a x (.ptr id o)) (hk : fD P t i = some k) : Yld P S w ρ a ty (.fieldAddr t x i) (.ptr id (o + k)) := by
 obtain ⟨y, h1, h2⟩ := hx
 simp only [VRel] at h2; obtain ⟨b, h3, rfl⟩ := h2
 exact ⟨_, by simp only [VRel]; exact ⟨b, h3, rfl⟩, fun w' _ => rb fr h1 hk rfl⟩
theorem xh {t : TypeId} {x : Operand} {i id sz j o k : Nat} (fr : Fr a n (fA a)) (hx : Opd S w ρ a x (.el id sz j o)) (hk : fD P t i = some k) : Yld P S w ρ a ty (.fieldAddr t x i) (.el id sz j (o + k)) := by
 obtain ⟨y, h1, h2⟩ := hx
 simp only [VRel] at h2; obtain ⟨b, m, c, h3, rfl⟩ := h2
 exact ⟨_, by simp only [VRel]; exact ⟨b, m, c, h3, rfl⟩, fun w' _ => rb fr h1 hk (Nat.add_assoc _ _ _)⟩
theorem wT {t : TypeId} {x : Operand} {i : Nat} {cs : List V} {o k : Nat} (fr : Fr a n (fA a)) (hx : Opd S w ρ a x (.box cs o)) (hk : fD P t i = some k) : Yld P S w ρ a ty (.fieldAddr t x i) (.box cs (o + k)) := by
 obtain ⟨y, h1, h2⟩ := hx
 simp only [VRel] at h2; obtain ⟨b, off, xs, rfl, h3⟩ := h2
 exact ⟨_, by simp only [VRel]; exact ⟨b, off, xs, rfl, h3⟩, fun w' _ => rb fr h1 hk (Nat.add_assoc _ _ _)⟩
theorem xz {t : TypeId} {x : Operand} {i k : Nat} {cs : List V} {v : V} (fr : Fr a n (fA a)) (hx : Opd S w ρ a x (.agg cs)) (hk : hI P t i = some k) (hv : cs[k]? = some v) : Yld P S w ρ a ty (.field t x i) v := by
 obtain ⟨y, h1, h2⟩ := hx
 simp only [VRel] at h2; obtain ⟨xs, rfl, h3⟩ := h2
 obtain ⟨z, h4, h5⟩ := h3.get hv
 exact ⟨z, h5, fun w' _ => wV fr h1 hk h4⟩
def iq (P : Program) (t : TypeId) (i : Nat) : Option (Nat × Nat) := match P.underlying t with
 |some (.struct fs) => match fs[i]? with
  |some fl => match fh P fl.type with
   | some m => some (fl.offset, m)
   | none => none
  | none => none
 | _ => none
theorem wg {t : TypeId} {f : Nat → Option Value} {x : Operand} {i k m : Nat} {cs : List Value} (h : Fr a n f) (hx : ay f x = some (.agg cs.toArray)) (ho : iq P t i = some (k, m)) : Runs P a ty (.field t x i) w (.value (.agg ((cs.drop k).take m).toArray)) w := by
 refine nJ h hx fun w => ?_
 unfold iq at ho
 split at ho
 ·rename_i fs hu
  split at ho
  ·rename_i fl hfl
   split at ho
   ·rename_i m' hs
    simp only [Option.some.injEq, Prod.mk.injEq] at ho
    obtain ⟨rfl, rfl⟩ := ho
    have hA : (isAgg fl.type).run P w = .ok true w ∧ (sizeOf fl.type).run P w = .ok m' w := by
     unfold fh at hs
     cases hu : P.underlying fl.type with
     | none => rw [hu] at hs; cases hs
     | some d =>
      rw [hu] at hs
      cases d <;> first | cases hs | (obtain ⟨i, hi, hs⟩ := Option.map_eq_some_iff.1 hs; simp [isAgg, run_underlying hu, sizeOf, typeInfo, hi, hs])
    simp [Instr.field, run_underlying hu, hfl, part, hA.1, hA.2, asAgg]
   ·cases ho
  ·cases ho
 ·cases ho
theorem wS {t : TypeId} {x : Operand} {i k m : Nat} {cs : List V} (fr : Fr a n (fA a)) (hx : Opd S w ρ a x (.agg cs)) (hk : iq P t i = some (k, m)) : Yld P S w ρ a ty (.field t x i) (.agg ((cs.drop k).take m)) := by
 obtain ⟨y, h1, h2⟩ := hx
 simp only [VRel] at h2; obtain ⟨xs, rfl, h3⟩ := h2
 exact ⟨_, by simp only [VRel]; exact ⟨_, rfl, (h3.drop k).take m⟩, fun w' _ => wg fr h1 hk⟩
section
variable {t u : TypeId} {x y : Operand} {k : IntKind} {m l : Int}
theorem aG (h : Opd S w ρ a x (.int k m)) : ay (fA a) x = some (.int k m) := by
 obtain ⟨y, h1, h2⟩ := h; simp only [VRel] at h2; subst h2; exact h1
theorem fW {b : Bool} (h : Opd S w ρ a x (.bool b)) : ay (fA a) x = some (.bool b) := by
 obtain ⟨y, h1, h2⟩ := h; simp only [VRel] at h2; subst h2; exact h1
theorem cQ {s : List UInt8} (h : Opd S w ρ a x (.str s)) : ay (fA a) x = some (.string ⟨s.toArray⟩) := by
 obtain ⟨y, h1, h2⟩ := h; simp only [VRel] at h2; subst h2; exact h1
variable (fr : Fr a n (fA a)) (hx : Opd S w ρ a x (.int k m)) (hy : Opd S w ρ a y (.int k l))
include fr hx hy
theorem wL : Yld P S w ρ a ty (.binOp .eql t x y u) (.bool (m == l)) := ⟨_, by simp only [VRel], fun w' _ => vg fr (aG hx) (aG hy) rfl⟩
theorem xq : Yld P S w ρ a ty (.binOp .neq t x y u) (.bool (m != l)) := ⟨_, by simp only [VRel], fun w' _ => wq fr (aG hx) (aG hy) rfl⟩
theorem xc : Yld P S w ρ a ty (.binOp .lss t x y u) (.bool (decide (m < l))) := ⟨_, by simp only [VRel], fun w' _ => wt fr (aG hx) (aG hy) rfl⟩
theorem wM : Yld P S w ρ a ty (.binOp .leq t x y u) (.bool (decide (m ≤ l))) := ⟨_, by simp only [VRel], fun w' _ => wk fr (aG hx) (aG hy) rfl⟩
theorem wW : Yld P S w ρ a ty (.binOp .gtr t x y u) (.bool (decide (l < m))) := ⟨_, by simp only [VRel], fun w' _ => vm fr (aG hx) (aG hy) rfl⟩
theorem xd : Yld P S w ρ a ty (.binOp .geq t x y u) (.bool (decide (l ≤ m))) := ⟨_, by simp only [VRel], fun w' _ => vr fr (aG hx) (aG hy) rfl⟩
end
section
variable {t u : TypeId} {x y : Operand} {m l : Int} (fr : Fr a n (fA a)) (hx : Opd S w ρ a x (.int .i64 m)) (hy : Opd S w ρ a y (.int .i64 l))
include fr hx hy
theorem ve : Yld P S w ρ a ty (.call { callee := .builtin .max, args := #[x, y], argTypes := #[t, u] }) (.int .i64 (max m l)) := ⟨_, by simp only [VRel], fun w' _ => un fr (aG hx) (aG hy)⟩
end
theorem wG {t u : TypeId} {x y : Operand} {m l : Bool} (fr : Fr a n (fA a)) (ht : P.underlying t = some .bool) (hx : Opd S w ρ a x (.bool m)) (hy : Opd S w ρ a y (.bool l)) : Yld P S w ρ a ty (.binOp .eql t x y u) (.bool (m == l)) :=
 ⟨_, by simp only [VRel], fun w' _ => wy ht fr (fW hx) (fW hy) rfl⟩
theorem vX {f : Nat → Option Value} {t u : TypeId} {x y : Operand} {m l c : Bool} (ht : P.underlying t = some .bool) (h : Fr a n f) (hx : ay f x = some (.bool m)) (hy : ay f y = some (.bool l)) (hc : (m != l) = c) : Runs P a ty (.binOp .neq t x y u) w (.value (.bool c)) w := fun _ _ _ _ => by subst hc; simp only [execOp, h.eval hx, h.eval hy]; simp [go_sem, eqGuard, ht, bne]
theorem wN {t u : TypeId} {x y : Operand} {m l : Bool} (fr : Fr a n (fA a)) (ht : P.underlying t = some .bool) (hx : Opd S w ρ a x (.bool m)) (hy : Opd S w ρ a y (.bool l)) : Yld P S w ρ a ty (.binOp .neq t x y u) (.bool (m != l)) :=
 ⟨_, by simp only [VRel], fun w' _ => vX ht fr (fW hx) (fW hy) rfl⟩
section
variable {t u : TypeId} {x y : Operand} {m l : List UInt8} (fr : Fr a n (fA a)) (hx : Opd S w ρ a x (.str m)) (hy : Opd S w ρ a y (.str l))
include fr hx hy
theorem xp : Yld P S w ρ a ty (.binOp .eql t x y u) (.bool (m == l)) := ⟨_, by simp only [VRel], fun w' _ => vn fr (cQ hx) (cQ hy) rfl⟩
theorem xn : Yld P S w ρ a ty (.binOp .neq t x y u) (.bool (m != l)) := ⟨_, by simp only [VRel], fun w' _ => ww fr (cQ hx) (cQ hy) rfl⟩
end
theorem sf {t : TypeId} {x : Operand} {m : List UInt8} (fr : Fr a n (fA a)) (ht : P.underlying t = some .string) (hx : Opd S w ρ a x (.str m)) : Yld P S w ρ a ty (.call { callee := .builtin .len, args := #[x], argTypes := #[t] }) (.int .i64 m.length) :=
 ⟨_, by simp only [VRel], fun w' _ => uH fr ht (cQ hx)⟩
theorem vx {t e : TypeId} {x : Operand} (fr : Fr a n (fA a)) (ht : P.underlying t = some (.slice e)) (hx : Opd S w ρ a x .nils) : Yld P S w ρ a ty (.call { callee := .builtin .len, args := #[x], argTypes := #[t] }) (.int .i64 0) := by
 obtain ⟨y, h1, h2⟩ := hx
 simp only [VRel] at h2; subst h2
 exact ⟨.int .i64 (0 : Nat), by simp only [VRel]; rfl, fun w' _ => oA fr ht h1⟩
theorem rB {t e : TypeId} {x : Operand} {sz : Nat} {els : List V} (fr : Fr a n (fA a)) (ht : P.underlying t = some (.slice e)) (hx : Opd S w ρ a x (.row sz els)) : Yld P S w ρ a ty (.call { callee := .builtin .len, args := #[x], argTypes := #[t] }) (.int .i64 els.length) := by
 obtain ⟨y, h1, h2⟩ := hx
 simp only [VRel] at h2; obtain ⟨A, c, xs, rfl, _⟩ := h2
 exact ⟨_, by simp only [VRel], fun w' _ => oA fr ht h1⟩
theorem ca {base e sz k : Nat} {v : Value} {xs : List Value} (h : w.ownsRow base e sz v k xs) : ∃ A c, v = .slice A k c ∧ k ≤ c ∧ c ≤ maxLen := by
 rcases h.2 with ⟨rfl, rfl⟩ | ⟨g, cap, cur, rfl, _, _, h4, h5, _⟩
 ·exact ⟨none, 0, rfl, Nat.le_refl _, by decide⟩
 ·exact ⟨_, cap, rfl, h4, h5⟩
theorem rD {h : Nat → Ob} {t e e' : TypeId} {x : Operand} {id sz : Nat} {els : List V} (hr : HRel S w ρ h) (ho : h id = .row e' sz els) (fr : Fr a n (fA a)) (ht : P.underlying t = some (.slice e)) (hx : Opd S w ρ a x (.sl id)) : Yld P S w ρ a ty (.call { callee := .builtin .len, args := #[x], argTypes := #[t] }) (.int .i64 els.length) := by
 obtain ⟨y, h1, h2⟩ := hx
 simp only [VRel] at h2
 have h3 := hr.ob id
 rw [ho] at h3
 obtain ⟨v, xs, h4, h5, h6⟩ := h3
 rw [h2.1] at h4
 cases h4
 obtain ⟨A, c, rfl, _⟩ := ca h5
 exact ⟨_, by simp only [VRel], fun w' _ => oA fr ht h1⟩
theorem p_idxR {t e : TypeId} {x y : Operand} {sz i : Nat} {els : List V} {v : V} (fr : Fr a n (fA a)) (ht : P.underlying t = some (.slice e)) (hz : cf P e = some sz) (hx : Opd S w ρ a x (.row sz els)) (hy : Opd S w ρ a y (.int .i64 (i : Int))) (hi : els[i]? = some v) :
  Yld P S w ρ a ty (.indexAddr t x y) (.box v.cells 0) := by
 obtain ⟨y', h1, h2⟩ := hx
 simp only [VRel] at h2; obtain ⟨A, c, xs, rfl, h3, h4, h5, h6⟩ := h2
 have hlt : i < els.length := by
  rcases Nat.lt_or_ge i els.length with h | h
  ·exact h
  ·rw [List.getElem?_eq_none h] at hi; cases hi
 obtain ⟨b, off, rfl, hS, hb, hc⟩ := h6.2 (by omega)
 obtain ⟨z, g1, g2, g3⟩ := h5.get hi
 have hcell : ∀ j, j < sz → w.cell? ⟨b, off + i * sz + j, none⟩ = z.cells.toList[j]? := fun j hj => by
  rw [← g3 j hj, Nat.add_assoc]
  refine hc _ ?_
  have : (i + 1) * sz ≤ els.length * sz := Nat.mul_le_mul_right _ hlt
  rw [Nat.add_mul, Nat.one_mul] at this
  omega
 refine ⟨_, ?_, fun w' _ => nQ fr ht hz h1 (aG hy) rfl hlt rfl⟩
 simp only [VRel]
 refine ⟨b, off + i * sz, _, by simp, hS, hb, g1.cells, fun j hj => ?_⟩
 exact hcell j (by simp at hj; omega)
theorem p_idxO {h : Nat → Ob} {t e e' : TypeId} {x y : Operand} {id sz i : Nat} {els : List V} (hr : HRel S w ρ h) (ho : h id = .row e' sz els) (fr : Fr a n (fA a)) (ht : P.underlying t = some (.slice e)) (hz : cf P e = some sz) (hx : Opd S w ρ a x (.sl id)) (hy : Opd S w ρ a y (.int .i64 (i : Int))) (hi : i < els.length) :
  Yld P S w ρ a ty (.indexAddr t x y) (.el id sz i 0) := by
 obtain ⟨y', h1, h2⟩ := hx
 simp only [VRel] at h2
 have h3 := hr.ob id
 rw [ho] at h3
 obtain ⟨v, xs, h4, h5, h6⟩ := h3
 rw [h2.1] at h4
 cases h4
 obtain ⟨g, cap, rfl, _⟩ := h5.form (by omega)
 exact ⟨_, by simp only [VRel]; exact ⟨g, _, _, h2.1, rfl⟩, fun w' _ => nQ fr ht hz h1 (aG hy) rfl hi (by simp)⟩
theorem uc {f : Nat → Option Value} {t : TypeId} {x y : Operand} {l : List UInt8} {i : Nat} {c : UInt8} (h : Fr a n f) (ht : P.underlying t = some .string) (hx : ay f x = some (.string ⟨l.toArray⟩)) (hy : ay f y = some (.int .i64 (i : Int))) (hi : l[i]? = some c) : Runs P a ty (.index t x y) w (.value (.int .u8 c.toNat)) w := fun _ _ _ _ => by
 simp only [execOp, h.eval hx, h.eval hy]
 have hb : (ByteArray.mk l.toArray)[i]? = some c := by
  obtain ⟨hlt, hc⟩ := List.getElem?_eq_some_iff.1 hi
  have : i < (ByteArray.mk l.toArray).size := by simpa [ByteArray.size] using hlt
  rw [getElem?_pos (ByteArray.mk l.toArray) i this]
  simpa [ByteArray.getElem_eq_getElem_data] using hc
 simp [Instr.index, asIntOf, run_underlying ht, hb]
theorem vL {t : TypeId} {x y : Operand} {l : List UInt8} {i : Nat} {c : UInt8} (fr : Fr a n (fA a)) (ht : P.underlying t = some .string) (hx : Opd S w ρ a x (.str l)) (hy : Opd S w ρ a y (.int .i64 (i : Int))) (hi : l[i]? = some c) : Yld P S w ρ a ty (.index t x y) (.int .u8 c.toNat) :=
 ⟨_, by simp only [VRel], fun w' _ => uc fr ht (cQ hx) (aG hy) hi⟩
theorem wm {f : Nat → Option Value} {t : TypeId} {x : Operand} {lo hi : Option Operand} {l : List UInt8} {i j : Nat} (h : Fr a n f) (ht : P.underlying t = some .string) (hx : ay f x = some (.string ⟨l.toArray⟩))
  (hlo : (lo = none ∧ i = 0) ∨ ∃ y, lo = some y ∧ ay f y = some (.int .i64 (i : Int))) (hhi : (hi = none ∧ j = l.length) ∨ ∃ y, hi = some y ∧ ay f y = some (.int .i64 (j : Int))) (hij : i ≤ j) (hj : j ≤ l.length) :
  Runs P a ty (.slice t x lo hi none) w (.value (.string ⟨((l.drop i).take (j - i)).toArray⟩)) w := fun _ _ _ _ => by
 have hs : (ByteArray.mk l.toArray).size = l.length := by simp [ByteArray.size]
 rw [← ng]
 rcases hlo with ⟨rfl, rfl⟩ | ⟨y, rfl, hy⟩ <;> rcases hhi with ⟨rfl, rfl⟩ | ⟨z, rfl, hz⟩
 ·simp only [execOp, h.eval hx, Option.map_none]
  simp [Instr.sliceAt, Instr.slice, run_underlying ht, Instr.sliceBounds, hs]
  rw [ng]; simp
 ·simp only [execOp, h.eval hx, h.eval hz, Option.map_none, Option.map_some]
  simp [Instr.sliceAt, Instr.slice, run_underlying ht, Instr.sliceBounds, hs, run_sliceBound _ .i64 (j : Int) l.length _ (by omega) (by omega)]
 ·simp only [execOp, h.eval hx, h.eval hy, Option.map_none, Option.map_some]
  simp [Instr.sliceAt, Instr.slice, run_underlying ht, Instr.sliceBounds, hs, run_sliceBound _ .i64 (i : Int) l.length _ (by omega) (by omega)]
 ·simp only [execOp, h.eval hx, h.eval hy, h.eval hz, Option.map_some]
  simp [Instr.sliceAt, Instr.slice, run_underlying ht, Instr.sliceBounds, hs, run_sliceBound _ .i64 (j : Int) l.length _ (by omega) (by omega), run_sliceBound _ .i64 (i : Int) j _ (by omega) (by omega)]
theorem tU {t : TypeId} {x : Operand} {lo hi : Option Operand} {l : List UInt8} {i j : Nat} (fr : Fr a n (fA a)) (ht : P.underlying t = some .string) (hx : Opd S w ρ a x (.str l))
  (hlo : (lo = none ∧ i = 0) ∨ ∃ y, lo = some y ∧ Opd S w ρ a y (.int .i64 (i : Int))) (hhi : (hi = none ∧ j = l.length) ∨ ∃ y, hi = some y ∧ Opd S w ρ a y (.int .i64 (j : Int))) (hij : i ≤ j) (hj : j ≤ l.length) :
  Yld P S w ρ a ty (.slice t x lo hi none) (.str ((l.drop i).take (j - i))) :=
 ⟨_, by simp only [VRel], fun w' _ => wm fr ht (cQ hx) (hlo.imp id fun ⟨y, e, h⟩ => ⟨y, e, aG h⟩) (hhi.imp id fun ⟨y, e, h⟩ => ⟨y, e, aG h⟩) hij hj⟩
theorem rr {f : Nat → Option Value} {t e : TypeId} {x : Operand} {lo hi : Option Operand} {A : Option Addr} {m c sz i j : Nat} (h : Fr a n f) (ht : P.underlying t = some (.slice e)) (hz : cf P e = some sz) (hx : ay f x = some (.slice A m c))
  (hlo : (lo = none ∧ i = 0) ∨ ∃ y, lo = some y ∧ ay f y = some (.int .i64 (i : Int))) (hhi : (hi = none ∧ j = m) ∨ ∃ y, hi = some y ∧ ay f y = some (.int .i64 (j : Int))) (hij : i ≤ j) (hj : j ≤ m) (hm : m ≤ c) :
  Runs P a ty (.slice t x lo hi none) w (.value (.slice (if c = i then A else A.map (·.add (i * sz))) (j - i) (c - i))) w := fun _ _ _ _ => by
 obtain ⟨inf, hi1, hs⟩ := Option.map_eq_some_iff.1 (show (P.info? e).map (·.size) = some sz from hz)
 have hso : (sizeOf e).run P w = .ok sz w := by simp [sizeOf, typeInfo, hi1, hs]
 rcases hlo with ⟨rfl, rfl⟩ | ⟨y, rfl, hy⟩ <;> rcases hhi with ⟨rfl, rfl⟩ | ⟨z, rfl, hz'⟩
 ·simp only [execOp, h.eval hx, Option.map_none]
  simp [Instr.sliceAt, Instr.slice, run_underlying ht, Instr.sliceBounds, hso]
 ·simp only [execOp, h.eval hx, h.eval hz', Option.map_none, Option.map_some]
  simp [Instr.sliceAt, Instr.slice, run_underlying ht, Instr.sliceBounds, hso, run_sliceBound _ .i64 (j : Int) c _ (by omega) (by omega)]
 ·simp only [execOp, h.eval hx, h.eval hy, Option.map_none, Option.map_some]
  simp [Instr.sliceAt, Instr.slice, run_underlying ht, Instr.sliceBounds, hso, run_sliceBound _ .i64 (i : Int) j _ (by omega) (by omega)]
 ·simp only [execOp, h.eval hx, h.eval hy, h.eval hz', Option.map_some]
  simp [Instr.sliceAt, Instr.slice, run_underlying ht, Instr.sliceBounds, hso, run_sliceBound _ .i64 (j : Int) c _ (by omega) (by omega), run_sliceBound _ .i64 (i : Int) j _ (by omega) (by omega)]
theorem rF {sz m c i j : Nat} {A : Option Addr} {xs : List Value} (hr : RowIn S w sz A m xs) (hij : i ≤ j) (hj : j ≤ m) (hm : m ≤ c) : RowIn S w sz (if c = i then A else A.map (·.add (i * sz))) (j - i) ((xs.drop (i * sz)).take ((j - i) * sz)) := by
 have h1 : (j - i) * sz + i * sz = j * sz := by rw [← Nat.add_mul]; congr 1; omega
 have h2 : j * sz ≤ m * sz := Nat.mul_le_mul_right _ hj
 refine ⟨by simp [hr.1]; omega, fun hn => ?_⟩
 obtain ⟨b, off, rfl, hS, hb, hc⟩ := hr.2 (by omega)
 rw [if_neg (by omega)]
 refine ⟨b, off + i * sz, by simp [gc], hS, hb, fun k hk => ?_⟩
 rw [Nat.add_assoc, hc _ (by omega), List.getElem?_take, if_pos hk, List.getElem?_drop]
theorem tO {t e : TypeId} {x : Operand} {lo hi : Option Operand} {sz i j : Nat} {els : List V} (fr : Fr a n (fA a)) (ht : P.underlying t = some (.slice e)) (hz : cf P e = some sz) (hx : Opd S w ρ a x (.row sz els))
  (hlo : (lo = none ∧ i = 0) ∨ ∃ y, lo = some y ∧ Opd S w ρ a y (.int .i64 (i : Int))) (hhi : (hi = none ∧ j = els.length) ∨ ∃ y, hi = some y ∧ Opd S w ρ a y (.int .i64 (j : Int))) (hij : i ≤ j) (hj : j ≤ els.length) :
  Yld P S w ρ a ty (.slice t x lo hi none) (.row sz ((els.drop i).take (j - i))) := by
 obtain ⟨y, h1, h2⟩ := hx
 simp only [VRel] at h2; obtain ⟨A, c, xs, rfl, h3, h4, h5, h6⟩ := h2
 refine ⟨_, ?_, fun w' _ => rr fr ht hz h1 (hlo.imp id fun ⟨y, e, h⟩ => ⟨y, e, aG h⟩) (hhi.imp id fun ⟨y, e, h⟩ => ⟨y, e, aG h⟩) hij hj h3⟩
 simp only [VRel]
 have e : ((els.drop i).take (j - i)).length = j - i := by simp; omega
 rw [e]
 exact ⟨_, _, _, rfl, by omega, by omega, (h5.drop i).take (j - i), rF h6 hij hj h3⟩
theorem uX {t : TypeId} {x : Operand} {cs : List V} {o : Nat} {v : V} (fr : Fr a n (fA a)) (ht : bH P t = true) (hx : Opd S w ρ a x (.box cs o)) (hv : cs[o]? = some v) : Yld P S w ρ a ty (.load t x) v := by
 obtain ⟨y, h1, h2⟩ := hx
 simp only [VRel] at h2; obtain ⟨b, off, xs, rfl, hS, hb, h3, h4⟩ := h2
 obtain ⟨z, h5, h6⟩ := h3.get hv
 have hlt : o < xs.length := by
  rcases Nat.lt_or_ge o xs.length with h | h
  ·exact h
  ·rw [List.getElem?_eq_none h] at h5; cases h5
 exact ⟨z, h6.up up0, fun w' hA => mO fr h1 ht ((World.cell?_of_block (a := ⟨b, off + o, none⟩) (hA b hS)).trans ((h4 o hlt).trans h5))⟩
theorem tp {t : TypeId} {x : Operand} {cs : List V} {o m : Nat} (fr : Fr a n (fA a)) (ht : fh P t = some m) (hx : Opd S w ρ a x (.box cs o)) (hl : o + m ≤ cs.length) : Yld P S w ρ a ty (.load t x) (.agg ((cs.drop o).take m)) := by
 obtain ⟨y, h1, h2⟩ := hx
 simp only [VRel] at h2; obtain ⟨b, off, xs, rfl, hS, hb, h3, h4⟩ := h2
 have hlen := h3.length
 refine ⟨.agg ((xs.drop o).take m).toArray, by simp only [VRel]; exact ⟨_, rfl, ((h3.drop o).take m).up up0⟩, fun w' hA => ly fr h1 ht (by simp; omega) fun j hj => ?_⟩
 rw [World.cell?_of_block (a := ⟨b, off + o + j, none⟩) (hA b hS), Nat.add_assoc, h4 _ (by omega), List.getElem?_take, if_pos hj, List.getElem?_drop]
def iv (cs : List V) (o : Nat) (ps : List V) : List V := cs.take o ++ ps ++ cs.drop (o + ps.length)
def iy (place : Nat → Option (Nat × Nat)) : List V → List (Nat × V) → Option (List V)
 | cs, [] => some cs
 |cs, (i, v) :: r => match place i with
  |some (o, sz) => match Nat.beq v.cells.length sz && Nat.ble (o + sz) cs.length with
   | true => iy place (iv cs o v.cells) r
   | false => none
  | none => none
def PRel (S : Nat → Prop) (w : World) (ρ : Nat → Option Value) : List (Nat × V) → List (Nat × Value) → Prop
 | [], ys => ys = []
 | (i, v) :: r, ys => ∃ x zs, ys = (i, x) :: zs ∧ VRel S w ρ v x ∧ PRel S w ρ r zs
theorem mz {place pl : Nat → Option (Nat × Nat)} (hpl : ∀ i p, place i = some p → pl i = some p) : ∀ {vs : List (Nat × V)} {ys : List (Nat × Value)} {cs cs' : List V} {xs : List Value}, PRel S w ρ vs ys → LRel S w ρ cs xs → iy place cs vs = some cs' → ∃ xs', Instr.fill pl xs.toArray ys = some xs'.toArray ∧ LRel S w ρ cs' xs'
 | [], ys, cs, cs', xs, hp, hl, hf => by
  simp only [PRel] at hp; subst hp
  simp only [iy, Option.some.injEq] at hf; subst hf
  exact ⟨xs, rfl, hl⟩
 | (i, v) :: r, ys, cs, cs', xs, hp, hl, hf => by
  simp only [PRel] at hp
  obtain ⟨x, zs, rfl, hx, hr⟩ := hp
  simp only [iy] at hf
  split at hf
  ·rename_i o sz hpi
   split at hf
   ·rename_i hc
    simp only [Bool.and_eq_true, Nat.beq_eq, Nat.ble_eq] at hc
    have hcl := hx.cells.length
    simp only [Array.length_toList] at hcl
    have hlen := hl.length
    have hl' : LRel S w ρ (iv cs o v.cells) (xs.take o ++ x.cells.toList ++ xs.drop (o + x.cells.size)) := by
     unfold iv
     rw [hcl]
     exact ((hl.take o).append hx.cells).append (hl.drop _)
    obtain ⟨xs', h1, h2⟩ := mz hpl hr hl' hf
    refine ⟨xs', ?_, h2⟩
    simp only [Instr.fill, hpl i _ hpi]
    rw [if_neg (by simp; omega), ← h1]
    congr 1
    have hfs := ko o x.cells.toList 0 xs (by simp; omega)
    simp only [Nat.add_zero, Array.length_toList] at hfs
    rw [← hfs, ← Array.foldl_toList, Array.toList_zipIdx]
   ·cases hf
  ·cases hf
def kB (P : Program) (t : TypeId) : Option (List (Nat × Nat)) := match P.underlying t with
 | some (.struct fs) => fs.toList.mapM fun fl => (cf P fl.type).map fun s => (fl.offset, s)
 | _ => none
theorem lW : ∀ {fs : List Field} {ps : List (Nat × Nat)}, (fs.mapM fun fl => (cf P fl.type).map fun s => (fl.offset, s)) = some ps → (fs.mapM (m := Sem) fun fl => do pure (fl.offset, ← sizeOf fl.type)).run P w = .ok ps w
 | [], ps, h => by simp at h; subst h; simp
 | fl :: r, ps, h => by
  simp only [List.mapM_cons] at h
  obtain ⟨p, h1, h⟩ := Option.bind_eq_some_iff.1 h
  obtain ⟨qs, h2, h⟩ := Option.bind_eq_some_iff.1 h
  simp only [Option.pure_def, Option.some.injEq] at h
  subst h
  obtain ⟨s, h3, h4⟩ := Option.map_eq_some_iff.1 h1
  obtain ⟨inf, h5, h6⟩ := Option.map_eq_some_iff.1 (show (P.info? fl.type).map (·.size) = some s from h3)
  have ih := lW h2
  have h7 : (sizeOf fl.type).run P w = .ok s w := by simp [sizeOf, typeInfo, h5, h6]
  subst h4
  simp only [List.mapM_cons]
  simp [h7]
  simp at ih
  simp [ih]
theorem uf {t : TypeId} {ps : List (Nat × Operand)} {vs : List (Nat × V)} {ys : List (Nat × Value)} {pl : List (Nat × Nat)} {z : List Value} {zv cs : List V} {place : Nat → Option (Nat × Nat)} (fr : Fr a n (fA a)) (hps : bV (fA a) ps = some ys) (hpr : PRel S w ρ vs ys) (hz : fo P t = some z) (hzv : LRel S w ρ zv z)
  (hpl : kB P t = some pl) (hplace : ∀ i p, place i = some p → pl[i]? = some p) (hf : iy place zv vs = some cs) : Yld P S w ρ a ty (.build t ps.toArray) (.agg cs) := by
 obtain ⟨xs, h1, h2⟩ := mz (pl := fun i => pl.toArray[i]?) (fun i p h => by simpa using hplace i p h) hpr hzv hf
 refine ⟨.agg xs.toArray, by simp only [VRel]; exact ⟨xs, rfl, h2⟩, fun w' _ => nR fr hps fun w => ?_⟩
 unfold fo at hz
 obtain ⟨z0, hz1, hz2⟩ := Option.map_eq_some_iff.1 hz
 obtain ⟨inf, hi, hiz⟩ := Option.bind_eq_some_iff.1 hz1
 have ez : z0.cells = z.toArray := by rw [← hz2]
 unfold kB at hpl
 cases hu : P.underlying t with
 | none => rw [hu] at hpl; cases hpl
 | some d =>
  rw [hu] at hpl
  cases d with
  | struct fs =>
   have hm := lW (w := w) hpl
   have hm' : (fs.mapM (m := Sem) fun fl => do pure (fl.offset, ← sizeOf fl.type)).run P w = .ok pl.toArray w := by
    have e : fs.mapM (m := Sem) (fun fl => do pure (fl.offset, ← sizeOf fl.type)) = List.toArray <$> fs.toList.mapM (m := Sem) (fun fl => do pure (fl.offset, ← sizeOf fl.type)) := by
     rw [← List.mapM_toArray]
    rw [e]; simp at hm; simp [hm]
   simp only [Instr.build]
   simp at hm'
   simp [zeroValue, typeInfo, hi, hiz, run_underlying hu, hm', ez]
   simp at h1
   rw [h1]; simp
  | _ => cases hpl
theorem tn {t : TypeId} {ps : List (Nat × Operand)} {vs : List (Nat × V)} {ys : List (Nat × Value)} {sz len : Nat} {e : TypeId} {z : List Value} {zv cs : List V} (fr : Fr a n (fA a)) (hps : bV (fA a) ps = some ys) (hpr : PRel S w ρ vs ys) (hz : fo P t = some z) (hzv : LRel S w ρ zv z)
  (ht : P.underlying t = some (.array len e)) (he : cf P e = some sz) (hf : iy (fun i => some (i * sz, sz)) zv vs = some cs) : Yld P S w ρ a ty (.build t ps.toArray) (.agg cs) := by
 obtain ⟨xs, h1, h2⟩ := mz (pl := fun i => some (i * sz, sz)) (fun i p h => h) hpr hzv hf
 refine ⟨.agg xs.toArray, by simp only [VRel]; exact ⟨xs, rfl, h2⟩, fun w' _ => nR fr hps fun w => ?_⟩
 unfold fo at hz
 obtain ⟨z0, hz1, hz2⟩ := Option.map_eq_some_iff.1 hz
 obtain ⟨inf, hi, hiz⟩ := Option.bind_eq_some_iff.1 hz1
 have ez : z0.cells = z.toArray := by rw [← hz2]
 obtain ⟨inf', h5, h6⟩ := Option.map_eq_some_iff.1 (show (P.info? e).map (·.size) = some sz from he)
 have h7 : (sizeOf e).run P w = .ok sz w := by simp [sizeOf, typeInfo, h5, h6]
 simp only [Instr.build]
 simp [zeroValue, typeInfo, hi, hiz, run_underlying ht, h7, ez]
 rw [h1]; simp
end
end Go.Proofs.YthnohcipianijaaGreatDoor
namespace Go.Proofs.YthnohcipianijaaGreatDoor
open Go.RowKit
structure ChgP (X : Nat → Prop) (w w' : World) : Prop where
 os : w'.os = w.os
 tape : w'.tape = w.tape
 output : w'.output = w.output
 size : w.heap.size ≤ w'.heap.size
 block : ∀ k, k < w.heap.size → ¬ X k → w'.heap[k]? = w.heap[k]?
theorem ChgP.refl (X : Nat → Prop) (w : World) : ChgP X w w := ⟨rfl, rfl, rfl, Nat.le_refl _, fun _ _ _ => rfl⟩
theorem ChgP.trans {X Y : Nat → Prop} {w w1 w2 : World} (h : ChgP X w w1) (k : ChgP Y w1 w2) (hY : ∀ b, Y b → X b ∨ w.heap.size ≤ b) : ChgP X w w2 :=
 ⟨k.os.trans h.os, k.tape.trans h.tape, k.output.trans h.output, Nat.le_trans h.size k.size, fun b hb hX => by
  rw [k.block b (Nat.lt_of_lt_of_le hb h.size) (fun hc => by rcases hY b hc with h1 | h1; exact hX h1; omega), h.block b hb hX]⟩
theorem ChgP.mono {X Y : Nat → Prop} {w w1 : World} (h : ChgP X w w1) (hY : ∀ b, X b → Y b) : ChgP Y w w1 := ⟨h.os, h.tape, h.output, h.size, fun b hb hX => h.block b hb (fun hc => hX (hY b hc))⟩
theorem ChgP.of {X : List Nat} {w w1 : World} (h : Chg X w w1) : ChgP (· ∈ X) w w1 := ⟨h.os, h.tape, h.output, h.size, h.block⟩
theorem ChgP.of0 {X : Nat → Prop} {w w1 : World} (h : Chg [] w w1) : ChgP X w w1 := (ChgP.of h).mono (fun b hb => by simp at hb)
def be (h : Nat → Ob) (id : Nat) (o : Ob) : Nat → Ob := fun i => match Nat.beq i id with | true => o | false => h i
def bP (ρ : Nat → Option Value) (id : Nat) (x : Value) : Nat → Option Value := fun i => match Nat.beq i id with | true => some x | false => ρ i
theorem aK (h : Nat → Ob) (id : Nat) (o : Ob) : be h id o id = o := by simp [be]
theorem aV (h : Nat → Ob) {id i : Nat} (o : Ob) (hi : i ≠ id) : be h id o i = h i := by
 unfold be; split
 ·rename_i hb; exact absurd (Nat.eq_of_beq_eq_true hb) hi
 ·rfl
theorem aD (ρ : Nat → Option Value) (id : Nat) (x : Value) : bP ρ id x id = some x := by simp [bP]
theorem fN (ρ : Nat → Option Value) {id i : Nat} (x : Value) (hi : i ≠ id) : bP ρ id x i = ρ i := by
 unfold bP; split
 ·rename_i hb; exact absurd (Nat.eq_of_beq_eq_true hb) hi
 ·rfl
structure Eff (S : Nat → Prop) (w w' : World) (ρ ρ' : Nat → Option Value) (h h' : Nat → Ob) (X : Nat → Prop) : Prop where
 hr : HRel S w' ρ' h'
 up : Up S S w w' ρ ρ'
 chg : ChgP (fun b => ∃ id, X id ∧ own ρ id (h id) b) w w'
 new : ∀ id b, own ρ' id (h' id) b → (∃ j, own ρ j (h j) b) ∨ w.heap.size ≤ b
def Does (P : Program) (S : Nat → Prop) (w : World) (ρ : Nat → Option Value) (h : Nat → Ob) (a : Act) (ty : TypeId) (op : Op) (v : Option V) (h' : Nat → Ob) (X : Nat → Prop) : Prop :=
  ∃ nx w' ρ', Runs P a ty op w nx w' ∧ Eff S w w' ρ ρ' h h' X ∧ match v with
    | some v => ∃ x, nx = .value x ∧ VRel S w' ρ' v x
    | none => nx = .skip
section
variable {P : Program} {S : Nat → Prop} {w w' : World} {ρ ρ' : Nat → Option Value} {h h' : Nat → Ob} {a : Act} {n : Nat} {ty : TypeId}
theorem Eff.refl {X : Nat → Prop} (hr : HRel S w ρ h) : Eff S w w ρ ρ h h X := ⟨hr, Up.refl, ChgP.refl _ _, fun id b hb => .inl ⟨id, hb⟩⟩
theorem nN {X Y : Nat → Prop} (k src : Nat) (hr : HRel S w ρ h) (hc : ChgP X w w') (hρ : ∀ i x, ρ i = some x → ρ' i = some x) (hX : ∀ b, X b → ∃ id, Y id ∧ own ρ id (h id) b)
  (hk : cM S w' ρ' k (h' k)) (hkb : ∀ b, own ρ' k (h' k) b → w.heap.size ≤ b ∨ own ρ src (h src) b) (hsrc : src ≠ k → h' src = .gone)
  (hi : ∀ i, i ≠ k → h' i = .gone ∨ (h' i = h i ∧ (h i = .free → ρ' i = none) ∧ ∀ b, own ρ i (h i) b → ¬ X b)) : Eff S w w' ρ ρ' h h' Y := by
 have hnS : ∀ b, S b → ¬ X b := fun b hb hx => by obtain ⟨id, _, ho⟩ := hX b hx; exact hr.sep id b ho hb
 have up : Up S S w w' ρ ρ' := ⟨fun _ h => h, fun b hb hlt => hc.block b hlt (hnS b hb), hρ⟩
 have back : ∀ i b, i ≠ k → own ρ' i (h' i) b → own ρ i (h i) b := fun i b hik hb => by
  rcases hi i hik with e | ⟨e, _, _⟩
  ·rw [e] at hb; exact hb.elim
  ·rw [e] at hb; exact rt hρ (hr.ob i) hb
 refine ⟨⟨fun i => ?_, fun i b hb => ?_, fun i j b hbi hbj => ?_, fun b hb => Nat.lt_of_lt_of_le (hr.slt b hb) hc.size⟩, up, hc.mono hX, fun i b hb => ?_⟩
 ·by_cases hik : i = k
  ·subst hik; exact hk
  ·rcases hi i hik with e | ⟨e, hf, hb⟩
   ·rw [e]; trivial
   ·rw [e]; exact (hr.ob i).up up hf (fun b hob => hc.block b (cd (hr.ob i) hob) (hb b hob))
 ·by_cases hik : i = k
  ·subst hik
   rcases hkb b hb with h1 | h1
   ·intro hS; have := hr.slt b hS; omega
   ·exact hr.sep src b h1
  ·exact hr.sep i b (back i b hik hb)
 ·by_cases hik : i = k
  ·by_cases hjk : j = k
   ·rw [hik, hjk]
   ·subst hik
    have h1 := back j b hjk hbj
    rcases hkb b hbi with h2 | h2
    ·have := cd (hr.ob j) h1; omega
    ·have h3 := hr.dis src j b h2 h1
     subst h3
     rw [hsrc hjk] at hbj; exact hbj.elim
  ·by_cases hjk : j = k
   ·subst hjk
    have h1 := back i b hik hbi
    rcases hkb b hbj with h2 | h2
    ·have := cd (hr.ob i) h1; omega
    ·have h3 := hr.dis src i b h2 h1
     subst h3
     rw [hsrc hik] at hbi; exact hbi.elim
   ·exact hr.dis i j b (back i b hik hbi) (back j b hjk hbj)
 ·by_cases hik : i = k
  ·subst hik
   rcases hkb b hb with h1 | h1
   ·exact .inr h1
   ·exact .inl ⟨src, h1⟩
  ·exact .inl ⟨i, back i b hik hb⟩
theorem eff_new {nid : Nat} {x : Value} {o : Ob} (hr : HRel S w ρ h) (hf : h nid = .free) (hc : Chg [] w w') (hk : cM S w' (bP ρ nid x) nid o) (hb : ∀ b, own (bP ρ nid x) nid o b → w.heap.size ≤ b) : Eff S w w' ρ (bP ρ nid x) h (be h nid o) (fun _ => False) := by
 have hn : ρ nid = none := by have := hr.ob nid; rw [hf] at this; exact this
 refine nN (X := fun _ => False) nid nid hr (ChgP.of0 hc) (fun i y hy => ?_) (fun b hb => hb.elim) (by rw [aK]; exact hk) (fun b hob => by rw [aK] at hob; exact .inl (hb b hob)) (fun h => absurd rfl h)
  (fun i hi => .inr ⟨aV _ _ hi, fun hfi => ?_, fun b _ hx => hx⟩)
 ·have : i ≠ nid := fun e => by subst e; rw [hn] at hy; cases hy
  rw [fN _ _ this]; exact hy
 ·rw [fN _ _ hi]; have := hr.ob i; rw [hfi] at this; exact this
theorem qg {id : Nat} {o : Ob} {X : List Nat} (hr : HRel S w ρ h) (hc : Chg X w w') (hX : ∀ b, b ∈ X → own ρ id (h id) b) (hk : cM S w' ρ id o) (hb : ∀ b, own ρ id o b → own ρ id (h id) b) : Eff S w w' ρ ρ h (be h id o) (· = id) := by
 refine nN (X := (· ∈ X)) id id hr (ChgP.of hc) (fun i y hy => hy) (fun b hb => ⟨id, rfl, hX b hb⟩) (by rw [aK]; exact hk) (fun b hob => by rw [aK] at hob; exact .inr (hb b hob)) (fun h => absurd rfl h)
  (fun i hi => .inr ⟨aV _ _ hi, fun hfi => ?_, fun b hob hx => hi (hr.dis i id b hob (hX b hx))⟩)
 have := hr.ob i; rw [hfi] at this; exact this
theorem oY {id nid : Nat} {x : Value} {o : Ob} {X : List Nat} (hr : HRel S w ρ h) (hf : h nid = .free) (hid : h id ≠ .free) (hc : Chg X w w') (hX : ∀ b, b ∈ X → own ρ id (h id) b) (hk : cM S w' (bP ρ nid x) nid o) (hb : ∀ b, own (bP ρ nid x) nid o b → own ρ id (h id) b ∨ w.heap.size ≤ b) :
  Eff S w w' ρ (bP ρ nid x) h (be (be h id .gone) nid o) (· = id) := by
 have hn : ρ nid = none := by have := hr.ob nid; rw [hf] at this; exact this
 have hne : id ≠ nid := fun e => by subst e; exact hid hf
 refine nN (X := (· ∈ X)) nid id hr (ChgP.of hc) (fun i y hy => ?_) (fun b hb => ⟨id, rfl, hX b hb⟩) (by rw [aK]; exact hk) (fun b hob => by rw [aK] at hob; exact (hb b hob).symm) (fun _ => by rw [aV _ _ hne, aK])
  (fun i hi => ?_)
 ·have : i ≠ nid := fun e => by subst e; rw [hn] at hy; cases hy
  rw [fN _ _ this]; exact hy
 ·rw [aV _ _ hi]
  by_cases hii : i = id
  ·subst hii; exact .inl (aK _ _ _)
  ·refine .inr ⟨aV _ _ hii, fun hfi => ?_, fun b hob hx => hii (hr.dis i id b hob (hX b hx))⟩
   rw [fN _ _ hi]; have := hr.ob i; rw [hfi] at this; exact this
theorem mu {nid : Nat} {x : Value} (hr : HRel S w ρ h) (hf : h nid = .free) (hc : Chg [] w w') : Up S S w w' ρ (bP ρ nid x) := by
 have hn : ρ nid = none := by have := hr.ob nid; rw [hf] at this; exact this
 refine ⟨fun _ h => h, fun b hb hlt => hc.block b hlt (by simp), fun i y hy => ?_⟩
 have : i ≠ nid := fun e => by subst e; rw [hn] at hy; cases hy
 rw [fN _ _ this]; exact hy
theorem il {id : Nat} {t : TypeId} {cs : List V} (hr : HRel S w ρ h) (ho : h id = .var t cs) : ∃ b xs, ρ id = some (.pointer (some ⟨b, 0, none⟩)) ∧ Blk w b t xs ∧ LRel S w ρ cs xs := by
 have := hr.ob id; rw [ho] at this; exact this
theorem dE {id : Nat} {e : TypeId} {sz : Nat} {els : List V} (hr : HRel S w ρ h) (ho : h id = .row e sz els) : ∃ v xs, ρ id = some v ∧ w.ownsRow 0 e sz v els.length xs ∧ CRel S w ρ sz els xs := by
 have := hr.ob id; rw [ho] at this; exact this
theorem mN {x : Operand} {id o b : Nat} (hx : Opd S w ρ a x (.ptr id o)) (hb : ρ id = some (.pointer (some ⟨b, 0, none⟩))) : ay (fA a) x = some (.pointer (some ⟨b, o, none⟩)) := by
 obtain ⟨y, h1, h2⟩ := hx
 simp only [VRel] at h2
 obtain ⟨b', h3, rfl⟩ := h2
 rw [hb] at h3
 simp only [Option.some.injEq, Value.pointer.injEq, Addr.mk.injEq, and_true] at h3
 subst h3; exact h1
theorem pE {t tb : TypeId} {x : Operand} {id o : Nat} {cs : List V} {v : V} (hr : HRel S w ρ h) (fr : Fr a n (fA a)) (hx : Opd S w ρ a x (.ptr id o)) (ho : h id = .var tb cs) (ht : bH P t = true) (hv : cs[o]? = some v) :
  ∃ b y, ρ id = some (.pointer (some ⟨b, 0, none⟩)) ∧ w.cell? ⟨b, o, none⟩ = some y ∧ VRel S w ρ v y ∧ ∀ w', w'.cell? ⟨b, o, none⟩ = some y → Runs P a ty (.load t x) w' (.value y) w' := by
 obtain ⟨b, xs, h1, h2, h3⟩ := il hr ho
 obtain ⟨y, h4, h5⟩ := h3.get hv
 exact ⟨b, y, h1, by rw [h2.cell, h4], h5, fun w' hc => mO fr (mN hx h1) ht hc⟩
theorem wb {t tb : TypeId} {x : Operand} {id o : Nat} {cs : List V} {v : V} (hr : HRel S w ρ h) (fr : Fr a n (fA a)) (hx : Opd S w ρ a x (.ptr id o)) (ho : h id = .var tb cs) (ht : bH P t = true) (hv : cs[o]? = some v) : Does P S w ρ h a ty (.load t x) (some v) h (fun _ => False) := by
 obtain ⟨b, y, h1, h2, h3, h4⟩ := pE (P := P) (ty := ty) hr fr hx ho ht hv
 exact ⟨_, w, ρ, h4 w h2, Eff.refl hr, y, rfl, h3⟩
theorem ov {t tb : TypeId} {x : Operand} {id o m : Nat} {cs : List V} (hr : HRel S w ρ h) (fr : Fr a n (fA a)) (hx : Opd S w ρ a x (.ptr id o)) (ho : h id = .var tb cs) (ht : fh P t = some m) (hl : o + m ≤ cs.length) :
  ∃ b ys, ρ id = some (.pointer (some ⟨b, 0, none⟩)) ∧ (∀ j, j < m → w.cell? ⟨b, o + j, none⟩ = ys[j]?) ∧ LRel S w ρ ((cs.drop o).take m) ys ∧ ∀ w', (∀ j, j < m → w'.cell? ⟨b, o + j, none⟩ = ys[j]?) → Runs P a ty (.load t x) w' (.value (.agg ys.toArray)) w' := by
 obtain ⟨b, xs, h1, h2, h3⟩ := il hr ho
 have hlen := h3.length
 refine ⟨b, (xs.drop o).take m, h1, fun j hj => ?_, (h3.drop o).take m, fun w' hc => ly fr (mN hx h1) ht (by simp; omega) hc⟩
 rw [h2.cell, List.getElem?_take, if_pos hj, List.getElem?_drop]
theorem uY {t tb : TypeId} {x : Operand} {id o m : Nat} {cs : List V} (hr : HRel S w ρ h) (fr : Fr a n (fA a)) (hx : Opd S w ρ a x (.ptr id o)) (ho : h id = .var tb cs) (ht : fh P t = some m) (hl : o + m ≤ cs.length) : Does P S w ρ h a ty (.load t x) (some (.agg ((cs.drop o).take m))) h (fun _ => False) := by
 obtain ⟨b, ys, h1, h2, h3, h4⟩ := ov (P := P) (ty := ty) hr fr hx ho ht hl
 exact ⟨_, w, ρ, h4 w h2, Eff.refl hr, _, rfl, by simp only [VRel]; exact ⟨ys, rfl, h3⟩⟩
theorem oQ {x : Operand} {id sz i o : Nat} {v : Value} (hx : Opd S w ρ a x (.el id sz i o)) (hb : ρ id = some v) : ∃ b m c, v = .slice (some ⟨b, 0, none⟩) m c ∧ ay (fA a) x = some (.pointer (some ⟨b, i * sz + o, none⟩)) := by
 obtain ⟨y, h1, h2⟩ := hx
 simp only [VRel] at h2
 obtain ⟨b', m, c, h3, rfl⟩ := h2
 rw [hb] at h3
 cases h3
 exact ⟨b', m, c, rfl, h1⟩
theorem jx {base e sz k m c b : Nat} {xs : List Value} (ho : w.ownsRow base e sz (.slice (some ⟨b, 0, none⟩) m c) k xs) {j : Nat} (hj : j < k * sz) : w.cell? ⟨b, j, none⟩ = xs[j]? := by
 rcases ho.2 with ⟨hc, _⟩ | ⟨g, cap, cur, hv, hb, hg, h4, h5, h6, h7⟩
 ·cases hc
 ·injection hv with hv1 _ hv2
  injection hv1 with hv1
  injection hv1 with hv1
  subst hv1
  rw [← h7]
  simp [World.cell?, hg, List.getElem?_take, hj]
theorem oZ {t e : TypeId} {x : Operand} {id sz i o : Nat} {els : List V} {v0 v : V} (hr : HRel S w ρ h) (fr : Fr a n (fA a)) (hx : Opd S w ρ a x (.el id sz i o)) (ho : h id = .row e sz els) (ht : bH P t = true) (hi : els[i]? = some v0) (hv : v0.cells[o]? = some v) :
  ∃ b u y, ρ id = some u ∧ u.ownBlock = some b ∧ w.cell? ⟨b, i * sz + o, none⟩ = some y ∧ VRel S w ρ v y ∧ ∀ w', w'.cell? ⟨b, i * sz + o, none⟩ = some y → Runs P a ty (.load t x) w' (.value y) w' := by
 obtain ⟨u, xs, h1, h2, h3⟩ := dE hr ho
 obtain ⟨b, m, c, rfl, hx'⟩ := oQ hx h1
 obtain ⟨z, g1, g2, g3⟩ := h3.get hi
 obtain ⟨y, h4, h5⟩ := g1.cells.get hv
 have hlt : o < sz := by
  have := (List.getElem?_eq_some_iff.1 h4).1
  simp at this; omega
 have hle : i < els.length := (List.getElem?_eq_some_iff.1 hi).1
 have : (i + 1) * sz ≤ els.length * sz := Nat.mul_le_mul_right _ hle
 rw [Nat.add_mul, Nat.one_mul] at this
 exact ⟨b, _, y, h1, rfl, by rw [jx h2 (by omega), g3 o hlt, h4], h5, fun w' hc => mO fr hx' ht hc⟩
theorem pI {t e : TypeId} {x : Operand} {id sz i o : Nat} {els : List V} {v0 v : V} (hr : HRel S w ρ h) (fr : Fr a n (fA a)) (hx : Opd S w ρ a x (.el id sz i o)) (ho : h id = .row e sz els) (ht : bH P t = true) (hi : els[i]? = some v0) (hv : v0.cells[o]? = some v) : Does P S w ρ h a ty (.load t x) (some v) h (fun _ => False) := by
 obtain ⟨b, u, y, h1, _, h2, h3, h4⟩ := oZ (P := P) (ty := ty) hr fr hx ho ht hi hv
 exact ⟨_, w, ρ, h4 w h2, Eff.refl hr, y, rfl, h3⟩
theorem mY {t e : TypeId} {x : Operand} {id sz i o m : Nat} {els : List V} {v0 : V} (hr : HRel S w ρ h) (fr : Fr a n (fA a)) (hx : Opd S w ρ a x (.el id sz i o)) (ho : h id = .row e sz els) (ht : fh P t = some m) (hi : els[i]? = some v0) (hl : o + m ≤ v0.cells.length) :
  ∃ b u ys, ρ id = some u ∧ u.ownBlock = some b ∧ (∀ j, j < m → w.cell? ⟨b, i * sz + o + j, none⟩ = ys[j]?) ∧ LRel S w ρ ((v0.cells.drop o).take m) ys ∧ ∀ w', (∀ j, j < m → w'.cell? ⟨b, i * sz + o + j, none⟩ = ys[j]?) → Runs P a ty (.load t x) w' (.value (.agg ys.toArray)) w' := by
 obtain ⟨u, xs, h1, h2, h3⟩ := dE hr ho
 obtain ⟨b, k, c, rfl, hx'⟩ := oQ hx h1
 obtain ⟨z, g1, g2, g3⟩ := h3.get hi
 have hlen := g1.cells.length
 simp only [Array.length_toList] at hlen
 have hle : i < els.length := (List.getElem?_eq_some_iff.1 hi).1
 have : (i + 1) * sz ≤ els.length * sz := Nat.mul_le_mul_right _ hle
 rw [Nat.add_mul, Nat.one_mul] at this
 refine ⟨b, _, (z.cells.toList.drop o).take m, h1, rfl, fun j hj => ?_, (g1.cells.drop o).take m, fun w' hc => ly fr hx' ht (by simp; omega) hc⟩
 rw [jx h2 (by omega), Nat.add_assoc, g3 _ (by omega), List.getElem?_take, if_pos hj, List.getElem?_drop]
theorem ou {t e : TypeId} {x : Operand} {id sz i o m : Nat} {els : List V} {v0 : V} (hr : HRel S w ρ h) (fr : Fr a n (fA a)) (hx : Opd S w ρ a x (.el id sz i o)) (ho : h id = .row e sz els) (ht : fh P t = some m) (hi : els[i]? = some v0) (hl : o + m ≤ v0.cells.length) : Does P S w ρ h a ty (.load t x) (some (.agg ((v0.cells.drop o).take m))) h (fun _ => False) := by
 obtain ⟨b, u, ys, h1, _, h2, h3, h4⟩ := mY (P := P) (ty := ty) hr fr hx ho ht hi hl
 exact ⟨_, w, ρ, h4 w h2, Eff.refl hr, _, rfl, by simp only [VRel]; exact ⟨ys, rfl, h3⟩⟩
theorem uW {t : TypeId} {nid : Nat} {z : List Value} {zv : List V} (hr : HRel S w ρ h) (hf : h nid = .free) (hz : fo P t = some z) (hzv : ∀ S w ρ, LRel S w ρ zv z) : Does P S w ρ h a ty (.alloc t) (some (.ptr nid 0)) (be h nid (.var t zv)) (fun _ => False) := by
 obtain ⟨w', b, h1, h2, h3, h4, h5⟩ := tB (P := P) z hz a w ty
 refine ⟨_, w', bP ρ nid (.pointer (some ⟨b, 0, none⟩)), h1, eff_new hr hf h3 ⟨b, z, aD _ _ _, h2, hzv _ _ _⟩ (fun b' hb' => ?_), _, rfl, ?_⟩
 ·simp only [own, aD, Option.some.injEq, Value.pointer.injEq, Addr.mk.injEq, and_true] at hb'; omega
 ·simp only [VRel]; exact ⟨b, aD _ _ _, rfl⟩
theorem xr {t : TypeId} {x : Operand} {nid : Nat} {v : V} (hr : HRel S w ρ h) (fr : Fr a n (fA a)) (hf : h nid = .free) (hx : Opd S w ρ a x v) : Does P S w ρ h a ty (.box t x) (some (.ptr nid 0)) (be h nid (.var t v.cells)) (fun _ => False) := by
 obtain ⟨y, g1, g2⟩ := hx
 obtain ⟨w', b, h1, h2, h3, h4, h5⟩ := vT (P := P) (t := t) (cs := y.cells.toList) fr g1 (by simp) w ty
 refine ⟨_, w', bP ρ nid (.pointer (some ⟨b, 0, none⟩)), h1, eff_new hr hf h3 ⟨b, _, aD _ _ _, h2, g2.cells.up (mu hr hf h3)⟩ (fun b' hb' => ?_), _, rfl, ?_⟩
 ·simp only [own, aD, Option.some.injEq, Value.pointer.injEq, Addr.mk.injEq, and_true] at hb'; omega
 ·simp only [VRel]; exact ⟨b, aD _ _ _, rfl⟩
theorem ni {t tb : TypeId} {f : Nat → Option Value} {x y : Operand} {b o m : Nat} {v : Value} {cs : List Value} (h : Fr a n f) (hx : ay f x = some (.pointer (some ⟨b, o, none⟩))) (hy : ay f y = some v) (hz : cf P t = some m) (hv : v.cells.size = m) (hone : v.cells.toList.all (·.oneCell') = true) (hb : Blk w b tb cs) (hm : o + m ≤ cs.length) (ty : TypeId) :
  ∃ w', Runs P a ty (.store t x y) w .skip w' ∧ Blk w' b tb (cs.take o ++ v.cells.toList ++ cs.drop (o + m)) ∧ Chg [b] w w' := by
 obtain ⟨i, hi, hs⟩ := Option.map_eq_some_iff.1 (show (P.info? t).map (·.size) = some m from hz)
 have key : ∀ (l : List Value) (j : Nat) (w : World) (cs : List Value), Blk w b tb cs → o + j + l.length ≤ cs.length → l.all (·.oneCell') = true → ∃ w', (storeCells ⟨b, o, none⟩ l j).run P w = .ok () w' ∧ Blk w' b tb (cs.take (o + j) ++ l ++ cs.drop (o + j + l.length)) ∧ Chg [b] w w' := by
  intro l
  induction l with
  | nil => intro j w cs hb hj _; exact ⟨w, by simp [storeCells], by simpa using hb, Chg.refl _ _⟩
  | cons c r ih =>
   intro j w cs hb hj hone
   simp only [List.all_cons, Bool.and_eq_true] at hone
   simp only [List.length_cons] at hj
   have ho : o + j < cs.length := by omega
   have hc : w.cell? ⟨b, o + j, none⟩ = some cs[o + j] := by rw [hb.cell]; simp [ho]
   have hfz := hb.frozen (o + j)
   have ha : (⟨b, o, none⟩ : Addr).add j = ⟨b, o + j, none⟩ := gc b o j
   obtain ⟨w2, h1, h2, h3⟩ := ih (j + 1) (w.setCell ⟨b, o + j, none⟩ c) (cs.set (o + j) c) (hb.set (o + j) c) (by simp; omega) hone.2
   refine ⟨w2, ?_, ?_, (Chg.set w b (o + j) c).trans h3 (fun x hx => .inl hx)⟩
   ·simp only [storeCells, ha]
    have hst := run_store P w ⟨b, o + j, none⟩ c .plain hone.1
    simp [hst, stored, hc, hfz]
    exact h1
   ·have e1 : (cs.set (o + j) c).take (o + (j + 1)) = cs.take (o + j) ++ [c] := by
     rw [← Nat.add_assoc, List.take_succ_eq_append_getElem (by simpa using ho), List.take_set_of_le (Nat.le_refl _)]
     simp
    have e2 : (cs.set (o + j) c).drop (o + (j + 1) + r.length) = cs.drop (o + j + (r.length + 1)) := by
     rw [List.drop_set_of_lt (by omega)]; congr 1; omega
    rw [e1, e2] at h2
    simpa using h2
 obtain ⟨w1, h1, h2, h3⟩ := key v.cells.toList 0 w cs hb (by simp; omega) hone
 refine ⟨w1, fun _ _ _ _ => ?_, by simpa [hv] using h2, h3⟩
 simp only [execOp, h.eval hx, h.eval hy]
 simp [Instr.storeAt, Instr.sureAddr, storeVar, sizeOf, typeInfo, hi, hs, hv, h1]
theorem jo : ∀ {vs : List V} {xs : List Value}, LRel S w ρ vs xs → vs.all V.one = true → xs.all (·.oneCell') = true
 | [], xs, hl, h1 => by simp only [LRel] at hl; subst hl; rfl
 | v :: r, xs, hl, h1 => by
  simp only [LRel] at hl
  obtain ⟨x, ys, rfl, h2, h3⟩ := hl
  simp only [List.all_cons, Bool.and_eq_true] at h1 ⊢
  exact ⟨h2.one h1.1, jo h3 h1.2⟩
theorem rS {X : List Nat} {id : Nat} (hr : HRel S w ρ h) (hc : Chg X w w') (hX : ∀ b, b ∈ X → own ρ id (h id) b) : Up S S w w' ρ ρ :=
 ⟨fun _ h => h, fun b hb hlt => hc.block b hlt (fun hx => hr.sep id b (hX b hx) hb), fun _ _ h => h⟩
theorem uM {t tb : TypeId} {x y : Operand} {id o m : Nat} {cs : List V} {v : V} (hr : HRel S w ρ h) (fr : Fr a n (fA a)) (hx : Opd S w ρ a x (.ptr id o)) (hy : Opd S w ρ a y v) (ho : h id = .var tb cs) (hz : cf P t = some m) (hv : v.cells.length = m) (h1 : v.cells.all V.one = true) (hm : o + m ≤ cs.length) :
  Does P S w ρ h a ty (.store t x y) none (be h id (.var tb (iv cs o v.cells))) (· = id) := by
 obtain ⟨b, xs, g1, g2, g3⟩ := il hr ho
 obtain ⟨z, k1, k2⟩ := hy
 have hlen := k2.cells.length
 simp only [Array.length_toList] at hlen
 obtain ⟨w', r1, r2, r3⟩ := ni (P := P) (t := t) (m := m) fr (mN hx g1) k1 hz (by omega) (jo k2.cells h1) g2 (by have := g3.length; omega) ty
 have hX : ∀ c, c ∈ [b] → own ρ id (h id) c := fun c hc => by simp at hc; subst hc; rw [ho]; exact g1
 have u := rS hr r3 hX
 refine ⟨_, w', ρ, r1, qg hr r3 hX ⟨b, _, g1, r2, ?_⟩ (fun c hc => by rw [ho]; exact hc), rfl⟩
 unfold iv
 rw [hv]
 exact (((g3.take o).append k2.cells).append (g3.drop _)).up u
theorem CRel.set {sz : Nat} : ∀ {vs : List V} {xs : List Value} {i : Nat} {v : V} {x : Value}, CRel S w ρ sz vs xs → i < vs.length → VRel S w ρ v x → x.cells.size = sz → x.cells.toList.all (·.oneCell') = true → CRel S w ρ sz (vs.set i v) (xs.take (i * sz) ++ x.cells.toList ++ xs.drop (i * sz + sz))
 | [], xs, i, v, x, hc, hi, hx, hs, h1 => by simp at hi
 | u :: r, xs, 0, v, x, hc, hi, hx, hs, h1 => by
  simp only [CRel] at hc
  obtain ⟨y, ys, rfl, ⟨h2, h2'⟩, h3, h4⟩ := hc
  refine ⟨x, ys, ?_, ⟨hs, h1⟩, hx, h4⟩
  simp [h2, List.drop_append]
 | u :: r, xs, i + 1, v, x, hc, hi, hx, hs, h1 => by
  simp only [CRel] at hc
  obtain ⟨y, ys, rfl, ⟨h2, h2'⟩, h3, h4⟩ := hc
  have ih := CRel.set (i := i) h4 (by simpa using hi) hx hs h1
  refine ⟨y, _, ?_, ⟨h2, h2'⟩, h3, ih⟩
  have e1 : (y.cells.toList ++ ys).take ((i + 1) * sz) = y.cells.toList ++ ys.take (i * sz) := by
   rw [List.take_append, List.take_of_length_le (by simp [h2, Nat.add_mul])]
   congr 2
   simp [h2, Nat.add_mul]
  have e2 : (y.cells.toList ++ ys).drop ((i + 1) * sz + sz) = ys.drop (i * sz + sz) := by
   rw [List.drop_append, List.drop_of_length_le (by simp [h2, Nat.add_mul])]
   simp [h2, Nat.add_mul]
  rw [e1, e2]; simp
def V.over (v0 : V) (o : Nat) (ps : List V) : V := match v0 with
 | .agg cs => .agg (iv cs o ps)
 |v0 => match ps with
  | [p] => p
  | _ => v0
theorem lp {t e : TypeId} {x y : Operand} {id sz i o m : Nat} {els : List V} {v0 v : V} (hr : HRel S w ρ h) (fr : Fr a n (fA a)) (hx : Opd S w ρ a x (.el id sz i o)) (hy : Opd S w ρ a y v) (ho : h id = .row e sz els) (hz : cf P t = some m) (hi : els[i]? = some v0) (hv : v.cells.length = m) (h1 : v.cells.all V.one = true) (hm : o + m ≤ v0.cells.length)
  (hv0 : (∃ cs, v0 = .agg cs) ∨ (v0.cells = [v0] ∧ v.cells = [v])) : Does P S w ρ h a ty (.store t x y) none (be h id (.row e sz (els.set i (v0.over o v.cells)))) (· = id) := by
 obtain ⟨u, xs, g1, g2, g3⟩ := dE hr ho
 obtain ⟨b, k, c, rfl, hx'⟩ := oQ hx g1
 obtain ⟨z, k1, k2⟩ := hy
 have hlen := k2.cells.length
 simp only [Array.length_toList] at hlen
 obtain ⟨z0, q1, q2, q3⟩ := g3.get hi
 have hle : i < els.length := (List.getElem?_eq_some_iff.1 hi).1
 have hmul : (i + 1) * sz ≤ els.length * sz := Nat.mul_le_mul_right _ hle
 rw [Nat.add_mul, Nat.one_mul] at hmul
 have hl0 := q1.cells.length
 simp only [Array.length_toList] at hl0
 have hxl := g3.length
 rcases g2.2 with ⟨hc, _⟩ | ⟨g, cap, cur, hv1, hb, hg, h4, h5, h6, h7⟩
 ·cases hc
 ·injection hv1 with hv2 hv3 hv4
  injection hv2 with hv2
  injection hv2 with hv2
  subst hv2 hv3 hv4
  have hcap : els.length * sz ≤ c * sz := Nat.mul_le_mul_right _ h4
  have hB : Blk w b e cur.toList := by unfold Blk; rw [hg]
  obtain ⟨w', r1, r2, r3⟩ := ni (P := P) (t := t) (m := m) fr hx' k1 hz (by omega) (jo k2.cells h1) hB (by simp; omega) ty
  have hX : ∀ d, d ∈ [b] → own ρ id (h id) d := fun d hd => by simp at hd; subst hd; rw [ho]; exact ⟨_, g1, rfl⟩
  have up := rS hr r3 hX
  have hnew : ∃ q, VRel S w ρ (v0.over o v.cells) q ∧ q.cells.toList = z0.cells.toList.take o ++ z.cells.toList ++ z0.cells.toList.drop (o + m) := by
   rcases hv0 with ⟨cs, rfl⟩ | ⟨e1, e2⟩
   ·refine ⟨.agg (z0.cells.toList.take o ++ z.cells.toList ++ z0.cells.toList.drop (o + m)).toArray, ?_, by simp [Value.cells]⟩
    simp only [V.over, VRel]
    refine ⟨_, rfl, ?_⟩
    unfold iv
    rw [hv]
    exact ((q1.cells.take o).append k2.cells).append (q1.cells.drop _)
   ·have : v0.over o v.cells = v := by
     rw [e2]
     cases v0 with
     | agg cs =>
      simp only [V.cells] at e1
      have hs := congrArg SizeOf.sizeOf e1
      simp at hs; omega
     | _ => rfl
    rw [this]
    refine ⟨z, k2, ?_⟩
    rw [e1] at hm hl0
    rw [e2] at hv
    simp at hm hl0 hv
    subst hv
    obtain rfl : o = 0 := by omega
    rw [List.drop_of_length_le (l := z0.cells.toList) (by simp [hl0])]
    simp
  obtain ⟨q, hn1, hn2⟩ := hnew
  have hsz' : q.cells.size = sz := by
   have := congrArg List.length hn2
   simp only [Array.length_toList, List.length_append, List.length_take, List.length_drop] at this
   rw [this]; omega
  have hones : (z0.cells.toList.take o ++ z.cells.toList ++ z0.cells.toList.drop (o + m)).all (·.oneCell') = true := by
   have hall : z0.cells.toList.all (·.oneCell') = true := by
    have h0 : ∀ j, j < sz → ∃ u, z0.cells.toList[j]? = some u ∧ u.oneCell' = true := fun j hj => by
     have hq := q3 j hj
     have : i * sz + j < xs.length := by omega
     refine ⟨xs[i * sz + j], ?_, g3.ones _ (List.getElem_mem _)⟩
     rw [← hq]; simp [this]
    rw [List.all_eq_true]
    intro u hu
    obtain ⟨j, hj, rfl⟩ := List.getElem_of_mem hu
    obtain ⟨u', e1, e2⟩ := h0 j (by simp at hj; omega)
    rw [List.getElem?_eq_getElem hj] at e1
    cases e1; exact e2
   have hall2 := jo k2.cells h1
   rw [List.all_eq_true] at hall hall2 ⊢
   intro u hu
   simp only [List.mem_append] at hu
   rcases hu with (hu | hu) | hu
   ·exact hall u (List.mem_of_mem_take hu)
   ·exact hall2 u hu
   ·exact hall u (List.mem_of_mem_drop hu)
  have hset := CRel.set (i := i) g3 hle hn1 hsz' (by rw [hn2]; exact hones)
  rw [hn2] at hset
  have hcur : cur.toList.take (els.length * sz) = xs := h7
  have e9 : xs.take (i * sz) ++ (z0.cells.toList.take o ++ z.cells.toList ++ z0.cells.toList.drop (o + m)) ++ xs.drop (i * sz + sz) = xs.take (i * sz + o) ++ z.cells.toList ++ xs.drop (i * sz + o + m) := by
   apply List.ext_getElem?
   intro j
   have hz0 : ∀ j, j < sz → z0.cells.toList[j]? = xs[i * sz + j]? := fun j hj => (q3 j hj).symm
   have L1 : (xs.take (i * sz)).length = i * sz := by simp; omega
   have L2 : (z0.cells.toList.take o).length = o := by simp; omega
   have L3 : z.cells.toList.length = m := by simp; omega
   have L4 : (z0.cells.toList.drop (o + m)).length = sz - (o + m) := by simp; omega
   have L5 : (xs.take (i * sz + o)).length = i * sz + o := by simp; omega
   simp only [List.getElem?_append, L1, L2, L3, L4, L5, List.length_append, List.getElem?_take, List.getElem?_drop]
   by_cases c1 : j < i * sz
   ·simp [c1, show j < i * sz + (o + m + (sz - (o + m))) by omega, show j < i * sz + o + m by omega, show j < i * sz + o by omega]
   ·by_cases c2 : j < i * sz + o
    ·simp [c1, c2, show j < i * sz + (o + m + (sz - (o + m))) by omega, show j < i * sz + o + m by omega, show j - i * sz < o + m by omega, show j - i * sz < o by omega]
     have := hz0 (j - i * sz) (by omega)
     simp at this
     rw [this]; congr 1; omega
    ·by_cases c3 : j < i * sz + o + m
     ·simp [c1, c2, c3, show j < i * sz + (o + m + (sz - (o + m))) by omega, show j - i * sz < o + m by omega, show ¬ j - i * sz < o by omega]
      congr 1; omega
     ·by_cases c4 : j < i * sz + sz
      ·simp [c1, c2, c3, show j < i * sz + (o + m + (sz - (o + m))) by omega, show ¬ j - i * sz < o + m by omega]
       rw [show o + m + (j - i * sz - (o + m)) = j - i * sz by omega]
       have := hz0 (j - i * sz) (by omega)
       simp at this
       rw [this]; congr 1; omega
      ·simp [c1, c2, c3, show ¬ j < i * sz + (o + m + (sz - (o + m))) by omega]
       congr 1; omega
  rw [e9] at hset
  refine ⟨_, w', ρ, r1, qg hr r3 hX ⟨_, _, g1, ⟨?_, .inr ⟨b, c, (cur.toList.take (i * sz + o) ++ z.cells.toList ++ cur.toList.drop (i * sz + o + m)).toArray, ?_, hb, r2, by simpa using h4, h5, ?_, rfl⟩⟩, ?_⟩ (fun d hd => by rw [ho]; exact hd), rfl⟩
  ·simp; omega
  ·simp
  ·simp; omega
  ·have e10 : List.take ((els.set i (v0.over o v.cells)).length * sz) (cur.toList.take (i * sz + o) ++ z.cells.toList ++ cur.toList.drop (i * sz + o + m)).toArray.toList = xs.take (i * sz + o) ++ z.cells.toList ++ xs.drop (i * sz + o + m) := by
    simp only [List.length_set]
    rw [← hcur]
    apply List.ext_getElem?
    intro j
    have K1 : (cur.toList.take (i * sz + o)).length = i * sz + o := by simp; omega
    have K2 : (List.take (i * sz + o) (List.take (els.length * sz) cur.toList)).length = i * sz + o := by simp; omega
    simp only [List.getElem?_take, List.getElem?_append, K1, K2, List.length_append, Array.length_toList, List.getElem?_drop]
    by_cases c0 : j < els.length * sz
    ·by_cases c1 : j < i * sz + o
     ·simp [c0, c1, show j < i * sz + o + z.cells.size by omega]
     ·by_cases c2 : j < i * sz + o + z.cells.size
      ·simp [c0, c1, c2]
      ·simp [c0, c1, c2, show i * sz + o + m + (j - (i * sz + o + z.cells.size)) < els.length * sz by omega]
    ·simp [c0, show ¬ j < i * sz + o + z.cells.size by omega, show ¬ i * sz + o + m + (j - (i * sz + o + z.cells.size)) < els.length * sz by omega]
   rw [e10]
   exact hset.up up
end
end Go.Proofs.YthnohcipianijaaGreatDoor
namespace Go.Proofs.YthnohcipianijaaGreatDoor
open Go.RowKit
section
variable {P : Program} {S : Nat → Prop} {w w' : World} {ρ ρ' : Nat → Option Value} {h h' : Nat → Ob} {a : Act} {n : Nat} {ty : TypeId}
def dN (sz : Nat) : Nat → List (Nat × V) → Option (List V)
 | _, [] => some []
 |i, (j, v) :: r => match Nat.beq i j && Nat.beq v.cells.length sz && v.cells.all V.one with
  |true => match dN sz (i + 1) r with
   | some vs => some (v :: vs)
   | none => none
  | false => none
theorem iT {sz : Nat} : ∀ {vs : List (Nat × V)} {ys : List (Nat × Value)} {i : Nat} {els : List V}, PRel S w ρ vs ys → dN sz i vs = some els →
  ys.map (·.1) = (List.range' i els.length) ∧ (ys.all fun p => p.2.cells.size == sz) = true ∧ CRel S w ρ sz els (ys.flatMap fun p => p.2.cells.toList)
 | [], ys, i, els, hp, hr => by
  simp only [PRel] at hp; subst hp
  simp only [dN, Option.some.injEq] at hr; subst hr
  simp [CRel]
 | (j, v) :: r, ys, i, els, hp, hr => by
  simp only [PRel] at hp
  obtain ⟨x, zs, rfl, hx, hq⟩ := hp
  simp only [dN] at hr
  split at hr
  ·rename_i hc
   simp only [Bool.and_eq_true, Nat.beq_eq] at hc
   split at hr
   ·rename_i vs hvs
    simp only [Option.some.injEq] at hr; subst hr
    obtain ⟨h1, h2, h3⟩ := iT hq hvs
    have hl := hx.cells.length
    simp only [Array.length_toList] at hl
    refine ⟨?_, ?_, ?_⟩
    ·simp [h1, hc.1.1, List.range'_succ]
    ·simp only [List.all_cons, h2, Bool.and_true, beq_iff_eq]; rw [hl, hc.1.2]
    ·simp only [List.flatMap_cons]
     exact ⟨x, _, rfl, ⟨by rw [hl, hc.1.2], jo hx.cells hc.2⟩, hx, h3⟩
   ·cases hr
  ·cases hr
theorem tw {t e : TypeId} {ps : List (Nat × Operand)} {vs : List (Nat × V)} {ys : List (Nat × Value)} {sz m nid : Nat} {z : List Value} {els : List V} (hr : HRel S w ρ h) (fr : Fr a n (fA a)) (hf : h nid = .free) (hps : bV (fA a) ps = some ys) (hpr : PRel S w ρ vs ys) (ht : P.underlying t = some (.slice e)) (hz : cf P e = some sz) (hzero : fo P e = some z)
  (hp : dN sz 0 vs = some els) (hl : els.length = m) (hsm : Nat.ble (m * sz) 16777216 = true) (hm : Nat.ble m 16777216 = true) : Does P S w ρ h a ty (.buildSlice t m ps.toArray) (some (.sl nid)) (be h nid (.row e sz els)) (fun _ => False) := by
 obtain ⟨h1, h2, h3⟩ := iT hpr hp
 have hidx : ps.map (·.1) = List.range m := by
  have : ps.map (·.1) = ys.map (·.1) := by rw [← fr.parts hps]; simp
  rw [this, h1, hl, List.range_eq_range']
 obtain ⟨w', b, g1, g2, g3, g4, g5⟩ := mR (P := P) (t := t) (m := m) fr hps ht hz hzero hidx h2 hsm rfl w ty
 have hlen := h3.length
 have hmm : m ≤ 16777216 := Nat.le_of_ble_eq_true hm
 have own := lY (base := 0) g2 (Nat.zero_le _) (m := m) (size := sz) (by rw [hlen, hl]) (by simp only [Nat.ble_eq, maxLen]; omega)
 refine ⟨_, w', bP ρ nid (.slice (some ⟨b, 0, none⟩) m m), g1, eff_new hr hf g3 ⟨_, _, aD _ _ _, by rw [hl]; exact own, h3.up (mu hr hf g3)⟩ (fun b' hb' => ?_), _, rfl, ?_⟩
 ·obtain ⟨v, e1, e2⟩ := hb'
  rw [aD] at e1
  cases e1
  simp [Value.ownBlock] at e2; omega
 ·simp only [VRel]; exact ⟨aD _ _ _, rfl⟩
theorem nn {z : List Value} (hz : 0 < z.length) : ∀ m, (madeCells z.toArray (m * z.length)).toList = (List.replicate m z).flatten := by
 intro m
 apply List.ext_getElem?
 intro j
 have hl : ((List.replicate m z).flatten).length = m * z.length := by simp
 by_cases hj : j < m * z.length
 ·have hlt : j % z.length < z.length := Nat.mod_lt _ hz
  have h1 : (madeCells z.toArray (m * z.length)).toList[j]? = some z[j % z.length] := by
   simp [madeCells, hj, hlt]
  rw [h1]
  have key : ∀ (m j : Nat), j < m * z.length → ((List.replicate m z).flatten)[j]? = some (z[j % z.length]'(Nat.mod_lt _ hz)) := by
   intro m
   induction m with
   | zero => intro j hj; simp at hj
   | succ m ih =>
    intro j hj
    simp only [List.replicate_succ, List.flatten_cons]
    by_cases hc : j < z.length
    ·rw [List.getElem?_append_left hc]
     simp [Nat.mod_eq_of_lt hc, hc]
    ·rw [List.getElem?_append_right (by omega), ih (j - z.length) (by rw [Nat.add_mul] at hj; omega)]
     congr 1
     have : (j - z.length) % z.length = j % z.length := by
      conv => rhs; rw [show j = (j - z.length) + z.length by omega]
      simp
     simp [this]
  exact (key m j hj).symm
 ·rw [List.getElem?_eq_none (by simp [madeCells]; omega), List.getElem?_eq_none (by rw [hl]; omega)]
theorem nU {sz : Nat} {zv : V} {z : Value} (hz : z.cells.size = sz) (h1 : z.cells.toList.all (·.oneCell') = true) (hv : VRel S w ρ zv z) : ∀ m, CRel S w ρ sz (List.replicate m zv) ((List.replicate m z.cells.toList).flatten)
 | 0 => by simp [CRel]
 | m + 1 => by
  simp only [List.replicate_succ, List.flatten_cons]
  exact ⟨z, _, rfl, ⟨hz, h1⟩, hv, nU hz h1 hv m⟩
theorem wo {t e : TypeId} {x y : Operand} {m nid sz by_ : Nat} {z : Value} {zv : V} (hr : HRel S w ρ h) (fr : Fr a n (fA a)) (hf : h nid = .free) (hx : Opd S w ρ a x (.int .i64 (m : Int))) (hy : Opd S w ρ a y (.int .i64 (m : Int))) (ht : P.underlying t = some (.slice e))
  (hi : (P.info? e).map (fun i => (i.zero, i.size, i.bytes)) = some (some z, sz, by_)) (hzs : z.cells.size = sz) (hsz : 0 < sz) (h1 : z.cells.toList.all (·.oneCell') = true) (hzv : ∀ S w ρ, VRel S w ρ zv z) (hb : by_ * m ≤ 281474976710656) (hm : m ≤ maxLen) :
  Does P S w ρ h a ty (.makeSlice t x y) (some (.sl nid)) (be h nid (.row e sz (List.replicate m zv))) (fun _ => False) := by
 have hmm : m ≤ 9223372036854775807 := by simp only [maxLen] at hm; omega
 have hcs : madeCells z.cells (m * sz) = (List.replicate m z.cells.toList).flatten.toArray := by
  rw [← nn (by simp; omega)]; simp [hzs]
 obtain ⟨w', b, g1, g2, g3, g4, g5⟩ := ux (P := P) fr (aG hx) (aG hy) ht hi (by simpa using hb) (by simpa using hmm) hcs w ty
 have hcr := nU (S := S) (w := w) (ρ := ρ) hzs h1 (hzv _ _ _) m
 have hlen := hcr.length
 simp only [List.length_replicate] at hlen
 have own := lY (base := 0) g2 (Nat.zero_le _) (m := m) (size := sz) hlen (by simpa using hm)
 refine ⟨_, w', bP ρ nid (.slice (some ⟨b, 0, none⟩) m m), g1, eff_new hr hf g3 ⟨_, _, aD _ _ _, by simpa using own, hcr.up (mu hr hf g3)⟩ (fun b' hb' => ?_), _, rfl, ?_⟩
 ·obtain ⟨v, e1, e2⟩ := hb'
  rw [aD] at e1
  cases e1
  simp [Value.ownBlock] at e2; omega
 ·simp only [VRel]; exact ⟨aD _ _ _, rfl⟩
theorem lQ {t e : TypeId} {sz k c d : Nat} {A B : Option Addr} (ht : P.underlying t = some (.slice e)) (hz : cf P e = some sz) (hk : k ≤ c) : (Builtin.append_ #[t, t] ty #[.slice A k c, .slice B 0 d]).run P w = .ok (.slice A k c) w := by
 obtain ⟨inf, hi, hs⟩ := Option.map_eq_some_iff.1 (show (P.info? e).map (·.size) = some sz from hz)
 have hso : (sizeOf e).run P w = .ok sz w := by simp [sizeOf, typeInfo, hi, hs]
 cases A <;> cases B <;> simp [Builtin.append_, run_underlying ht, hso, Builtin.lenOf, Builtin.firstCells, hk, loadCells, loadCellsFrom, storeCells]
def jk (S : Nat → Prop) (w : World) (ρ : Nat → Option Value) (sz : Nat) (els : List V) (y : Value) : Prop :=
 ∃ A c xs, y = .slice A els.length c ∧ CRel S w ρ sz els xs ∧ (0 < els.length → ∃ b off, A = some ⟨b, off, none⟩ ∧ ∀ j, j < els.length * sz → w.cell? ⟨b, off + j, none⟩ = xs[j]?)
theorem uZ {sz : Nat} {els : List V} {y : Value} (hy : VRel S w ρ (.row sz els) y) : jk S w ρ sz els y := by
 simp only [VRel] at hy
 obtain ⟨A, c, xs, rfl, h3, h4, h5, h6⟩ := hy
 exact ⟨A, c, xs, rfl, h5.up up0, fun hn => by obtain ⟨b, off, e, _, _, hc⟩ := h6.2 hn; exact ⟨b, off, e, hc⟩⟩
theorem sV {sz : Nat} {y : Value} (hy : VRel S w ρ .nils y) : jk S w ρ sz [] y := by
 simp only [VRel] at hy; subst hy
 exact ⟨none, 0, [], rfl, by simp [CRel], fun hn => by simp at hn⟩
theorem uv {id sz : Nat} {e : TypeId} {els : List V} {y : Value} (hr : HRel S w ρ h) (ho : h id = .row e sz els) (hy : VRel S w ρ (.sl id) y) : jk S w ρ sz els y := by
 simp only [VRel] at hy
 obtain ⟨v, xs, h1, h2, h3⟩ := dE hr ho
 rw [hy.1] at h1
 cases h1
 obtain ⟨A, c, rfl, _⟩ := ca h2
 refine ⟨A, c, xs, rfl, h3, fun hn => ?_⟩
 obtain ⟨g, cap, hv, _⟩ := h2.form hn
 injection hv with hv1 _ hv2
 subst hv1
 exact ⟨g, 0, rfl, fun j hj => by rw [Nat.zero_add]; exact jx h2 hj⟩
theorem lN {t e : TypeId} {x y : Operand} {sz by_ : Nat} {z u v : Value} {els news : List V} {xs : List Value} (fr : Fr a n (fA a)) (hx : ay (fA a) x = some u) (hy : ay (fA a) y = some v) (hu : w.ownsRow 0 e sz u els.length xs) (hcx : CRel S w ρ sz els xs) (hv : jk S w ρ sz news v) (ht : P.underlying t = some (.slice e))
  (hi : (P.info? e).map (fun i => (i.zero, i.size, i.bytes)) = some (some z, sz, by_)) (hzs : z.cells.size = sz) (hsz : 0 < sz) (h63 : els.length + news.length ≤ maxLen) (hby : (els.length + news.length) * by_ ≤ 140737488355328) :
  ∃ v' w' ys, Runs P a ty (.call { callee := .builtin .append, args := #[x, y], argTypes := #[t, t] }) w (.value v') w' ∧ w'.ownsRow 0 e sz v' (els.length + news.length) ys ∧ CRel S w ρ sz (els ++ news) ys ∧ Chg u.ownBlock.toList w w' ∧ (v'.ownBlock = u.ownBlock ∨ v'.ownBlock = some w.heap.size) := by
 obtain ⟨A, c, ns, rfl, hcr, hcell⟩ := hv
 have hsize : cf P e = some sz := by
  obtain ⟨i0, hi0, hx0⟩ := Option.map_eq_some_iff.1 hi
  simp only [Prod.mk.injEq] at hx0
  simp [cf, hi0, hx0.2.1]
 by_cases hn : news = []
 ·subst hn
  simp only [CRel] at hcr; subst hcr
  obtain ⟨B, d, rfl, hd, _⟩ := ca hu
  refine ⟨.slice B els.length d, w, xs, fun _ _ _ _ => ?_, by simpa using hu, by simpa using hcx, Chg.refl _ _, .inl rfl⟩
  simp only [execOp, resolve, invoke, builtin, List.map_toArray, List.map_cons, List.map_nil, fr.eval hx, fr.eval hy]
  have := lQ (P := P) (w := w) (ty := ty) (A := B) (B := A) (d := c) ht hsize hd
  simp only [List.length_nil]
  simp [this]
 ·have hpos : 0 < news.length := List.length_pos_iff.2 hn
  obtain ⟨b, off, rfl, hc⟩ := hcell hpos
  obtain ⟨i0, hi0, hx0⟩ := Option.map_eq_some_iff.1 hi
  simp only [Prod.mk.injEq] at hx0
  obtain ⟨hz, hs, hbb⟩ := hx0
  obtain ⟨v', w', hrun, h2, h3, _, h5⟩ := run_append_own_at (P := P) w 0 t ty e i0 z sz by_ ht hi0 hz hs hbb hzs hsz u els.length xs hu ⟨b, off, none⟩ news.length c ns hcr.length
   (fun j q hq => by
    have hj : j < ns.length := (List.getElem?_eq_some_iff.1 hq).1
    rw [gc, hc j (by rw [← hcr.length]; exact hj)]; exact hq) hcr.ones h63 hby (Nat.zero_le _)
  refine ⟨v', w', xs ++ ns, fun _ _ _ _ => ?_, h2, hcx.append hcr, Chg.grown h3, h5⟩
  simp only [execOp, resolve, invoke, builtin, List.map_toArray, List.map_cons, List.map_nil, fr.eval hx, fr.eval hy]
  simp [hrun]
theorem pW {base e sz k : Nat} {v : Value} {xs : List Value} (hv : w.ownsRow base e sz v k xs) : v.oneCell' = true := by
 obtain ⟨A, c, rfl, _⟩ := ca hv; rfl
section
variable {t e : TypeId} {x y : Operand} {sz by_ nid : Nat} {z v : Value} {els news : List V} (hr : HRel S w ρ h) (fr : Fr a n (fA a)) (hf : h nid = .free) (hy : ay (fA a) y = some v) (hv : jk S w ρ sz news v) (ht : P.underlying t = some (.slice e))
    (hi : (P.info? e).map (fun i => (i.zero, i.size, i.bytes)) = some (some z, sz, by_)) (hzs : z.cells.size = sz) (hsz : 0 < sz)
include hr fr hf hy hv ht hi hzs hsz
theorem nK {id : Nat} (hx : Opd S w ρ a x (.sl id)) (ho : h id = .row e sz els) (h63 : els.length + news.length ≤ maxLen) (hby : (els.length + news.length) * by_ ≤ 140737488355328) :
  Does P S w ρ h a ty (.call { callee := .builtin .append, args := #[x, y], argTypes := #[t, t] }) (some (.sl nid)) (be (be h id .gone) nid (.row e sz (els ++ news))) (· = id) := by
 obtain ⟨u, k1, k2⟩ := hx
 simp only [VRel] at k2
 obtain ⟨u', xs, h1, h2, h3⟩ := dE hr ho
 rw [k2.1] at h1
 cases h1
 obtain ⟨v', w', ys, g1, g2, g3, g4, g5⟩ := lN (P := P) (ty := ty) fr k1 hy h2 h3 hv ht hi hzs hsz h63 hby
 have hX : ∀ b, b ∈ u.ownBlock.toList → own ρ id (h id) b := fun b hb => by simp at hb; rw [ho]; exact ⟨u, k2.1, hb⟩
 have hn : ρ nid = none := by have := hr.ob nid; rw [hf] at this; exact this
 have up : Up S S w w' ρ (bP ρ nid v') := by
  refine ⟨fun _ h => h, fun b hb hlt => g4.block b hlt (fun hc => hr.sep id b (hX b hc) hb), fun i q hq => ?_⟩
  have : i ≠ nid := fun e => by subst e; rw [hn] at hq; cases hq
  rw [fN _ _ this]; exact hq
 refine ⟨_, w', bP ρ nid v', g1, oY hr hf (by rw [ho]; simp) g4 hX ⟨v', ys, aD _ _ _, by simpa using g2, g3.up up⟩ (fun b hb => ?_), _, rfl, ?_⟩
 ·obtain ⟨q, e1, e2⟩ := hb
  rw [aD] at e1
  cases e1
  rcases g5 with g5 | g5
  ·exact .inl (by rw [ho]; exact ⟨u, k2.1, by rw [← g5]; exact e2⟩)
  ·rw [g5] at e2; simp at e2; exact .inr (by omega)
 ·simp only [VRel]; exact ⟨aD _ _ _, pW g2⟩
theorem rW (hx : Opd S w ρ a x .nils) (h63 : news.length ≤ maxLen) (hby : news.length * by_ ≤ 140737488355328) :
  Does P S w ρ h a ty (.call { callee := .builtin .append, args := #[x, y], argTypes := #[t, t] }) (some (.sl nid)) (be h nid (.row e sz news)) (fun _ => False) := by
 obtain ⟨u, k1, k2⟩ := hx
 simp only [VRel] at k2
 subst k2
 obtain ⟨v', w', ys, g1, g2, g3, g4, g5⟩ := lN (P := P) (ty := ty) (els := []) (xs := []) fr k1 hy (World.ownsRow_nil w 0 e sz) (by simp [CRel]) hv ht hi hzs hsz (by simpa using h63) (by simpa using hby)
 have up := mu (x := v') hr hf g4
 simp only [List.length_nil, Nat.zero_add, List.nil_append] at g2 g3
 refine ⟨_, w', bP ρ nid v', g1, eff_new hr hf g4 ⟨v', ys, aD _ _ _, g2, g3.up up⟩ (fun b hb => ?_), _, rfl, ?_⟩
 ·obtain ⟨q, e1, e2⟩ := hb
  rw [aD] at e1
  cases e1
  rcases g5 with g5 | g5
  ·rw [g5] at e2; cases e2
  ·rw [g5] at e2; simp at e2; omega
 ·simp only [VRel]; exact ⟨aD _ _ _, pW g2⟩
end
theorem qa {t e : TypeId} {x y : Operand} {sz nid id k : Nat} {els : List V} (hr : HRel S w ρ h) (fr : Fr a n (fA a)) (hf : h nid = .free) (hx : Opd S w ρ a x (.sl id)) (hy : Opd S w ρ a y (.int .i64 (k : Int))) (ho : h id = .row e sz els) (ht : P.underlying t = some (.slice e)) (hz : cf P e = some sz) (hk : k ≤ els.length) :
  Does P S w ρ h a ty (.slice t x none (some y) none) (some (.sl nid)) (be (be h id .gone) nid (.row e sz (els.take k))) (· = id) := by
 obtain ⟨u, k1, k2⟩ := hx
 simp only [VRel] at k2
 obtain ⟨u', xs, h1, h2, h3⟩ := dE hr ho
 rw [k2.1] at h1
 cases h1
 obtain ⟨A, c, rfl, hc, hcm⟩ := ca h2
 have hrun := rr (P := P) (w := w) (ty := ty) (lo := none) (hi := some y) (i := 0) (j := k) fr ht hz k1 (.inl ⟨rfl, rfl⟩) (.inr ⟨y, rfl, aG hy⟩) (Nat.zero_le _) hk hc
 have eA : (if c = 0 then A else A.map (·.add (0 * sz))) = A := by
  split
  ·rfl
  ·cases A with
   | none => rfl
   | some ad => simp [Addr.add]
 rw [eA] at hrun
 simp only [Nat.sub_zero] at hrun
 have hn : ρ nid = none := by have := hr.ob nid; rw [hf] at this; exact this
 have up : Up S S w w ρ (bP ρ nid (.slice A k c)) := by
  refine ⟨fun _ h => h, fun b hb hlt => rfl, fun i q hq => ?_⟩
  have : i ≠ nid := fun e => by subst e; rw [hn] at hq; cases hq
  rw [fN _ _ this]; exact hq
 have hlen : (els.take k).length = k := by simp; omega
 have own' : w.ownsRow 0 e sz (.slice A k c) k (xs.take (k * sz)) := by
  have hmul : k * sz ≤ els.length * sz := Nat.mul_le_mul_right _ hk
  refine ⟨by rw [List.length_take, h2.1, Nat.min_eq_left hmul], ?_⟩
  rcases h2.2 with ⟨h0, h0'⟩ | ⟨g, cap, cur, hv, q1, q2, q3, q4, q5, q6⟩
  ·injection h0 with e1 e2 e3
   subst e1 e3
   exact .inl ⟨by rw [show k = 0 by omega], by omega⟩
  ·injection hv with e1 e2 e3
   subst e1 e3
   refine .inr ⟨g, c, cur, rfl, q1, q2, by omega, q4, q5, ?_⟩
   rw [← q6, List.take_take, Nat.min_eq_left hmul]
 refine ⟨_, w, bP ρ nid (.slice A k c), hrun, oY (X := []) hr hf (by rw [ho]; simp) (Chg.refl _ _) (by simp) ⟨_, _, aD _ _ _, by rw [hlen]; exact own', (h3.take k).up up⟩ (fun b hb => ?_), _, rfl, ?_⟩
 ·obtain ⟨q, e1, e2⟩ := hb
  rw [aD] at e1
  cases e1
  exact .inl (by rw [ho]; exact ⟨_, k2.1, by cases A <;> simp [Value.ownBlock] at e2 ⊢; exact e2⟩)
 ·simp only [VRel]; exact ⟨aD _ _ _, rfl⟩
theorem cC {id : Nat} (hr : HRel S w ρ h) : HRel (fun b => S b ∨ own ρ id (h id) b) w ρ (be h id .gone) ∧ Up S (fun b => S b ∨ own ρ id (h id) b) w w ρ ρ := by
 have up : Up S (fun b => S b ∨ own ρ id (h id) b) w w ρ ρ := ⟨fun _ h => .inl h, fun _ _ _ => rfl, fun _ _ h => h⟩
 have back : ∀ i b, own ρ i (be h id .gone i) b → i ≠ id ∧ own ρ i (h i) b := fun i b hb => by
  by_cases hi : i = id
  ·subst hi; rw [aK] at hb; exact hb.elim
  ·rw [aV _ _ hi] at hb; exact ⟨hi, hb⟩
 refine ⟨⟨fun i => ?_, fun i b hb => ?_, fun i j b hbi hbj => hr.dis i j b (back i b hbi).2 (back j b hbj).2, fun b hb => ?_⟩, up⟩
 ·by_cases hi : i = id
  ·subst hi; rw [aK]; trivial
  ·rw [aV _ _ hi]
   refine (hr.ob i).up up (fun hf => ?_) (fun _ _ => rfl)
   have := hr.ob i; rw [hf] at this; exact this
 ·obtain ⟨h1, h2⟩ := back i b hb
  rintro (h3 | h3)
  ·exact hr.sep i b h2 h3
  ·exact h1 (hr.dis i id b h2 h3)
 ·rcases hb with hb | hb
  ·exact hr.slt b hb
  ·exact cd (hr.ob id) hb
theorem ml {id sz : Nat} {e : TypeId} {els : List V} {x : Value} (hr : HRel S w ρ h) (ho : h id = .row e sz els) (hp : pureL els = true) (hx : VRel S w ρ (.sl id) x) : VRel (fun b => S b ∨ own ρ id (h id) b) w ρ (.row sz els) x := by
 simp only [VRel] at hx
 obtain ⟨v, xs, h1, h2, h3⟩ := dE hr ho
 rw [hx.1] at h1
 cases h1
 obtain ⟨A, c, rfl, hc, hcm⟩ := ca h2
 simp only [VRel]
 refine ⟨A, c, xs, rfl, hc, hcm, (h3.up (cC hr).2).pure hp, h3.length, fun hn => ?_⟩
 obtain ⟨g, cap, hv, _, hlt⟩ := h2.form hn
 injection hv with e1 e2 e3
 subst e1 e3
 exact ⟨g, 0, rfl, .inr (by rw [ho]; exact ⟨_, hx.1, rfl⟩), hlt, fun j hj => by rw [Nat.zero_add]; exact jx h2 hj⟩
theorem qB {id o : Nat} {t : TypeId} {cs : List V} {x : Value} (hr : HRel S w ρ h) (ho : h id = .var t cs) (hp : pureL cs = true) (hx : VRel S w ρ (.ptr id o) x) : VRel (fun b => S b ∨ own ρ id (h id) b) w ρ (.box cs o) x := by
 simp only [VRel] at hx
 obtain ⟨b, xs, h1, h2, h3⟩ := il hr ho
 obtain ⟨b', h4, rfl⟩ := hx
 rw [h1] at h4
 simp only [Option.some.injEq, Value.pointer.injEq, Addr.mk.injEq, and_true] at h4
 subst h4
 simp only [VRel]
 exact ⟨b, 0, xs, by simp, .inr (by rw [ho]; exact h1), h2.lt, (h3.up (cC hr).2).pure hp, fun j hj => by rw [Nat.zero_add, h2.cell]⟩
end
end Go.Proofs.YthnohcipianijaaGreatDoor
namespace Go.Proofs.YthnohcipianijaaGreatDoor
open Go.RowKit
abbrev Fm := List (Option V)
def Fm.get : Fm → Nat → Option V
 | [], _ => none
 | x :: _, 0 => x
 | _ :: r, i + 1 => Fm.get r i
def Fm.put {α : Type} : Fm → Nat → Option V → (Fm → α) → α
 | [], _, _, c => c []
 | _ :: r, 0, v, c => c (v :: r)
 | x :: r, i + 1, v, c => Fm.put r i v fun r' => c (x :: r')
def Fm.puto {α : Type} (F : Fm) (d : Option Tmp) (v : Option V) (c : Fm → α) : α := match d with
 | some d => F.put d v c
 | none => c F
def ch {α : Type} (n : Nat) (c : Nat → α) : α := match n with
 | 0 => c 0
 | m + 1 => c (Nat.succ m)
def qH {α : Type} (n : Int) (c : Int → α) : α := match n with
 | .ofNat m => ch m fun m => c (.ofNat m)
 | .negSucc m => ch m fun m => c (.negSucc m)
def listK {α β : Type} : List β → (List β → α) → α
 | [], c => c []
 | x :: r, c => listK r fun r' => c (x :: r')
theorem bn {α : Type} (n : Nat) (c : Nat → α) : ch n c = c n := by cases n <;> rfl
theorem qd {α : Type} (n : Int) (c : Int → α) : qH n c = c n := by cases n <;> simp [qH, bn]
theorem aW {α β : Type} : ∀ (l : List β) (c : List β → α), listK l c = c l
 | [], c => rfl
 | x :: r, c => by simp [listK, aW r]
theorem Fm.get_eq : ∀ (F : Fm) (i : Nat), F.get i = (F[i]?).bind id
 | [], i => by simp [Fm.get]
 | x :: r, 0 => by simp [Fm.get]
 | x :: r, i + 1 => by simp [Fm.get, Fm.get_eq r i]
theorem Fm.put_eq {α : Type} : ∀ (F : Fm) (i : Nat) (v : Option V) (c : Fm → α), F.put i v c = c (F.set i v)
 | [], i, v, c => by simp [Fm.put]
 | x :: r, 0, v, c => by simp [Fm.put]
 | x :: r, i + 1, v, c => by simp [Fm.put, Fm.put_eq r i]
def Fm.seto (F : Fm) (d : Option Tmp) (v : Option V) : Fm := match d with
 | some d => F.set d v
 | none => F
theorem Fm.puto_eq {α : Type} (F : Fm) (d : Option Tmp) (v : Option V) (c : Fm → α) : F.puto d v c = c (F.seto d v) := by
 cases d with
 | none => rfl
 | some d => exact Fm.put_eq F d v c
inductive TK where
 | sc
 | bool
 | str
 | sl (e : TypeId)
 | struct (fs : List (Nat × Nat × Bool))
 | arr (len : Nat) (e : TypeId)
structure TD where
 size : Nat
 bytes : Nat
 zero : V
 kind : TK
structure Tab where
 frc : Bool
 ty : TypeId → Option TD
 fn : FuncId → Option Func
 nat : FuncId → List V → Option V
 keep : FuncId → Bool
def rc : Value → V → Bool
 | .int k n, .int k' m => k == k' && n == m
 | .bool b, .bool c => b == c
 | .string s, .str l => s.data.toList == l
 | .pointer none, .nilp => true
 | .slice none 0 0, .nils => true
 | .map none, .raw (.map none) => true
 | _, _ => false
def rn : List Value → List V → Bool
 | [], [] => true
 | x :: r, v :: q => rc x v && rn r q
 | _, _ => false
def zEq : Value → V → Bool
 | .agg cs, .agg vs => rn cs.toList vs
 | x, v => rc x v
def jh (P : Program) (t : TypeId) : Nat → List (Nat × Nat × Bool) → Bool
 | _, [] => true
 |i, (o, s, b) :: r => (match b with
  | true => hI P t i == some o
  | false => iq P t i == some (o, s)) && fD P t i == some o && jh P t (i + 1) r
def eo (P : Program) (t : TypeId) (size : Nat) : TK → Bool
 | .sc => bH P t
 | .bool => bH P t && match P.underlying t with | some .bool => true | _ => false
 | .str => bH P t && match P.underlying t with | some .string => true | _ => false
 | .sl e => bH P t && match P.underlying t with | some (.slice e') => e == e' | _ => false
 | .struct fs => fh P t == some size && kB P t == some (fs.map fun p => (p.1, p.2.1)) && jh P t 0 fs
 | .arr len e => fh P t == some size && match P.underlying t with | some (.array len' e') => len == len' && e == e' | _ => false
def tdB (P : Program) (t : TypeId) (d : TD) : Bool :=
 match P.info? t with
 |some inf => match inf.zero with
  | some z => inf.size == d.size && inf.bytes == d.bytes && zEq z d.zero && z.cells.size == d.size && eo P t d.size d.kind && z.cells.toList.all (·.oneCell')
  | none => false
 | none => false
structure TdOk (P : Program) (t : TypeId) (d : TD) : Prop where
 size : cf P t = some d.size
 info : ∃ z : Value, (P.info? t).map (fun i => (i.zero, i.size, i.bytes)) = some (some z, d.size, d.bytes) ∧ (∀ S w ρ, VRel S w ρ d.zero z) ∧ z.cells.size = d.size ∧ z.cells.toList.all (·.oneCell') = true
 kind : eo P t d.size d.kind = true
theorem qe {S : Nat → Prop} {w : World} {ρ : Nat → Option Value} {x : Value} {v : V} (h : rc x v = true) : VRel S w ρ v x := by
 unfold rc at h
 split at h
 ·simp only [Bool.and_eq_true, beq_iff_eq] at h; simp only [VRel]; rw [h.1, h.2]
 ·simp only [beq_iff_eq] at h; simp only [VRel]; rw [h]
 ·simp only [beq_iff_eq] at h; simp only [VRel]; rw [← h]
 ·simp only [VRel]
 ·simp only [VRel]
 ·simp only [VRel]; exact ⟨trivial, rfl⟩
 ·cases h
theorem qc {S : Nat → Prop} {w : World} {ρ : Nat → Option Value} : ∀ {xs : List Value} {vs : List V}, rn xs vs = true → LRel S w ρ vs xs
 | [], [], h => by simp [LRel]
 | x :: r, v :: q, h => by
  simp only [rn, Bool.and_eq_true] at h
  exact ⟨x, r, rfl, qe h.1, qc h.2⟩
 | [], _ :: _, h => by cases h
 | _ :: _, [], h => by cases h
theorem wr {S : Nat → Prop} {w : World} {ρ : Nat → Option Value} {x : Value} {v : V} (h : zEq x v = true) : VRel S w ρ v x := by
 unfold zEq at h
 split at h
 ·simp only [VRel]; exact ⟨_, rfl, qc h⟩
 ·exact qe h
theorem wu {P : Program} {t : TypeId} {d : TD} (h : tdB P t d = true) : TdOk P t d := by
 unfold tdB at h
 split at h
 ·rename_i inf hi
  split at h
  ·rename_i z hz
   simp only [Bool.and_eq_true, beq_iff_eq] at h
   obtain ⟨⟨⟨⟨⟨h1, h2⟩, h3⟩, h4⟩, h5⟩, h6⟩ := h
   exact ⟨by simp [cf, hi, h1], ⟨z, by simp [hi, hz, h1, h2], fun S w ρ => wr h3, h4, h6⟩, h5⟩
  ·cases h
 ·cases h
theorem TdOk.zeroT {P : Program} {t : TypeId} {d : TD} (h : TdOk P t d) : ∃ z, fo P t = some z ∧ ∀ S w ρ, LRel S w ρ d.zero.cells z := by
 obtain ⟨z, h1, h2, _⟩ := h.info
 obtain ⟨i0, hi0, hx0⟩ := Option.map_eq_some_iff.1 h1
 simp only [Prod.mk.injEq] at hx0
 exact ⟨z.cells.toList, by unfold Go.Proofs.YthnohcipianijaaGreatDoor.fo; simp [hi0, hx0.1], fun S w ρ => (h2 S w ρ).cells⟩
def TD.agg (d : TD) : Bool := match d.kind with
 | .struct _ => true
 | .arr _ _ => true
 | _ => false
theorem TdOk.sc {P : Program} {t : TypeId} {d : TD} (h : TdOk P t d) (ha : d.agg = false) : bH P t = true := by
 have hk := h.kind
 unfold TD.agg at ha
 cases hd : d.kind with
 | sc => rw [hd] at hk; exact hk
 | bool => rw [hd] at hk; simp only [eo, Bool.and_eq_true] at hk; exact hk.1
 | str => rw [hd] at hk; simp only [eo, Bool.and_eq_true] at hk; exact hk.1
 | sl e => rw [hd] at hk; simp only [eo, Bool.and_eq_true] at hk; exact hk.1
 | struct fs => rw [hd] at ha; cases ha
 | arr _ _ => rw [hd] at ha; cases ha
theorem TdOk.ag {P : Program} {t : TypeId} {d : TD} (h : TdOk P t d) (ha : d.agg = true) : fh P t = some d.size := by
 have hk := h.kind
 unfold TD.agg at ha
 cases hd : d.kind with
 | struct fs => rw [hd] at hk; simp only [eo, Bool.and_eq_true, beq_iff_eq] at hk; exact hk.1.1
 | arr _ _ => rw [hd] at hk; simp only [eo, Bool.and_eq_true, beq_iff_eq] at hk; exact hk.1
 | _ => rw [hd] at ha; cases ha
theorem TdOk.bool {P : Program} {t : TypeId} {d : TD} (h : TdOk P t d) (hd : d.kind = .bool) : P.underlying t = some .bool := by
 have hk := h.kind
 rw [hd] at hk; simp only [eo, Bool.and_eq_true] at hk
 have := hk.2
 split at this
 ·assumption
 ·cases this
theorem TdOk.str {P : Program} {t : TypeId} {d : TD} (h : TdOk P t d) (hd : d.kind = .str) : P.underlying t = some .string := by
 have hk := h.kind
 rw [hd] at hk; simp only [eo, Bool.and_eq_true] at hk
 have := hk.2
 split at this
 ·assumption
 ·cases this
theorem TdOk.sl {P : Program} {t e : TypeId} {d : TD} (h : TdOk P t d) (hd : d.kind = .sl e) : P.underlying t = some (.slice e) := by
 have hk := h.kind
 rw [hd] at hk; simp only [eo, Bool.and_eq_true] at hk
 have := hk.2
 split at this
 ·rename_i e' hu; simp only [beq_iff_eq] at this; rw [this]; exact hu
 ·cases this
theorem TdOk.arr {P : Program} {t e : TypeId} {n : Nat} {d : TD} (h : TdOk P t d) (hd : d.kind = .arr n e) : P.underlying t = some (.array n e) := by
 have hk := h.kind
 rw [hd] at hk; simp only [eo, Bool.and_eq_true] at hk
 have := hk.2
 split at this
 ·rename_i n' e' hu; simp only [Bool.and_eq_true, beq_iff_eq] at this; rw [this.1, this.2]; exact hu
 ·cases this
theorem mo {P : Program} {t : TypeId} : ∀ {fs : List (Nat × Nat × Bool)} {k : Nat}, jh P t k fs = true → ∀ i o s b, fs[i]? = some (o, s, b) → fD P t (k + i) = some o ∧ (b = true → hI P t (k + i) = some o) ∧ (b = false → iq P t (k + i) = some (o, s))
 | [], k, h, i, o, s, b, hi => by simp at hi
 | (o', s', b') :: r, k, h, 0, o, s, b, hi => by
  simp only [List.getElem?_cons_zero, Option.some.injEq, Prod.mk.injEq] at hi
  obtain ⟨rfl, rfl, rfl⟩ := hi
  simp only [jh, Bool.and_eq_true, beq_iff_eq] at h
  refine ⟨h.1.2, fun hb => ?_, fun hb => ?_⟩
  ·subst hb; have := h.1.1; simpa using this
  ·subst hb; have := h.1.1; simpa using this
 | (o', s', b') :: r, k, h, i + 1, o, s, b, hi => by
  simp only [jh, Bool.and_eq_true] at h
  have := mo h.2 i o s b (by simpa using hi)
  rw [show k + 1 + i = k + (i + 1) by omega] at this
  exact this
theorem TdOk.fields {P : Program} {t : TypeId} {d : TD} {fs : List (Nat × Nat × Bool)} (h : TdOk P t d) (hd : d.kind = .struct fs) : kB P t = some (fs.map fun p => (p.1, p.2.1)) ∧ ∀ i o s b, fs[i]? = some (o, s, b) → fD P t i = some o ∧ (b = true → hI P t i = some o) ∧ (b = false → iq P t i = some (o, s)) := by
 have hk := h.kind
 rw [hd] at hk; simp only [eo, Bool.and_eq_true, beq_iff_eq] at hk
 refine ⟨hk.1.2, fun i o s b hi => ?_⟩
 have := mo hk.2 i o s b hi
 rwa [Nat.zero_add] at this
structure TabOk (P : Program) (T : Tab) : Prop where
 ty : ∀ t d, T.ty t = some d → TdOk P t d
 fn : ∀ i f, T.fn i = some f → P.funcs[i]? = some f ∧ bI P i = true
 nat : ∀ i vs v, T.nat i vs = some v → bI P i = true ∧ ∀ S w ρ xs, LRel S w ρ vs xs → ∃ x, VRel S w ρ v x ∧ Calls P i xs.toArray w fun e w' => e = .returned x ∧ w = w'
structure FRel (S : Nat → Prop) (w : World) (ρ : Nat → Option Value) (a : Act) (n : Nat) (F : Fm) : Prop where
 size : a.tmps.size = n
 defers : a.defers = []
 len : F.length ≤ n
 get : ∀ i v, F.get i = some v → ∃ x, a.tmps[i]? = some x ∧ VRel S w ρ v x
section
variable {S S' : Nat → Prop} {w w' : World} {ρ ρ' : Nat → Option Value} {a : Act} {n : Nat} {F : Fm}
theorem FRel.fr (h : FRel S w ρ a n F) : Fr a n (fA a) := ⟨h.size, h.defers, fun _ _ h => h⟩
theorem FRel.up (u : Up S S' w w' ρ ρ') (h : FRel S w ρ a n F) : FRel S' w' ρ' a n F :=
 ⟨h.size, h.defers, h.len, fun i v hv => by obtain ⟨x, h1, h2⟩ := h.get i v hv; exact ⟨x, h1, h2.up u⟩⟩
theorem FRel.set (h : FRel S w ρ a n F) (d : Option Tmp) {v : Option V} {x : Value} (hx : ∀ u, v = some u → VRel S w ρ u x) : FRel S w ρ (a.put d x) n (F.seto d v) := by
 cases d with
 | none => exact h
 | some d =>
  refine ⟨by simp [Act.put, h.size], h.defers, by simp [Fm.seto]; exact h.len, fun i u hu => ?_⟩
  simp only [Fm.seto, Fm.get_eq, List.getElem?_set] at hu
  simp only [Act.put, Array.getElem?_setIfInBounds, h.size]
  by_cases hid : d = i
  ·subst hid
   simp only [if_true] at hu ⊢
   split at hu
   ·rename_i hlt
    simp only [Option.bind_some, id_eq] at hu
    exact ⟨x, by simp [Nat.lt_of_lt_of_le hlt h.len], hx u hu⟩
   ·cases hu
  ·simp only [if_neg hid] at hu ⊢
   exact h.get i u (by rw [Fm.get_eq]; exact hu)
end
def qt : Value → Option V
 | .int k n => some (.int k n)
 | .bool b => some (.bool b)
 | .string s => some (.str s.data.toList)
 | .pointer none => some .nilp
 | .slice none 0 0 => some .nils
 | _ => none
def nX : List Value → Option (List V)
 | [] => some []
 |v :: r => match qt v with
  |some x => match nX r with
   | some xs => some (x :: xs)
   | none => none
  | none => none
def ofV : Value → Option V
 |.agg cs => match nX cs.toList with
  | some l => some (.agg l)
  | none => none
 | v => qt v
def az (F : Fm) : Operand → Option V
 | .tmp t => F.get t
 | .const v => ofV v
 | _ => none
def db (F : Fm) : List Operand → Option (List V)
 | [] => some []
 |x :: r => match az F x with
  |some v => match db F r with
   | some vs => some (v :: vs)
   | none => none
  | none => none
def eg (F : Fm) : List (Nat × Operand) → Option (List (Nat × V))
 | [] => some []
 |(i, x) :: r => match az F x with
  |some v => match eg F r with
   | some vs => some ((i, v) :: vs)
   | none => none
  | none => none
section
variable {S S' : Nat → Prop} {w w' : World} {ρ ρ' : Nat → Option Value} {a : Act} {n : Nat} {F : Fm}
theorem pz {x : Value} {v : V} (h : qt x = some v) : VRel S w ρ v x := by
 unfold qt at h
 split at h <;> first | (simp only [Option.some.injEq] at h; subst h; simp only [VRel]; done) | cases h
theorem pA : ∀ {xs : List Value} {vs : List V}, nX xs = some vs → LRel S w ρ vs xs
 | [], vs, h => by simp only [nX, Option.some.injEq] at h; subst h; simp [LRel]
 | x :: r, vs, h => by
  simp only [nX] at h
  split at h
  ·rename_i v hv
   split at h
   ·rename_i us hu
    simp only [Option.some.injEq] at h; subst h
    exact ⟨x, r, rfl, pz hv, pA hu⟩
   ·cases h
  ·cases h
theorem vV {x : Value} {v : V} (h : ofV x = some v) : VRel S w ρ v x := by
 unfold ofV at h
 split at h
 ·split at h
  ·rename_i l hl
   simp only [Option.some.injEq] at h; subst h
   simp only [VRel]; exact ⟨_, rfl, pA hl⟩
  ·cases h
 ·exact pz h
theorem al (hF : FRel S w ρ a n F) {x : Operand} {v : V} (h : az F x = some v) : Opd S w ρ a x v := by
 unfold az at h
 split at h
 ·rename_i t
  obtain ⟨y, h1, h2⟩ := hF.get t v h
  exact ⟨y, h1, h2⟩
 ·rename_i c
  exact ⟨c, rfl, vV h⟩
 ·cases h
theorem fK (hF : FRel S w ρ a n F) : ∀ {l : List Operand} {vs : List V}, db F l = some vs → ∃ xs, kG (fA a) l = some xs ∧ LRel S w ρ vs xs
 | [], vs, h => by simp only [db, Option.some.injEq] at h; subst h; exact ⟨[], rfl, by simp [LRel]⟩
 | x :: r, vs, h => by
  simp only [db] at h
  split at h
  ·rename_i v hv
   split at h
   ·rename_i us hu
    simp only [Option.some.injEq] at h; subst h
    obtain ⟨y, h1, h2⟩ := al hF hv
    obtain ⟨ys, h3, h4⟩ := fK hF hu
    exact ⟨y :: ys, by simp only [kG, h1, h3], ⟨y, ys, rfl, h2, h4⟩⟩
   ·cases h
  ·cases h
theorem gl (hF : FRel S w ρ a n F) : ∀ {l : List (Nat × Operand)} {vs : List (Nat × V)}, eg F l = some vs → ∃ ys, bV (fA a) l = some ys ∧ PRel S w ρ vs ys
 | [], vs, h => by simp only [eg, Option.some.injEq] at h; subst h; exact ⟨[], rfl, by simp [PRel]⟩
 | (i, x) :: r, vs, h => by
  simp only [eg] at h
  split at h
  ·rename_i v hv
   split at h
   ·rename_i us hu
    simp only [Option.some.injEq] at h; subst h
    obtain ⟨y, h1, h2⟩ := al hF hv
    obtain ⟨ys, h3, h4⟩ := gl hF hu
    exact ⟨(i, y) :: ys, by simp only [bV, h1, h3], ⟨y, ys, rfl, h2, h4⟩⟩
   ·cases h
  ·cases h
end
end Go.Proofs.YthnohcipianijaaGreatDoor
namespace Go.Proofs.YthnohcipianijaaGreatDoor
open Go.RowKit
def iEq : Int → Int → Bool
 | .ofNat a, .ofNat b => Nat.beq a b
 | .negSucc a, .negSucc b => Nat.beq a b
 | _, _ => false
def iLt : Int → Int → Bool
 | .ofNat a, .ofNat b => Nat.blt a b
 | .negSucc a, .negSucc b => Nat.blt b a
 | .negSucc _, .ofNat _ => true
 | .ofNat _, .negSucc _ => false
def inR : Int → Bool
 | .ofNat a => Nat.ble a 9223372036854775807
 | .negSucc a => Nat.ble a 9223372036854775807
def lEq : List UInt8 → List UInt8 → Bool
 | [], [] => true
 |a :: r, b :: q => match Nat.beq a.toNat b.toNat with
  | true => lEq r q
  | false => false
 | _, _ => false
def kEq : IntKind → IntKind → Bool
 | .i64, .i64 => true
 | .u8, .u8 => true
 | _, _ => false
theorem ke (m l : Int) : iEq m l = (m == l) := by
 rw [Bool.eq_iff_iff]; cases m <;> cases l <;> simp [iEq] <;> omega
theorem jc (m l : Int) : iLt m l = decide (m < l) := by
 rw [Bool.eq_iff_iff]; cases m <;> cases l <;> simp [iLt] <;> omega
theorem vS {n : Int} (h : inR n = true) : -9223372036854775808 ≤ n ∧ n ≤ 9223372036854775807 := by
 cases n with
 | ofNat a => simp only [inR, Nat.ble_eq] at h; simp only [Int.ofNat_eq_natCast]; omega
 | negSucc a => simp only [inR, Nat.ble_eq] at h; omega
theorem jf : ∀ (m l : List UInt8), lEq m l = (m == l)
 | [], [] => rfl
 | [], _ :: _ => rfl
 | _ :: _, [] => rfl
 | a :: r, b :: q => by
  simp only [lEq]
  split
  ·rename_i hb
   have : a = b := UInt8.toNat_inj.1 (Nat.eq_of_beq_eq_true hb)
   subst this
   simp [jf r q]
  ·rename_i hb
   have : a ≠ b := fun e => by subst e; simp at hb
   simp [this]
theorem wC {k k' : IntKind} (h : kEq k k' = true) : k = k' := by
 unfold kEq at h; split at h <;> first | rfl | cases h
def mkB (b : Bool) : Option V := match b with
 | true => some (.bool true)
 | false => some (.bool false)
theorem wn (b : Bool) : mkB b = some (.bool b) := by cases b <;> rfl
def ga (f : Bool) (fast slow : Bool) : Option V := match f with
 | true => mkB fast
 | false => some (.bool slow)
theorem cR {f fast slow : Bool} {v : V} (he : fast = slow) (h : ga f fast slow = some v) : v = .bool slow := by
 subst he
 unfold ga at h
 split at h
 ·rw [wn] at h; simpa using h.symm
 ·simpa using h.symm
def qk (f : Bool) (k : IntKind) (n : Int) : Option V := match f with
 |true => match k with
  |.i64 => qH n fun n => match inR n with
   | true => some (.int .i64 n)
   | false => none
  | _ => none
 | false => some (.int k (k.wrap n))
theorem qb {f : Bool} {k : IntKind} {n : Int} {v : V} (h : qk f k n = some v) : v = .int k (k.wrap n) := by
 unfold qk at h
 split at h
 ·split at h
  ·rw [qd] at h
   split at h
   ·rename_i hr
    have e : IntKind.i64.wrap n = n := IntWalk.i64_in _ (by have := vS hr; omega)
    rw [e]; simpa using h.symm
   ·cases h
  ·cases h
 ·simpa using h.symm
def tD (T : Tab) (op : BinOp) (t : TypeId) : V → V → Option V
 |.int k m, .int k' l => match kEq k k' with
  | false => none
  |true => match op with
   | .eql => ga T.frc (iEq m l) (m == l)
   | .neq => ga T.frc (!iEq m l) (m != l)
   | .lss => ga T.frc (iLt m l) (decide (m < l))
   | .gtr => ga T.frc (iLt l m) (decide (l < m))
   | .leq => ga T.frc (!iLt l m) (decide (m ≤ l))
   | .geq => ga T.frc (!iLt m l) (decide (l ≤ m))
   | .add => qk T.frc k (m + l)
   | .sub => qk T.frc k (m - l)
   | _ => none
 |.str m, .str l => match op with
  | .eql => ga T.frc (lEq m l) (m == l)
  | .neq => ga T.frc (!lEq m l) (m != l)
  |.add => match T.frc with
   |true => match Nat.ble (m.length + l.length) 9223372036854775807 with
    | true => listK (m ++ l) fun r => some (.str r)
    | false => none
   | false => none
  | _ => none
 |.bool m, .bool l => match T.ty t with
  |some ⟨_, _, _, .bool⟩ => match op with
   | .eql => ga T.frc (m == l) (m == l)
   | .neq => ga T.frc (m != l) (m != l)
   | _ => none
  | _ => none
 | _, _ => none
def atV : List V → Nat → Option V
 | [], _ => none
 | x :: _, 0 => some x
 | _ :: r, i + 1 => atV r i
theorem fp : ∀ (l : List V) (i : Nat), atV l i = l[i]?
 | [], i => by simp [atV]
 | x :: r, 0 => by simp [atV]
 | x :: r, i + 1 => by simp [atV, fp r i]
def atB : List UInt8 → Nat → Option UInt8
 | [], _ => none
 | x :: _, 0 => some x
 | _ :: r, i + 1 => atB r i
theorem rz : ∀ (l : List UInt8) (i : Nat), atB l i = l[i]?
 | [], i => by simp [atB]
 | x :: r, 0 => by simp [atB]
 | x :: r, i + 1 => by simp [atB, rz r i]
def atF : List (Nat × Nat × Bool) → Nat → Option (Nat × Nat × Bool)
 | [], _ => none
 | x :: _, 0 => some x
 | _ :: r, i + 1 => atF r i
theorem oL : ∀ (l : List (Nat × Nat × Bool)) (i : Nat), atF l i = l[i]?
 | [], i => by simp [atF]
 | x :: r, 0 => by simp [atF]
 | x :: r, i + 1 => by simp [atF, oL r i]
def qx (T : Tab) (t : TypeId) (i : Nat) : Option (Nat × Nat × Bool) := match T.ty t with
 | some ⟨_, _, _, .struct fs⟩ => atF fs i
 | _ => none
def kJ : List V → Nat → List V
 | l, 0 => l
 | [], _ + 1 => []
 | _ :: r, i + 1 => kJ r i
theorem jL : ∀ (l : List V) (i : Nat), kJ l i = l.drop i
 | [], 0 => rfl
 | _ :: _, 0 => rfl
 | [], i + 1 => by simp [kJ]
 | _ :: r, i + 1 => by simp [kJ, jL r i]
def jJ {α : Type} : List V → Nat → (List V → Option α) → Option α
 | _, 0, c => c []
 | [], _ + 1, _ => none
 | x :: r, i + 1, c => jJ r i fun r' => c (x :: r')
theorem js {α : Type} : ∀ {l : List V} {i : Nat} {c : List V → Option α} {v : α}, jJ l i c = some v → i ≤ l.length ∧ c (l.take i) = some v
 | l, 0, c, v, h => by simpa [jJ] using h
 | [], i + 1, c, v, h => by simp [jJ] at h
 | x :: r, i + 1, c, v, h => by
  simp only [jJ] at h
  have := js h
  simpa using this
def gd (d : TD) (cs : List V) (o : Nat) : Option V := match d.agg with
 |true => match Nat.blt 0 d.size with
  | true => jJ (kJ cs o) d.size fun l => some (.agg l)
  | false => none
 | false => atV cs o
def sF (f : Bool) (m l : Int) : Option V := match f with
 |true => match iLt m l with
  | true => some (.int .i64 l)
  | false => some (.int .i64 m)
 | false => some (.int .i64 (max m l))
theorem uT {f : Bool} {m l : Int} {v : V} (h : sF f m l = some v) : v = .int .i64 (max m l) := by
 unfold sF at h
 split at h
 ·split at h
  ·rename_i hb
   rw [jc] at hb
   simp only [decide_eq_true_eq] at hb
   injection h with h; rw [← h, Int.max_eq_right (by omega)]
  ·rename_i hb
   rw [jc] at hb
   simp only [decide_eq_false_iff_not] at hb
   injection h with h; rw [← h, Int.max_eq_left (by omega)]
 ·injection h with h; exact h.symm
def fu (T : Tab) (h : Nat → Ob) (F : Fm) (op : Op) : Option V :=
 match op with
 | .move x => az F x
 | .assign x => az F x
 |.pick c x y => match az F c with
  | some (.bool true) => az F x
  | some (.bool false) => az F y
  | _ => none
 |.nilCheck x => match az F x with
  | some (.ptr id o) => some (.ptr id o)
  | some (.el id sz i o) => some (.el id sz i o)
  | some (.box cs o) => some (.box cs o)
  | _ => none
 |.extract x i => match az F x with
  | some (.tup vs) => atV vs i
  | _ => none
 |.unOp .not _ x => match az F x with
  | some (.bool b) => ga T.frc (!b) (!b)
  | _ => none
 |.fieldAddr t x i => match qx T t i with
  |some (k, _, _) => match az F x with
   | some (.ptr id o) => ch (o + k) fun r => some (.ptr id r)
   | some (.el id sz j o) => ch (o + k) fun r => some (.el id sz j r)
   | some (.box cs o) => ch (o + k) fun r => some (.box cs r)
   | _ => none
  | none => none
 |.field t x i => match az F x with
  |some (.agg cs) => match qx T t i with
   | some (k, _, true) => atV cs k
   | some (k, m, false) => jJ (kJ cs k) m fun l => some (.agg l)
   | none => none
  | _ => none
 |.binOp op t x y _ => match az F x with
  |some a => match az F y with
   | some b => tD T op t a b
   | none => none
  | none => none
 |.call ⟨.builtin .len, ⟨[x]⟩, ⟨[t]⟩⟩ => match T.ty t with
  |some ⟨_, _, _, .sl _⟩ => match az F x with
   | some .nils => some (.int .i64 0)
   |some (.row _ els) => match T.frc with
    | true => ch els.length fun n => some (.int .i64 (.ofNat n))
    | false => some (.int .i64 els.length)
   |some (.sl id) => match h id with
    |.row _ _ els => match T.frc with
     | true => ch els.length fun n => some (.int .i64 (.ofNat n))
     | false => some (.int .i64 els.length)
    | _ => none
   | _ => none
  |some ⟨_, _, _, .str⟩ => match az F x with
   |some (.str l) => match T.frc with
    | true => ch l.length fun n => some (.int .i64 (.ofNat n))
    | false => some (.int .i64 l.length)
   | _ => none
  | _ => none
 |.call ⟨.builtin .max, ⟨[x, y]⟩, ⟨[t, u]⟩⟩ => match az F x with
  |some (.int .i64 m) => match az F y with
   | some (.int .i64 l) => sF T.frc m l
   | _ => none
  | _ => none
 |.index t x y => match T.ty t with
  |some ⟨_, _, _, .str⟩ => match az F x with
   |some (.str l) => match az F y with
    |some (.int .i64 (.ofNat i)) => match atB l i with
     | some c => ch c.toNat fun c => some (.int .u8 (.ofNat c))
     | none => none
    | _ => none
   | _ => none
  | _ => none
 |.indexAddr t x y => match T.ty t with
  |some ⟨_, _, _, .sl e⟩ => match T.ty e with
   |some d => match az F x with
    |some (.row sz els) => match az F y with
     |some (.int .i64 (.ofNat i)) => match Nat.beq sz d.size with
      |true => match atV els i with
       | some v => listK v.cells fun cs => some (.box cs 0)
       | none => none
      | false => none
     | _ => none
    |some (.sl id) => match h id with
     |.row _ sz els => match az F y with
      |some (.int .i64 (.ofNat i)) => match Nat.beq sz d.size && Nat.blt i els.length with
       | true => some (.el id sz i 0)
       | false => none
      | _ => none
     | _ => none
    | _ => none
   | none => none
  | _ => none
 |.build t ⟨ps⟩ => match T.ty t with
  |some ⟨_, _, z, .struct fs⟩ => match eg F ps with
   |some vs => match iy (fun i => match atF fs i with | some (o, s, _) => some (o, s) | none => none) z.cells vs with
    | some cs => listK cs fun cs => some (.agg cs)
    | none => none
   | none => none
  |some ⟨_, _, z, .arr _ e⟩ => match T.ty e with
   |some d => match eg F ps with
    |some vs => match iy (fun i => some (i * d.size, d.size)) z.cells vs with
     | some cs => listK cs fun cs => some (.agg cs)
     | none => none
    | none => none
   | none => none
  | _ => none
 |.slice t x lo hi none => match T.ty t with
  |some ⟨_, _, _, .str⟩ => match az F x with
   |some (.str l) => match (match lo with | none => some (V.int .i64 (.ofNat 0)) | some y => az F y) with
    |some (.int .i64 (.ofNat i)) => match (match hi with | none => some (V.int .i64 (.ofNat l.length)) | some y => az F y) with
     |some (.int .i64 (.ofNat j)) => match Nat.ble i j && Nat.ble j l.length with
      | true => listK ((l.drop i).take (j - i)) fun r => some (.str r)
      | false => none
     | _ => none
    | _ => none
   | _ => none
  |some ⟨_, _, _, .sl e⟩ => match T.ty e with
   |some d => match az F x with
    |some (.row sz els) => match (match lo with | none => some (V.int .i64 (.ofNat 0)) | some y => az F y) with
     |some (.int .i64 (.ofNat i)) => match (match hi with | none => some (V.int .i64 (.ofNat els.length)) | some y => az F y) with
      |some (.int .i64 (.ofNat j)) => match Nat.ble i j && Nat.ble j els.length && Nat.beq sz d.size with
       | true => listK ((els.drop i).take (j - i)) fun r => some (.row sz r)
       | false => none
      | _ => none
     | _ => none
    | _ => none
   | none => none
  | _ => none
 |.load t x => match az F x with
  |some (.box cs o) => match T.ty t with
   | some d => gd d cs o
   | none => none
  | _ => none
 | _ => none
section
variable {P : Program} {T : Tab} {S : Nat → Prop} {w : World} {ρ : Nat → Option Value} {h : Nat → Ob} {a : Act} {n : Nat} {F : Fm} {ty : TypeId}
theorem vD {t u : TypeId} {x y : Operand} {k : IntKind} {m l : Int} (fr : Fr a n (fA a)) (hx : Opd S w ρ a x (.int k m)) (hy : Opd S w ρ a y (.int k l)) : Yld P S w ρ a ty (.binOp .add t x y u) (.int k (k.wrap (m + l))) :=
 ⟨.int k (k.wrap (m + l)), by simp only [VRel], fun w' _ _ _ _ _ => by simp only [execOp, fr.eval (aG hx), fr.eval (aG hy)]; simp [go_sem, eqGuard]⟩
theorem vR {t u : TypeId} {x y : Operand} {k : IntKind} {m l : Int} (fr : Fr a n (fA a)) (hx : Opd S w ρ a x (.int k m)) (hy : Opd S w ρ a y (.int k l)) : Yld P S w ρ a ty (.binOp .sub t x y u) (.int k (k.wrap (m - l))) :=
 ⟨.int k (k.wrap (m - l)), by simp only [VRel], fun w' _ _ _ _ _ => by simp only [execOp, fr.eval (aG hx), fr.eval (aG hy)]; simp [go_sem, eqGuard]⟩
theorem rX (m l : List UInt8) : (ByteArray.mk m.toArray ++ ByteArray.mk l.toArray) = ⟨(m ++ l).toArray⟩ := by
 apply ByteArray.ext; simp [ByteArray.data_append]
theorem vM {t u : TypeId} {x y : Operand} {m l : List UInt8} (fr : Fr a n (fA a)) (hx : Opd S w ρ a x (.str m)) (hy : Opd S w ρ a y (.str l)) (hl : m.length + l.length ≤ 9223372036854775807) : Yld P S w ρ a ty (.binOp .add t x y u) (.str (m ++ l)) :=
 ⟨.string ⟨(m ++ l).toArray⟩, by simp only [VRel], fun w' _ _ _ _ _ => by simp only [execOp, fr.eval (cQ hx), fr.eval (cQ hy)]; simp [go_sem, eqGuard, rX, show ¬ 9223372036854775807 < m.length + l.length by omega]⟩
theorem uR (hT : TabOk P T) {op : BinOp} {t u : TypeId} {x y : Operand} {c d v : V} (fr : Fr a n (fA a)) (hx : Opd S w ρ a x c) (hy : Opd S w ρ a y d) (hv : tD T op t c d = some v) : Yld P S w ρ a ty (.binOp op t x y u) v := by
 unfold tD at hv
 split at hv
 ·split at hv
  ·cases hv
  ·rename_i hk
   have := wC hk
   subst this
   split at hv
   ·rw [cR (ke _ _) hv]; exact wL fr hx hy
   ·rw [cR (by rw [ke]; rfl) hv]; exact xq fr hx hy
   ·rw [cR (jc _ _) hv]; exact xc fr hx hy
   ·rw [cR (jc _ _) hv]; exact wW fr hx hy
   ·rw [cR (by rw [jc, Bool.eq_iff_iff]; simp) hv]; exact wM fr hx hy
   ·rw [cR (by rw [jc, Bool.eq_iff_iff]; simp) hv]; exact xd fr hx hy
   ·rw [qb hv]; exact vD fr hx hy
   ·rw [qb hv]; exact vR fr hx hy
   ·cases hv
 ·split at hv
  ·rw [cR (jf _ _) hv]; exact xp fr hx hy
  ·rw [cR (by rw [jf]; rfl) hv]; exact xn fr hx hy
  ·split at hv
   ·split at hv
    ·rename_i hb
     rw [aW] at hv
     simp only [Option.some.injEq] at hv; subst hv
     exact vM fr hx hy (by simpa using hb)
    ·cases hv
   ·cases hv
  ·cases hv
 ·split at hv
  ·rename_i hd
   have ht := (hT.ty _ _ hd).bool rfl
   split at hv
   ·rw [cR rfl hv]; exact wG fr ht hx hy
   ·rw [cR rfl hv]; exact wN fr ht hx hy
   ·cases hv
  ·cases hv
 ·cases hv
theorem mE (hT : TabOk P T) {t : TypeId} {i o s : Nat} {b : Bool} (hf : qx T t i = some (o, s, b)) : fD P t i = some o ∧ (b = true → hI P t i = some o) ∧ (b = false → iq P t i = some (o, s)) := by
 unfold qx at hf
 split at hf
 ·rename_i hd
  rw [oL] at hf
  exact ((hT.ty _ _ hd).fields rfl).2 i o s b hf
 ·cases hf
theorem jP (hT : TabOk P T) (hr : HRel S w ρ h) (hF : FRel S w ρ a n F) {op : Op} {v : V} (hv : fu T h F op = some v) : Yld P S w ρ a ty op v := by
 have fr := hF.fr
 unfold fu at hv
 split at hv
 ·exact vc fr (al hF hv)
 ·exact sR fr (al hF hv)
 ·split at hv
  ·exact ur fr (al hF ‹_›) (al hF hv)
  ·exact uG fr (al hF ‹_›) (al hF hv)
  ·cases hv
 ·split at hv
  ·injection hv with hv; subst hv; exact wB fr (al hF ‹_›)
  ·injection hv with hv; subst hv; exact vw fr (al hF ‹_›)
  ·injection hv with hv; subst hv; exact vB fr (al hF ‹_›)
  ·cases hv
 ·split at hv
  ·rw [fp] at hv; exact xm fr (al hF ‹_›) hv
  ·cases hv
 ·split at hv
  ·rw [cR rfl hv]; exact wJ fr (al hF ‹_›)
  ·cases hv
 ·split at hv
  ·rename_i hfl
   have hfo := (mE hT hfl).1
   split at hv
   ·rw [bn] at hv; injection hv with hv; subst hv; exact wZ fr (al hF ‹_›) hfo
   ·rw [bn] at hv; injection hv with hv; subst hv; exact xh fr (al hF ‹_›) hfo
   ·rw [bn] at hv; injection hv with hv; subst hv; exact wT fr (al hF ‹_›) hfo
   ·cases hv
  ·cases hv
 ·split at hv
  ·split at hv
   ·rename_i hfl
    rw [fp] at hv
    exact xz fr (al hF ‹_›) ((mE hT hfl).2.1 rfl) hv
   ·rename_i hfl
    obtain ⟨_, hv⟩ := js hv
    rw [jL] at hv
    injection hv with hv; subst hv
    exact wS fr (al hF ‹_›) ((mE hT hfl).2.2 rfl)
   ·cases hv
  ·cases hv
 ·split at hv
  ·split at hv
   ·exact uR hT fr (al hF ‹_›) (al hF ‹_›) hv
   ·cases hv
  ·cases hv
 ·split at hv
  ·rename_i hd
   have ht := (hT.ty _ _ hd).sl rfl
   split at hv
   ·injection hv with hv; subst hv; exact vx fr ht (al hF ‹_›)
   ·split at hv
    ·rw [bn] at hv; injection hv with hv; subst hv; exact rB fr ht (al hF ‹_›)
    ·injection hv with hv; subst hv; exact rB fr ht (al hF ‹_›)
   ·split at hv
    ·split at hv
     ·rw [bn] at hv; injection hv with hv; subst hv; exact rD hr ‹_› fr ht (al hF ‹_›)
     ·injection hv with hv; subst hv; exact rD hr ‹_› fr ht (al hF ‹_›)
    ·cases hv
   ·cases hv
  ·rename_i hd
   have ht := (hT.ty _ _ hd).str rfl
   split at hv
   ·split at hv
    ·rw [bn] at hv; injection hv with hv; subst hv; exact sf fr ht (al hF ‹_›)
    ·injection hv with hv; subst hv; exact sf fr ht (al hF ‹_›)
   ·cases hv
  ·cases hv
 ·split at hv
  ·split at hv
   ·rw [uT hv]; exact ve fr (al hF ‹_›) (al hF ‹_›)
   ·cases hv
  ·cases hv
 ·split at hv
  ·rename_i hd
   have ht := (hT.ty _ _ hd).str rfl
   split at hv
   ·split at hv
    ·split at hv
     ·rename_i hb
      rw [rz] at hb
      rw [bn] at hv; injection hv with hv; subst hv
      exact vL fr ht (al hF ‹_›) (al hF ‹_›) hb
     ·cases hv
    ·cases hv
   ·cases hv
  ·cases hv
 ·split at hv
  ·rename_i hd
   have ht := (hT.ty _ _ hd).sl rfl
   split at hv
   ·rename_i d he
    have hz := (hT.ty _ _ he).size
    split at hv
    ·split at hv
     ·split at hv
      ·rename_i hb
       have := Nat.eq_of_beq_eq_true hb
       subst this
       split at hv
       ·rename_i hi
        rw [fp] at hi
        rw [aW] at hv
        injection hv with hv; subst hv
        exact p_idxR fr ht hz (al hF ‹_›) (al hF ‹_›) hi
       ·cases hv
      ·cases hv
     ·cases hv
    ·split at hv
     ·split at hv
      ·split at hv
       ·rename_i hb
        simp only [Bool.and_eq_true, Nat.beq_eq, Nat.blt_eq] at hb
        obtain ⟨rfl, hlt⟩ := hb
        injection hv with hv; subst hv
        exact p_idxO hr ‹_› fr ht hz (al hF ‹_›) (al hF ‹_›) hlt
       ·cases hv
      ·cases hv
     ·cases hv
    ·cases hv
   ·cases hv
  ·cases hv
 ·split at hv
  ·rename_i fs hd
   have hf := (hT.ty _ _ hd).fields rfl
   obtain ⟨z, hz1, hz2⟩ := (hT.ty _ _ hd).zeroT
   split at hv
   ·rename_i vs hps
    obtain ⟨ys, g1, g2⟩ := gl hF hps
    split at hv
    ·rename_i cs hfl
     rw [aW] at hv; injection hv with hv; subst hv
     refine uf fr g1 g2 hz1 (hz2 _ _ _) hf.1 (fun i p hp => ?_) hfl
     rw [oL] at hp
     split at hp
     ·rename_i o s b hi
      simp only [Option.some.injEq] at hp; subst hp
      simp [hi]
     ·cases hp
    ·cases hv
   ·cases hv
  ·rename_i e hd
   have ht := (hT.ty _ _ hd).arr rfl
   obtain ⟨z, hz1, hz2⟩ := (hT.ty _ _ hd).zeroT
   split at hv
   ·rename_i d he
    have hz := (hT.ty _ _ he).size
    split at hv
    ·rename_i vs hps
     obtain ⟨ys, g1, g2⟩ := gl hF hps
     split at hv
     ·rename_i cs hfl
      rw [aW] at hv; injection hv with hv; subst hv
      exact tn fr g1 g2 hz1 (hz2 _ _ _) ht hz hfl
     ·cases hv
    ·cases hv
   ·cases hv
  ·cases hv
 ·rename_i t x lo hi
  split at hv
  ·rename_i hd
   have ht := (hT.ty _ _ hd).str rfl
   split at hv
   ·split at hv
    ·rename_i i hi1
     split at hv
     ·rename_i j hj1
      split at hv
      ·rename_i hb
       simp only [Bool.and_eq_true, Nat.ble_eq] at hb
       rw [aW] at hv; injection hv with hv; subst hv
       refine tU fr ht (al hF ‹_›) ?_ ?_ hb.1 hb.2
       ·cases lo with
        | none => injection hi1 with hi1; injection hi1 with _ hi1; injection hi1 with hi1; exact .inl ⟨rfl, hi1.symm⟩
        | some y => exact .inr ⟨y, rfl, al hF hi1⟩
       ·cases hi with
        | none => injection hj1 with hj1; injection hj1 with _ hj1; injection hj1 with hj1; exact .inl ⟨rfl, hj1.symm⟩
        | some y => exact .inr ⟨y, rfl, al hF hj1⟩
      ·cases hv
     ·cases hv
    ·cases hv
   ·cases hv
  ·rename_i hd
   have ht := (hT.ty _ _ hd).sl rfl
   split at hv
   ·rename_i d he
    have hz := (hT.ty _ _ he).size
    split at hv
    ·split at hv
     ·rename_i i hi1
      split at hv
      ·rename_i j hj1
       split at hv
       ·rename_i hb
        simp only [Bool.and_eq_true, Nat.ble_eq, Nat.beq_eq] at hb
        obtain ⟨⟨hb1, hb2⟩, rfl⟩ := hb
        rw [aW] at hv; injection hv with hv; subst hv
        refine tO fr ht hz (al hF ‹_›) ?_ ?_ hb1 hb2
        ·cases lo with
         | none => injection hi1 with hi1; injection hi1 with _ hi1; injection hi1 with hi1; exact .inl ⟨rfl, hi1.symm⟩
         | some y => exact .inr ⟨y, rfl, al hF hi1⟩
        ·cases hi with
         | none => injection hj1 with hj1; injection hj1 with _ hj1; injection hj1 with hj1; exact .inl ⟨rfl, hj1.symm⟩
         | some y => exact .inr ⟨y, rfl, al hF hj1⟩
       ·cases hv
      ·cases hv
     ·cases hv
    ·cases hv
   ·cases hv
  ·cases hv
 ·split at hv
  ·rename_i cs o hx
   split at hv
   ·rename_i d hd
    have td := hT.ty _ _ hd
    unfold gd at hv
    split at hv
    ·rename_i ha
     split at hv
     ·rename_i h0
      obtain ⟨hl, hv⟩ := js hv
      rw [jL] at hv hl
      injection hv with hv; subst hv
      have h0' : 0 < d.size := by simpa using h0
      exact tp fr (td.ag ha) (al hF hx) (by simp at hl; omega)
     ·cases hv
    ·rename_i ha
     rw [fp] at hv
     exact uX fr (td.sc ha) (al hF hx) hv
   ·cases hv
  ·cases hv
 ·cases hv
end
end Go.Proofs.YthnohcipianijaaGreatDoor
namespace Go.Proofs.YthnohcipianijaaGreatDoor
open Go.RowKit
inductive ED where
 | nop
 | new (o : Ob)
 | set (id : Nat) (o : Ob)
 | repl (id : Nat) (o : Ob)
def ED.app (h : Nat → Ob) (nid : Nat) : ED → Nat → Ob
 | .nop => h
 | .new o => be h nid o
 | .set id o => be h id o
 | .repl id o => be (be h id .gone) nid o
def ED.tch : ED → Nat → Prop
 | .nop, _ => False
 | .new _, _ => False
 | .set id _, i => i = id
 | .repl id _, i => i = id
def nY (h : Nat → Ob) (sz : Nat) : V → Option (List V)
 | .nils => some []
 |.row sz' els => match Nat.beq sz sz' with
  | true => some els
  | false => none
 |.sl g => match h g with
  |.row _ sz' els => match Nat.beq sz sz' with
   | true => some els
   | false => none
  | _ => none
 | _ => none
def eB (T : Tab) (h : Nat → Ob) (F : Fm) (nid : Nat) (op : Op) : Option (Option V × ED) :=
 match op with
 |.load t x => match az F x with
  |some (.ptr id o) => match T.ty t with
   |some d => match h id with
    |.var _ cs => match gd d cs o with
     | some v => some (some v, .nop)
     | none => none
    | _ => none
   | none => none
  |some (.el id sz i o) => match T.ty t with
   |some d => match h id with
    |.row _ sz' els => match Nat.beq sz sz' with
     |true => match atV els i with
      |some v0 => match gd d v0.cells o with
       | some v => some (some v, .nop)
       | none => none
      | none => none
     | false => none
    | _ => none
   | none => none
  | _ => none
 |.alloc t => match T.ty t with
  | some d => listK d.zero.cells fun cs => some (some (.ptr nid 0), .new (.var t cs))
  | none => none
 |.box t x => match az F x with
  | some v => listK v.cells fun cs => some (some (.ptr nid 0), .new (.var t cs))
  | none => none
 |.store t x y => match T.ty t with
  |some d => match az F y with
   |some v => match Nat.beq v.cells.length d.size && v.cells.all V.one with
    |true => match az F x with
     |some (.ptr id o) => match h id with
      |.var tb cs => match Nat.ble (o + d.size) cs.length with
       | true => listK (iv cs o v.cells) fun cs => some (none, .set id (.var tb cs))
       | false => none
      | _ => none
     |some (.el id sz i o) => match h id with
      |.row e sz' els => match Nat.beq sz sz' with
       |true => match atV els i with
        |some v0 => match Nat.ble (o + d.size) v0.cells.length with
         |true => match v0 with
          | .agg cs => listK (els.set i (V.over (.agg cs) o v.cells)) fun els => some (none, .set id (.row e sz els))
          |v0 => match v.one with
           | true => listK (els.set i (v0.over o v.cells)) fun els => some (none, .set id (.row e sz els))
           | false => none
         | false => none
        | none => none
       | false => none
      | _ => none
     | _ => none
    | false => none
   | none => none
  | none => none
 |.buildSlice t m ⟨ps⟩ => match T.ty t with
  |some ⟨_, _, _, .sl e⟩ => match T.ty e with
   |some d => match eg F ps with
    |some vs => match dN d.size 0 vs with
     |some els => match Nat.beq els.length m && Nat.ble (m * d.size) 16777216 && Nat.ble m 16777216 with
      | true => ch d.size fun sz => some (some (.sl nid), .new (.row e sz els))
      | false => none
     | none => none
    | none => none
   | none => none
  | _ => none
 |.makeSlice t x y => match T.ty t with
  |some ⟨_, _, _, .sl e⟩ => match T.ty e with
   |some d => match az F x with
    |some (.int .i64 (.ofNat m)) => match az F y with
     |some (.int .i64 (.ofNat m')) => match Nat.beq m m' && Nat.ble (d.bytes * m) 1000000 && Nat.ble m 1000000 && Nat.blt 0 d.size with
      | true => listK (List.replicate m d.zero) fun els => ch d.size fun sz => some (some (.sl nid), .new (.row e sz els))
      | false => none
     | _ => none
    | _ => none
   | none => none
  | _ => none
 |.call ⟨.builtin .append, ⟨[x, y]⟩, ⟨[t, t']⟩⟩ => match T.frc && Nat.beq t t' with
  |true => match T.ty t with
   |some ⟨_, _, _, .sl e⟩ => match T.ty e with
    |some d => match az F y with
     |some v => match nY h d.size v with
      |some news => match az F x with
       |some .nils => match Nat.ble news.length 100000 && Nat.ble d.bytes 100000 && Nat.blt 0 d.size with
        | true => ch d.size fun sz => some (some (.sl nid), .new (.row e sz news))
        | false => none
       |some (.sl id) => match h id with
        |.row e' sz els => match Nat.beq e e' && Nat.beq sz d.size && Nat.ble (els.length + news.length) 100000 && Nat.ble d.bytes 100000 && Nat.blt 0 d.size with
         | true => listK (els ++ news) fun els => some (some (.sl nid), .repl id (.row e sz els))
         | false => none
        | _ => none
       | _ => none
      | none => none
     | none => none
    | none => none
   | _ => none
  | false => none
 |.slice t x none (some y) none => match T.ty t with
  |some ⟨_, _, _, .sl e⟩ => match T.ty e with
   |some d => match az F x with
    |some (.sl id) => match h id with
     |.row e' sz els => match az F y with
      |some (.int .i64 (.ofNat k)) => match Nat.beq e e' && Nat.beq sz d.size && Nat.ble k els.length with
       | true => listK (els.take k) fun els => some (some (.sl nid), .repl id (.row e sz els))
       | false => none
      | _ => none
     | _ => none
    | _ => none
   | none => none
  | _ => none
 | _ => none
section
variable {P : Program} {T : Tab} {S : Nat → Prop} {w : World} {ρ : Nat → Option Value} {h : Nat → Ob} {a : Act} {n : Nat} {F : Fm} {ty : TypeId}
theorem fL {t : TypeId} {d : TD} (td : TdOk P t d) {cs : List V} {o : Nat} {v : V} (hv : gd d cs o = some v) : (bH P t = true ∧ cs[o]? = some v) ∨ (fh P t = some d.size ∧ o + d.size ≤ cs.length ∧ v = .agg ((cs.drop o).take d.size)) := by
 unfold gd at hv
 split at hv
 ·rename_i ha
  split at hv
  ·rename_i h0
   obtain ⟨hl, hv⟩ := js hv
   rw [jL] at hv hl
   injection hv with hv; subst hv
   have h0' : 0 < d.size := by simpa using h0
   exact .inr ⟨td.ag ha, by simp at hl; omega, rfl⟩
  ·cases hv
 ·rename_i ha
  rw [fp] at hv
  exact .inl ⟨td.sc ha, hv⟩
theorem jQ {v : V} (h : v.one = true) : v.cells = [v] := by cases v <;> first | rfl | cases h
theorem pQ (hr : HRel S w ρ h) (hF : FRel S w ρ a n F) {y : Operand} {sz : Nat} {v : V} {news : List V} (hy : az F y = some v) (hs : nY h sz v = some news) : ∃ u, ay (fA a) y = some u ∧ jk S w ρ sz news u := by
 obtain ⟨u, h1, h2⟩ := al hF hy
 refine ⟨u, h1, ?_⟩
 unfold nY at hs
 split at hs
 ·injection hs with hs; subst hs; exact sV h2
 ·split at hs
  ·rename_i hb
   have := Nat.eq_of_beq_eq_true hb
   subst this
   injection hs with hs; subst hs; exact uZ h2
  ·cases hs
 ·split at hs
  ·split at hs
   ·rename_i ho _ hb
    have := Nat.eq_of_beq_eq_true hb
    subst this
    injection hs with hs; subst hs; exact uv hr ho h2
   ·cases hs
  ·cases hs
 ·cases hs
theorem kL (hT : TabOk P T) (hr : HRel S w ρ h) (hF : FRel S w ρ a n F) {nid : Nat} (hn : h nid = .free) {op : Op} {v : Option V} {ed : ED} (hv : eB T h F nid op = some (v, ed)) : Does P S w ρ h a ty op v (ed.app h nid) ed.tch := by
 have fr := hF.fr
 unfold eB at hv
 split at hv
 ·split at hv
  ·split at hv
   ·rename_i d hd
    split at hv
    ·rename_i ho
     split at hv
     ·rename_i u hu
      simp only [Option.some.injEq, Prod.mk.injEq] at hv
      obtain ⟨rfl, rfl⟩ := hv
      rcases fL (hT.ty _ _ hd) hu with ⟨h1, h2⟩ | ⟨h1, h2, rfl⟩
      ·exact wb hr fr (al hF ‹_›) ho h1 h2
      ·exact uY hr fr (al hF ‹_›) ho h1 h2
     ·cases hv
    ·cases hv
   ·cases hv
  ·split at hv
   ·rename_i d hd
    split at hv
    ·rename_i ho
     split at hv
     ·rename_i hb
      have := Nat.eq_of_beq_eq_true hb
      subst this
      split at hv
      ·rename_i v0 hi
       rw [fp] at hi
       split at hv
       ·rename_i u hu
        simp only [Option.some.injEq, Prod.mk.injEq] at hv
        obtain ⟨rfl, rfl⟩ := hv
        rcases fL (hT.ty _ _ hd) hu with ⟨h1, h2⟩ | ⟨h1, h2, rfl⟩
        ·exact pI hr fr (al hF ‹_›) ho h1 hi h2
        ·exact ou hr fr (al hF ‹_›) ho h1 hi h2
       ·cases hv
      ·cases hv
     ·cases hv
    ·cases hv
   ·cases hv
  ·cases hv
 ·split at hv
  ·rename_i d hd
   rw [aW] at hv
   simp only [Option.some.injEq, Prod.mk.injEq] at hv
   obtain ⟨rfl, rfl⟩ := hv
   obtain ⟨z, h1, h2⟩ := (hT.ty _ _ hd).zeroT
   exact uW hr hn h1 h2
  ·cases hv
 ·split at hv
  ·rw [aW] at hv
   simp only [Option.some.injEq, Prod.mk.injEq] at hv
   obtain ⟨rfl, rfl⟩ := hv
   exact xr hr fr hn (al hF ‹_›)
  ·cases hv
 ·split at hv
  ·rename_i d hd
   have hz := (hT.ty _ _ hd).size
   split at hv
   ·rename_i u hu
    split at hv
    ·rename_i hb
     simp only [Bool.and_eq_true, Nat.beq_eq] at hb
     split at hv
     ·split at hv
      ·split at hv
       ·rename_i ho _ hle
        rw [aW] at hv
        simp only [Option.some.injEq, Prod.mk.injEq] at hv
        obtain ⟨rfl, rfl⟩ := hv
        exact uM hr fr (al hF ‹_›) (al hF hu) ho hz hb.1 hb.2 (Nat.le_of_ble_eq_true hle)
       ·cases hv
      ·cases hv
     ·split at hv
      ·rename_i ho
       split at hv
       ·rename_i hq
        have := Nat.eq_of_beq_eq_true hq
        subst this
        split at hv
        ·rename_i v0 hi
         rw [fp] at hi
         split at hv
         ·rename_i hle
          split at hv
          ·rename_i cs
           rw [aW] at hv
           simp only [Option.some.injEq, Prod.mk.injEq] at hv
           obtain ⟨rfl, rfl⟩ := hv
           exact lp hr fr (al hF ‹_›) (al hF hu) ho hz hi hb.1 hb.2 (Nat.le_of_ble_eq_true hle) (.inl ⟨cs, rfl⟩)
          ·rename_i hna
           split at hv
           ·rename_i h1
            rw [aW] at hv
            simp only [Option.some.injEq, Prod.mk.injEq] at hv
            obtain ⟨rfl, rfl⟩ := hv
            refine lp hr fr (al hF ‹_›) (al hF hu) ho hz hi hb.1 hb.2 (Nat.le_of_ble_eq_true hle) (.inr ⟨?_, jQ h1⟩)
            cases v0 with
            | agg cs => exact absurd rfl (hna cs)
            | _ => rfl
           ·cases hv
         ·cases hv
        ·cases hv
       ·cases hv
      ·cases hv
     ·cases hv
    ·cases hv
   ·cases hv
  ·cases hv
 ·split at hv
  ·rename_i e ht
   split at hv
   ·rename_i d hd
    split at hv
    ·rename_i vs hps
     split at hv
     ·rename_i els hrp
      split at hv
      ·rename_i hb
       simp only [Bool.and_eq_true, Nat.beq_eq] at hb
       rw [bn] at hv
       simp only [Option.some.injEq, Prod.mk.injEq] at hv
       obtain ⟨rfl, rfl⟩ := hv
       obtain ⟨ys, g1, g2⟩ := gl hF hps
       obtain ⟨z, h1, h2⟩ := (hT.ty _ _ hd).zeroT
       exact tw hr fr hn g1 g2 ((hT.ty _ _ ht).sl rfl) (hT.ty _ _ hd).size h1 hrp hb.1.1 hb.1.2 hb.2
      ·cases hv
     ·cases hv
    ·cases hv
   ·cases hv
  ·cases hv
 ·split at hv
  ·rename_i e ht
   split at hv
   ·rename_i d hd
    split at hv
    ·split at hv
     ·split at hv
      ·rename_i hb
       simp only [Bool.and_eq_true, Nat.beq_eq, Nat.ble_eq, Nat.blt_eq] at hb
       obtain ⟨⟨⟨rfl, hb1⟩, hb2⟩, hb3⟩ := hb
       rw [aW, bn] at hv
       simp only [Option.some.injEq, Prod.mk.injEq] at hv
       obtain ⟨rfl, rfl⟩ := hv
       obtain ⟨z, h1, h2, h3, h4⟩ := (hT.ty _ _ hd).info
       exact wo hr fr hn (al hF ‹_›) (al hF ‹_›) ((hT.ty _ _ ht).sl rfl) h1 h3 hb3 h4 h2 (by omega) (by simp only [maxLen]; omega)
      ·cases hv
     ·cases hv
    ·cases hv
   ·cases hv
  ·cases hv
 ·split at hv
  ·rename_i hb0
   simp only [Bool.and_eq_true, Nat.beq_eq] at hb0
   obtain ⟨_, rfl⟩ := hb0
   split at hv
   ·rename_i e ht
    split at hv
    ·rename_i d hd
     obtain ⟨z, h1, h2, h3, h4⟩ := (hT.ty _ _ hd).info
     split at hv
     ·rename_i u hu
      split at hv
      ·rename_i news hs
       obtain ⟨y', g1, g2⟩ := pQ hr hF hu hs
       split at hv
       ·split at hv
        ·rename_i hb
         simp only [Bool.and_eq_true, Nat.ble_eq, Nat.blt_eq] at hb
         obtain ⟨⟨hb1, hb2⟩, hb3⟩ := hb
         rw [bn] at hv
         simp only [Option.some.injEq, Prod.mk.injEq] at hv
         obtain ⟨rfl, rfl⟩ := hv
         refine rW hr fr hn g1 g2 ((hT.ty _ _ ht).sl rfl) h1 h3 hb3 (al hF ‹_›) (by simp only [maxLen]; omega) ?_
         exact Nat.le_trans (Nat.mul_le_mul hb1 hb2) (by decide)
        ·cases hv
       ·split at hv
        ·rename_i ho
         split at hv
         ·rename_i hb
          simp only [Bool.and_eq_true, Nat.ble_eq, Nat.blt_eq, Nat.beq_eq] at hb
          obtain ⟨⟨⟨⟨rfl, rfl⟩, hb1⟩, hb2⟩, hb3⟩ := hb
          rw [aW] at hv
          simp only [Option.some.injEq, Prod.mk.injEq] at hv
          obtain ⟨rfl, rfl⟩ := hv
          refine nK hr fr hn g1 g2 ((hT.ty _ _ ht).sl rfl) h1 h3 hb3 (al hF ‹_›) ho (by simp only [maxLen]; omega) ?_
          exact Nat.le_trans (Nat.mul_le_mul hb1 hb2) (by decide)
         ·cases hv
        ·cases hv
       ·cases hv
      ·cases hv
     ·cases hv
    ·cases hv
   ·cases hv
  ·cases hv
 ·split at hv
  ·rename_i e ht
   split at hv
   ·rename_i d hd
    split at hv
    ·split at hv
     ·rename_i ho
      split at hv
      ·split at hv
       ·rename_i hb
        simp only [Bool.and_eq_true, Nat.ble_eq, Nat.beq_eq] at hb
        obtain ⟨⟨rfl, rfl⟩, hb1⟩ := hb
        rw [aW] at hv
        simp only [Option.some.injEq, Prod.mk.injEq] at hv
        obtain ⟨rfl, rfl⟩ := hv
        exact qa hr fr hn (al hF ‹_›) (al hF ‹_›) ho ((hT.ty _ _ ht).sl rfl) (hT.ty _ _ hd).size hb1
       ·cases hv
      ·cases hv
     ·cases hv
    ·cases hv
   ·cases hv
  ·cases hv
 ·cases hv
def ED.ok (h : Nat → Ob) : ED → Prop
 | .nop => True
 | .new o => True
 | .set id o => h id ≠ .gone ∧ h id ≠ .free
 | .repl id o => h id ≠ .gone ∧ h id ≠ .free
theorem iI {nid : Nat} {op : Op} {v : Option V} {ed : ED} (hv : eB T h F nid op = some (v, ed)) : ed.ok h := by
 unfold eB at hv
 repeat' (split at hv)
 all_goals first
  | (cases hv; done)
  | (simp only [aW, bn, Option.some.injEq, Prod.mk.injEq] at hv; obtain ⟨_, rfl⟩ := hv; first | exact trivial | (constructor <;> simp_all))
end
end Go.Proofs.YthnohcipianijaaGreatDoor
namespace Go.Proofs.YthnohcipianijaaGreatDoor
open Go.RowKit
section
variable {P : Program} {ops : Array Oper} {Q : Exit → Act → World → Prop} {B S : World → Prop}
def wpB (P : Program) (ops : Array Oper) (Q : Exit → Act → World → Prop) (B S : World → Prop) (m : Nat) : Nat → Array Bool → Act → World → Prop
 | 0, listed, a, w => Region.ready .any ops listed = [] ∧ Q .normal a w
 | fuel + 1, listed, a, w =>
  (Region.ready .any ops listed = [] → Q .normal a w) ∧
  ∀ i ∈ Region.ready .any ops listed, wpOp P ops Q i (fun a' w' => B w' ∧ (S w' ∨ (listed.setIfInBounds i true).getD m false = true) ∧ wpB P ops Q B S m fuel (listed.setIfInBounds i true) a' w') a w
theorem mc {m : Nat} : ∀ (fuel : Nat) (listed : Array Bool) (a : Act) (w : World), wpB P ops Q B S m fuel listed a w → wpAny P .any ops Q fuel listed a w
 | 0, _, _, _, h => h
 | fuel + 1, _, _, _, h => ⟨h.1, fun i hi => wpOp_mono (fun a' w' h' => mc fuel _ a' w' h'.2.2) (h.2 i hi)⟩
theorem ll {B' S' : World → Prop} {m : Nat} (hB : ∀ w, B' w → B w) (hS : ∀ w, B' w → S' w → S w) : ∀ (fuel : Nat) (listed : Array Bool) (a : Act) (w : World), wpB P ops Q B' S' m fuel listed a w → wpB P ops Q B S m fuel listed a w
 | 0, _, _, _, h => h
 | fuel + 1, _, _, _, h => ⟨h.1, fun i hi => wpOp_mono (fun a' w' h' => ⟨hB _ h'.1, h'.2.1.imp (hS _ h'.1) id, ll hB hS fuel _ a' w' h'.2.2⟩) (h.2 i hi)⟩
theorem wpB_pure {m : Nat} {i : Nat} {oi : Oper} {v : Value} (him : i ≠ m) (hi : ops[i]? = some oi) (hsel : ∀ (j : Nat) (o : Oper) cs b, ops[j]? = some o → o.op ≠ .select cs b)
    (hQ : ∀ c a w, Q (.panic c) (a.put oi.dst v) w → Q (.panic c) a w) :
    ∀ (fuel : Nat) (listed : Array Bool) (a : Act) (w : World),
      (∀ j oj, ops[j]? = some oj → j ≠ i → listed.getD j true = false → (∀ e ∈ oj.after, Region.binds .any e = true → e.on ≠ i) → oi.apart ops oj = true) →
      i ∈ Region.ready .any ops listed → YieldsIf P ops B oi v a → B w → (S w ∨ listed.getD m false = true) →
      wpB P ops Q B S m fuel (listed.setIfInBounds i true) (a.put oi.dst v) w → wpB P ops Q B S m (fuel + 1) listed a w := by
  intro fuel
  induction fuel with
  | zero =>
    intro listed a w _ hr hy hB hS H
    refine ⟨fun h => (by rw [h] at hr; cases hr), fun j hj => ?_⟩
    by_cases hji : j = i
    · subst hji; exact hy.wpOp hi hB ⟨hB, hS.imp id em, H⟩
    · have := ready_mono hj hji
      rw [H.1] at this
      cases this
  | succ fuel ih =>
    intro listed a w hfree hr hy hB hS H
    refine ⟨fun h => (by rw [h] at hr; cases hr), fun j hj => ?_⟩
    by_cases hji : j = i
    · subst hji; exact hy.wpOp hi hB ⟨hB, hS.imp id em, H⟩
    · have h1 := H.2 j (ready_mono hj hji)
      obtain ⟨hjun, oj, hoj, hall⟩ := mem_ready.1 hj
      have hnot := nj (j := j) hr hall
      have h2 := wpOp_putIf hoj (hfree j oj hoj hji hjun hnot) (fun cs b => hsel i oi cs b hi) (fun cs b => hsel j oj cs b hoj) hQ hy h1
      have hfree' : ∀ k ok, ops[k]? = some ok → k ≠ i → (listed.setIfInBounds j true).getD k true = false →
          (∀ e ∈ ok.after, Region.binds .any e = true → e.on ≠ i) → oi.apart ops ok = true := fun k ok hk hki hun hno => by
        refine hfree k ok hk hki ?_ hno
        by_cases hjk : j = k
        · subst hjk; exact hjun
        · rw [getD_set_ne true hjk] at hun; exact hun
      refine wpOp_mono (fun a' w' h3 => ?_) h2
      have hS3 : S w' ∨ (listed.setIfInBounds j true).getD m false = true := h3.2.2.1.imp id fun h => by
        rw [Array.setIfInBounds_comm _ _ (fun e => hji e.symm), getD_set_ne false him] at h
        exact h
      refine ⟨h3.2.1, hS3, ih (listed.setIfInBounds j true) a' w' hfree' (ready_mono hr (Ne.symm hji)) h3.1 h3.2.1 hS3 ?_⟩
      rw [Array.setIfInBounds_comm _ _ hji]
      exact h3.2.2.2
theorem tc {m : Nat} {i : Nat} {oi : Oper} {v : Value} (him : i ≠ m) (hwt : ma .any ops m i = true) (hi : ops[i]? = some oi) (hsel : ∀ (j : Nat) (o : Oper) cs b, ops[j]? = some o → o.op ≠ .select cs b)
    (hQ : ∀ c a w, Q (.panic c) (a.put oi.dst v) w → Q (.panic c) a w) :
    ∀ (fuel : Nat) (listed : Array Bool) (a : Act) (w : World),
      (∀ j oj, ops[j]? = some oj → j ≠ i → listed.getD j true = false → (∀ e ∈ oj.after, Region.binds .any e = true → e.on ≠ i) → oi.apart ops oj = true) →
      i ∈ Region.ready .any ops listed → YieldsIf P ops (fun w => B w ∧ S w) oi v a → B w → S w → listed.getD m false = false →
      wpB P ops Q B S m fuel (listed.setIfInBounds i true) (a.put oi.dst v) w → wpB P ops Q B S m (fuel + 1) listed a w := by
  intro fuel
  induction fuel with
  | zero =>
    intro listed a w _ hr hy hB hS _ H
    refine ⟨fun h => (by rw [h] at hr; cases hr), fun j hj => ?_⟩
    by_cases hji : j = i
    · subst hji; exact hy.wpOp hi ⟨hB, hS⟩ ⟨hB, .inl hS, H⟩
    · have := ready_mono hj hji
      rw [H.1] at this
      cases this
  | succ fuel ih =>
    intro listed a w hfree hr hy hB hS hlm H
    refine ⟨fun h => (by rw [h] at hr; cases hr), fun j hj => ?_⟩
    by_cases hji : j = i
    · subst hji; exact hy.wpOp hi ⟨hB, hS⟩ ⟨hB, .inl hS, H⟩
    · have h1 := H.2 j (ready_mono hj hji)
      obtain ⟨hjun, oj, hoj, hall⟩ := mem_ready.1 hj
      have hnot := nj (j := j) hr hall
      have hjm : j ≠ m := by
        rintro rfl
        unfold ma at hwt
        rw [hoj] at hwt
        obtain ⟨e, he, hb⟩ := Array.any_eq_true'.1 hwt
        simp only [Bool.and_eq_true, beq_iff_eq] at hb
        exact hnot e he hb.1 hb.2
      have h2 := wpOp_putIf hoj (hfree j oj hoj hji hjun hnot) (fun cs b => hsel i oi cs b hi) (fun cs b => hsel j oj cs b hoj) hQ hy h1
      have hfree' : ∀ k ok, ops[k]? = some ok → k ≠ i → (listed.setIfInBounds j true).getD k true = false →
          (∀ e ∈ ok.after, Region.binds .any e = true → e.on ≠ i) → oi.apart ops ok = true := fun k ok hk hki hun hno => by
        refine hfree k ok hk hki ?_ hno
        by_cases hjk : j = k
        · subst hjk; exact hjun
        · rw [getD_set_ne true hjk] at hun; exact hun
      refine wpOp_mono (fun a' w' h3 => ?_) h2
      have hlm' : (listed.setIfInBounds j true).getD m false = false := by rw [getD_set_ne false hjm]; exact hlm
      have hS' : S w' := by
        rcases h3.2.2.1 with h | h
        · exact h
        · rw [Array.setIfInBounds_comm _ _ (fun e => hji e.symm), getD_set_ne false him, hlm'] at h
          cases h
      refine ⟨h3.2.1, .inl hS', ih (listed.setIfInBounds j true) a' w' hfree' (ready_mono hr (Ne.symm hji)) h3.1 h3.2.1 hS' hlm' ?_⟩
      rw [Array.setIfInBounds_comm _ _ hji]
      exact h3.2.2.2
end
inductive EI where
 | seq (c : Code)
 | blk (id : Nat)
 | loop (c : Code) (j : Nat)
 | scp
inductive EP where
 | code (c : Code)
 | ops (all : Array Oper) (rest : List Oper)
 | ex (e : Exit)
 | drw (all : Array Oper) (L : List Nat) (m left : Nat) (listed : Array Bool)
def bq (P : Program) (Q : Exit → Act → World → Prop) : List EI → Exit → Act → World → Prop
 | [] => Q
 | .seq c :: s => Exit.then (c.wp P (bq P Q s)) (bq P Q s)
 | .blk id :: s => Exit.inBlock id (bq P Q s)
 | .loop c j :: s => Exit.then (Code.rounds P c (bq P Q s) j) (bq P Q s)
 | .scp :: s => Exit.noGoto (bq P Q s)
def vblk : Value → Option Nat
 | .pointer (some a) => some a.block
 | .slice (some a) _ _ => some a.block
 | _ => none
def Ls (ρ : Nat → Option Value) (L : List Nat) (w w' : World) : Prop := ∀ id, id ∈ L → ∀ x b, ρ id = some x → vblk x = some b → w'.heap[b]? = w.heap[b]?
def EP.wp (P : Program) (Q : Exit → Act → World → Prop) (p : EP) (s : List EI) (S : Nat → Prop) (w : World) (ρ : Nat → Option Value) (a : Act) : Prop :=
 match p with
 | .code c => c.wp P (bq P Q s) a w
 | .ops all rest => wpList P all (bq P Q s) rest a w
 | .ex e => bq P Q s e a w
 | .drw all L m left listed => Region.noSelect all = true → wpB P all (NoPanic (bq P Q s)) (Agree S w) (Ls ρ L w) m left listed a w
structure Hp where
 nx : Nat
 es : List (Nat × Ob)
def an : List (Nat × Ob) → Nat → Ob
 | [], _ => .gone
 |(i, o) :: r, j => match Nat.beq i j with
  | true => o
  | false => an r j
def Hp.get (H : Hp) (i : Nat) : Ob := match Nat.blt i H.nx with
 | true => an H.es i
 | false => .free
def qK {α : Type} (id : Nat) (o : Ob) : List (Nat × Ob) → (List (Nat × Ob) → α) → α
 | [], c => c []
 |(i, p) :: r, c => match Nat.beq i id with
  | true => c ((i, o) :: r)
  | false => qK id o r fun r' => c ((i, p) :: r')
def mI {α : Type} (id : Nat) : List (Nat × Ob) → (List (Nat × Ob) → α) → α
 | [], c => c []
 |(i, p) :: r, c => match Nat.beq i id with
  | true => mI id r c
  | false => mI id r fun r' => c ((i, p) :: r')
def Hp.ap {α : Type} (H : Hp) (e : ED) (c : Hp → α) : α := match e with
 | .nop => c H
 | .new o => ch H.nx fun k => ch (k + 1) fun n => c ⟨n, (k, o) :: H.es⟩
 | .set id o => qK id o H.es fun es => ch H.nx fun k => c ⟨k, es⟩
 | .repl id o => mI id H.es fun es => ch H.nx fun k => ch (k + 1) fun n => c ⟨n, (k, o) :: es⟩
def iC (id : Nat) (o : Ob) : List (Nat × Ob) → List (Nat × Ob)
 | [] => []
 |(i, p) :: r => match Nat.beq i id with
  | true => (i, o) :: r
  | false => (i, p) :: iC id o r
def gg (id : Nat) : List (Nat × Ob) → List (Nat × Ob)
 | [] => []
 |(i, p) :: r => match Nat.beq i id with
  | true => gg id r
  | false => (i, p) :: gg id r
theorem pV {α : Type} {id : Nat} {o : Ob} : ∀ (l : List (Nat × Ob)) (c : List (Nat × Ob) → α), qK id o l c = c (iC id o l)
 | [], c => rfl
 | (i, p) :: r, c => by
  simp only [qK, iC]
  split
  ·rfl
  ·rw [pV r]
theorem kP {α : Type} {id : Nat} : ∀ (l : List (Nat × Ob)) (c : List (Nat × Ob) → α), mI id l c = c (gg id l)
 | [], c => rfl
 | (i, p) :: r, c => by
  simp only [mI, gg]
  split
  ·rw [kP r]
  ·rw [kP r]
theorem nbF {a b : Nat} (h : a ≠ b) : Nat.beq a b = false := by
 cases hb : Nat.beq a b
 ·rfl
 ·exact absurd (Nat.eq_of_beq_eq_true hb) h
theorem nbT (a : Nat) : Nat.beq a a = true := by simp
theorem nlT {a b : Nat} (h : a < b) : Nat.blt a b = true := by simpa [Nat.blt_eq] using h
theorem la {id i : Nat} {o : Ob} (hi : i ≠ id) : ∀ {l : List (Nat × Ob)}, an (iC id o l) i = an l i
 | [] => rfl
 | (j, p) :: r => by
  simp only [iC]
  split
  ·rename_i hb
   have e1 := Nat.eq_of_beq_eq_true hb
   subst e1
   simp only [an, nbF (Ne.symm hi)]
  ·simp only [an]
   rw [la hi]
theorem jU {id : Nat} {o : Ob} : ∀ {l : List (Nat × Ob)}, an l id ≠ .gone → an (iC id o l) id = o
 | [], h => absurd rfl h
 | (j, p) :: r, h => by
  simp only [iC]
  split
  ·rename_i hb
   simp only [an, hb]
  ·rename_i hb
   simp only [an, hb] at h ⊢
   exact jU h
theorem fY {id i : Nat} : ∀ {l : List (Nat × Ob)}, an (gg id l) i = if i = id then .gone else an l i
 | [] => by simp [an, gg]
 | (j, p) :: r => by
  simp only [gg, an]
  split
  ·rename_i hb
   have e1 := Nat.eq_of_beq_eq_true hb
   subst e1
   rw [fY]
   by_cases hi : i = j
   ·simp [hi]
   ·simp [hi, nbF (Ne.symm hi)]
  ·rename_i hb
   have hne := Nat.ne_of_beq_eq_false hb
   simp only [an]
   split
   ·rename_i hb2
    have e2 := Nat.eq_of_beq_eq_true hb2
    subst e2
    rw [if_neg hne]
   ·exact fY
def Hp.app (H : Hp) : ED → Hp
 | .nop => H
 | .new o => ⟨H.nx + 1, (H.nx, o) :: H.es⟩
 | .set id o => ⟨H.nx, iC id o H.es⟩
 | .repl id o => ⟨H.nx + 1, (H.nx, o) :: gg id H.es⟩
theorem Hp.ap_eq {α : Type} (H : Hp) (e : ED) (c : Hp → α) : H.ap e c = c (H.app e) := by
 cases e <;> simp [Hp.ap, Hp.app, bn, pV, kP]
theorem Hp.get_free (H : Hp) : H.get H.nx = .free := by
 unfold Hp.get
 have : Nat.blt H.nx H.nx = false := by simp [Bool.eq_false_iff]
 rw [this]
theorem Hp.get_app {H : Hp} {e : ED} (he : e.ok H.get) : (H.app e).get = e.app H.get H.nx := by
 funext i
 cases e with
 | nop => rfl
 | new o =>
  simp only [Hp.app, ED.app]
  by_cases hi : i = H.nx
  ·subst hi
   rw [aK]
   simp only [Hp.get, an, nlT (Nat.lt_succ_self H.nx), nbT]
  ·rw [aV _ _ hi]
   have hb : Nat.beq H.nx i = false := nbF (Ne.symm hi)
   have : Nat.blt i (H.nx + 1) = Nat.blt i H.nx := by rw [Bool.eq_iff_iff]; simp [Nat.blt_eq]; omega
   simp [Hp.get, an, hb, this]
 | set id o =>
  simp only [Hp.app, ED.app]
  have h1 : an H.es id ≠ .gone := by
   have := he.1
   unfold Hp.get at this
   split at this
   ·exact this
   ·rename_i hc
    exact absurd (by unfold Hp.get; rw [hc]) he.2
  by_cases hi : i = id
  ·subst hi
   rw [aK]
   have h2 := he.2
   unfold Hp.get at h2 ⊢
   split at h2
   ·rename_i hc
    simp only [hc]
    exact jU h1
   ·exact absurd rfl h2
  ·rw [aV _ _ hi]
   unfold Hp.get
   simp only []
   rw [la hi]
 | repl id o =>
  simp only [Hp.app, ED.app]
  have hid : id < H.nx := by
   have h2 := he.2
   unfold Hp.get at h2
   split at h2
   ·rename_i hc; simpa [Nat.blt_eq] using hc
   ·exact absurd rfl h2
  by_cases hi : i = H.nx
  ·subst hi
   rw [aK]
   simp only [Hp.get, an, nlT (Nat.lt_succ_self H.nx), nbT]
  ·rw [aV _ _ hi]
   have hb : Nat.beq H.nx i = false := nbF (Ne.symm hi)
   have hlt : Nat.blt i (H.nx + 1) = Nat.blt i H.nx := by rw [Bool.eq_iff_iff]; simp [Nat.blt_eq]; omega
   by_cases hii : i = id
   ·subst hii
    rw [aK]
    have : Nat.blt i H.nx = true := by simpa [Nat.blt_eq] using hid
    simp [Hp.get, an, hb, hlt, this, fY]
   ·rw [aV _ _ hii]
    simp [Hp.get, an, hb, hlt, fY, hii]
theorem oa (a b : List (Nat × Ob)) (i : Nat) : an (a ++ b) i = an a i ∨ (an a i = .gone ∧ an (a ++ b) i = an b i) := by
 induction a with
 | nil => exact .inr ⟨rfl, rfl⟩
 | cons p r ih =>
  obtain ⟨j, o⟩ := p
  simp only [List.cons_append, an]
  split
  ·exact .inl rfl
  ·exact ih
end Go.Proofs.YthnohcipianijaaGreatDoor
namespace Go.Proofs.YthnohcipianijaaGreatDoor
open Go.RowKit
structure Ctx where
 w0 : World
 S0 : Nat → Prop
 X0 : Nat → Prop
 pin : Nat → Option Value
structure Inv (K : Ctx) (S : Nat → Prop) (w : World) (ρ : Nat → Option Value) (h : Nat → Ob) : Prop where
 chg : ChgP K.X0 K.w0 w
 s0 : ∀ b, K.S0 b → S b
 s1 : ∀ b, S b → K.S0 b ∨ K.X0 b ∨ K.w0.heap.size ≤ b
 ow : ∀ id b, own ρ id (h id) b → K.X0 b ∨ K.w0.heap.size ≤ b
 pin : ∀ id x, K.pin id = some x → ρ id = some x
section
variable {P : Program} {T : Tab} {K : Ctx} {S S' : Nat → Prop} {w w' : World} {ρ ρ' : Nat → Option Value} {h h' : Nat → Ob} {a : Act} {n : Nat} {F : Fm} {X : Nat → Prop}
theorem Inv.eff (hi : Inv K S w ρ h) (he : Eff S w w' ρ ρ' h h' X) : Inv K S w' ρ' h' :=
 ⟨hi.chg.trans he.chg (fun b ⟨id, _, hb⟩ => hi.ow id b hb), hi.s0, hi.s1, fun id b hb => by
  rcases he.new id b hb with ⟨j, hj⟩ | hj
  ·exact hi.ow j b hj
  ·exact .inr (Nat.le_trans hi.chg.size hj), fun id x hx => he.up.r _ _ (hi.pin id x hx)⟩
theorem Inv.frz (hr : HRel S w ρ h) (hi : Inv K S w ρ h) (id : Nat) : Inv K (fun b => S b ∨ own ρ id (h id) b) w ρ (be h id .gone) :=
 ⟨hi.chg, fun b hb => .inl (hi.s0 b hb), fun b hb => by
  rcases hb with hb | hb
  ·exact hi.s1 b hb
  ·exact .inr (hi.ow id b hb), fun i b hb => by
  by_cases hii : i = id
  ·subst hii; rw [aK] at hb; exact hb.elim
  ·rw [aV _ _ hii] at hb; exact hi.ow i b hb, hi.pin⟩
theorem HRel.chg0 (hr : HRel S w ρ h) (hc : Chg [] w w') : HRel S w' ρ h := by
 have up : Up S S w w' ρ ρ := ⟨fun _ h => h, fun b _ hb => hc.block b hb (by simp), fun _ _ h => h⟩
 refine ⟨fun i => (hr.ob i).up up (fun hf => ?_) (fun b hb => hc.block b (cd (hr.ob i) hb) (by simp)), hr.sep, hr.dis, fun b hb => Nat.lt_of_lt_of_le (hr.slt b hb) hc.size⟩
 have := hr.ob i; rw [hf] at this; exact this
theorem Up.chg0 (hc : Chg [] w w') : Up S S w w' ρ ρ := ⟨fun _ h => h, fun b _ hb => hc.block b hb (by simp), fun _ _ h => h⟩
theorem Inv.chg0 (hi : Inv K S w ρ h) (hc : Chg [] w w') : Inv K S w' ρ h := ⟨hi.chg.trans (ChgP.of hc) (fun b hb => by simp at hb), hi.s0, hi.s1, hi.ow, hi.pin⟩
theorem HRel.drop (hr : HRel S w ρ h) (hh : ∀ i, h' i = h i ∨ h' i = .gone) : HRel S w ρ h' := by
 have back : ∀ i b, own ρ i (h' i) b → own ρ i (h i) b := fun i b hb => by
  rcases hh i with e | e
  ·rw [e] at hb; exact hb
  ·rw [e] at hb; exact hb.elim
 refine ⟨fun i => ?_, fun i b hb => hr.sep i b (back i b hb), fun i j b hbi hbj => hr.dis i j b (back i b hbi) (back j b hbj), hr.slt⟩
 rcases hh i with e | e
 ·rw [e]; exact hr.ob i
 ·rw [e]; trivial
theorem Inv.drop (hi : Inv K S w ρ h) (hh : ∀ i, h' i = h i ∨ h' i = .gone) : Inv K S w ρ h' :=
 ⟨hi.chg, hi.s0, hi.s1, fun i b hb => by
  rcases hh i with e | e
  ·rw [e] at hb; exact hi.ow i b hb
  ·rw [e] at hb; exact hb.elim, hi.pin⟩
theorem Agree.refl : Agree S w w := fun _ _ => rfl
theorem hG (hr : HRel S w ρ h) (he : Eff S w w' ρ ρ' h h' X) : Agree S w w' := fun b hb => he.up.blk b hb (hr.slt b hb)
def aF (F : Fm) (all : Array Oper) (g : Option (Nat × Bool)) : Option Bool := match g with
 | none => some true
 |some (j, b) => match (all[j]?).bind (·.dst) with
  |some d => match F.get d with
   | some (.bool true) => some b
   | some (.bool false) => some (!b)
   | some (.tup _) => some false
   | _ => none
  | none => none
theorem aN (hF : FRel S w ρ a n F) {all : Array Oper} {o : Oper} {c : Bool} (hw : aF F all o.guard = some c) : Region.wanted o (yielded all a.tmps) = c := by
 unfold aF at hw
 split at hw
 ·rename_i hg
  injection hw with hw; subst hw
  exact mD hF.fr (by rw [hg]; rfl)
 ·rename_i j b hg
  split at hw
  ·rename_i d hd
   split at hw
   ·rename_i hv
    obtain ⟨x, h1, h2⟩ := hF.get d _ hv
    simp only [VRel] at h2; subst h2
    injection hw with hw; subst hw
    cases b
    ·exact mF hF.fr (by rw [hg]; simp only [lU, look, hd]; simp [fA, h1])
    ·exact mD hF.fr (by rw [hg]; simp only [nF, look, hd]; simp [fA, h1])
   ·rename_i hv
    obtain ⟨x, h1, h2⟩ := hF.get d _ hv
    simp only [VRel] at h2; subst h2
    injection hw with hw; subst hw
    cases b
    ·exact mD hF.fr (by rw [hg]; simp only [nF, look, hd]; simp [fA, h1])
    ·exact mF hF.fr (by rw [hg]; simp only [lU, look, hd]; simp [fA, h1])
   ·rename_i hv
    obtain ⟨x, h1, h2⟩ := hF.get d _ hv
    simp only [VRel] at h2; obtain ⟨xs, rfl, _⟩ := h2
    injection hw with hw; subst hw
    exact mF hF.fr (by rw [hg]; simp only [lU, look, hd]; simp [fA, h1])
   ·cases hw
  ·cases hw
end
def Go (P : Program) (K : Ctx) (Q : Exit → Act → World → Prop) (p : EP) (s : List EI) (n : Nat) (F : Fm) (H : Hp) : Prop :=
 ∀ S w ρ a, HRel S w ρ H.get → Inv K S w ρ H.get → FRel S w ρ a n F → EP.wp P Q p s S w ρ a
def CallR (P : Program) (K : Ctx) (fid : FuncId) (vs : List V) (H : Hp) (L : List Nat) (Post : V → Hp → Prop) : Prop :=
  ∀ S w ρ xs, HRel S w ρ H.get → Inv K S w ρ H.get → LRel S w ρ vs xs → Calls P fid xs.toArray w fun e w' =>
    ∃ x S' ρ' v H', e = .returned x ∧ Post v H' ∧ HRel S' w' ρ' H'.get ∧ Inv K S' w' ρ' H'.get ∧ Up S S' w w' ρ ρ' ∧ VRel S' w' ρ' v x ∧ Ls ρ L w w'
def oq (v : Option V) : Option V := match v with
 | some v => some v
 | none => some (.tup [])
section
variable {P : Program} {T : Tab} {K : Ctx} {Q : Exit → Act → World → Prop} {s : List EI} {n : Nat} {F : Fm} {H : Hp}
theorem jw {S : Nat → Prop} {w : World} {ρ : Nat → Option Value} : VRel S w ρ (.tup []) undef := by
 simp only [VRel]; exact ⟨[], rfl, by simp [LRel]⟩
theorem hZ {S : Nat → Prop} {w : World} {ρ : Nat → Option Value} {a : Act} (hF : FRel S w ρ a n F) (d : Option Tmp) : FRel S w ρ (a.put d undef) n (F.seto d (some (.tup []))) :=
 hF.set d (fun u hu => by injection hu with hu; subst hu; exact jw)
theorem aS {S : Nat → Prop} {w : World} {ρ : Nat → Option Value} {a : Act} {v : V} {x : Value} (hF : FRel S w ρ a n F) (d : Option Tmp) (hx : VRel S w ρ v x) : FRel S w ρ (a.put d x) n (F.seto d (some v)) :=
 hF.set d (fun u hu => by injection hu with hu; subst hu; exact hx)
theorem rE {x y : Code} (k : Go P K Q (.code x) (.seq y :: s) n F H) : Go P K Q (.code (.seq x y)) s n F H := fun S w ρ a hr hi hF => wp_seq (k S w ρ a hr hi hF)
theorem oE {id : Nat} {c : Code} (k : Go P K Q (.code c) (.blk id :: s) n F H) : Go P K Q (.code (.block id c)) s n F H := fun S w ρ a hr hi hF => wp_block (k S w ρ a hr hi hF)
theorem qh (k : Go P K Q (.ex .normal) s n F H) : Go P K Q (.code .skip) s n F H := fun S w ρ a hr hi hF => wp_skip (k S w ρ a hr hi hF)
theorem go_ret (k : Go P K Q (.ex .ret) s n F H) : Go P K Q (.code .ret) s n F H := fun S w ρ a hr hi hF => wp_ret (k S w ρ a hr hi hF)
theorem pK {id : Nat} (k : Go P K Q (.ex (.exit id)) s n F H) : Go P K Q (.code (.exit id)) s n F H := fun S w ρ a hr hi hF => wp_exit (k S w ρ a hr hi hF)
theorem sY {l : Nat} (k : Go P K Q (.ex .normal) s n F H) : Go P K Q (.code (.label l)) s n F H := fun S w ρ a hr hi hF => wp_label (k S w ρ a hr hi hF)
theorem th {c : Code} (k : Go P K Q (.code c) (.scp :: s) n F H) : Go P K Q (.code (.scope c)) s n F H := fun S w ρ a hr hi hF => wp_scope_straight (k S w ρ a hr hi hF)
theorem go_loop {c : Code} (j : Nat) (k : Go P K Q (.code c) (.loop c j :: s) n F H) : Go P K Q (.code (.loop c)) s n F H := fun S w ρ a hr hi hF => wp_loop_rounds (j + 1) (k S w ρ a hr hi hF)
theorem oo {c : Operand} {x y : Code} (hc : az F c = some (.bool true)) (k : Go P K Q (.code x) s n F H) : Go P K Q (.code (.cond c x y)) s n F H := fun S w ρ a hr hi hF => sG hF.fr (fW (al hF hc)) (k S w ρ a hr hi hF)
theorem pg {c : Operand} {x y : Code} (hc : az F c = some (.bool false)) (k : Go P K Q (.code y) s n F H) : Go P K Q (.code (.cond c x y)) s n F H := fun S w ρ a hr hi hF => su hF.fr (fW (al hF hc)) (k S w ρ a hr hi hF)
theorem nk {id : Nat} {l : List Oper} (k : Go P K Q (.ops l.toArray l) s n F H) : Go P K Q (.code (.region id l.toArray false)) s n F H := fun S w ρ a hr hi hF => wp_region_lit (k S w ρ a hr hi hF)
theorem sg {all : Array Oper} (k : Go P K Q (.ex .normal) s n F H) : Go P K Q (.ops all []) s n F H := fun S w ρ a hr hi hF => k S w ρ a hr hi hF
theorem px {c : Code} (k : Go P K Q (.code c) s n F H) : Go P K Q (.ex .normal) (.seq c :: s) n F H := k
theorem oN {c : Code} {i : Nat} (k : Go P K Q (.ex (.exit i)) s n F H) : Go P K Q (.ex (.exit i)) (.seq c :: s) n F H := k
theorem nM {c : Code} (k : Go P K Q (.ex .ret) s n F H) : Go P K Q (.ex .ret) (.seq c :: s) n F H := k
theorem go_xloop {c : Code} {j : Nat} (k : Go P K Q (.code c) (.loop c j :: s) n F H) : Go P K Q (.ex .normal) (.loop c (j + 1) :: s) n F H := fun S w ρ a hr hi hF => k S w ρ a hr hi hF
theorem go_xloopE {c : Code} {j i : Nat} (k : Go P K Q (.ex (.exit i)) s n F H) : Go P K Q (.ex (.exit i)) (.loop c j :: s) n F H := k
theorem go_xloopR {c : Code} {j : Nat} (k : Go P K Q (.ex .ret) s n F H) : Go P K Q (.ex .ret) (.loop c j :: s) n F H := k
theorem pa {id : Nat} (k : Go P K Q (.ex .normal) s n F H) : Go P K Q (.ex .normal) (.blk id :: s) n F H := k
theorem pc {id : Nat} (k : Go P K Q (.ex .ret) s n F H) : Go P K Q (.ex .ret) (.blk id :: s) n F H := k
theorem oh {id i : Nat} (hb : Nat.beq i id = true) (k : Go P K Q (.ex .normal) s n F H) : Go P K Q (.ex (.exit i)) (.blk id :: s) n F H := fun S w ρ a hr hi hF => by
 have := Nat.eq_of_beq_eq_true hb
 subst this
 simp only [EP.wp, bq, Exit.inBlock, if_true]
 exact k S w ρ a hr hi hF
theorem oW {id i : Nat} (hb : Nat.beq i id = false) (k : Go P K Q (.ex (.exit i)) s n F H) : Go P K Q (.ex (.exit i)) (.blk id :: s) n F H := fun S w ρ a hr hi hF => by
 simp only [EP.wp, bq, Exit.inBlock, if_neg (Nat.ne_of_beq_eq_false hb)]
 exact k S w ρ a hr hi hF
theorem tx (k : Go P K Q (.ex .normal) s n F H) : Go P K Q (.ex .normal) (.scp :: s) n F H := k
theorem sD {i : Nat} (k : Go P K Q (.ex (.exit i)) s n F H) : Go P K Q (.ex (.exit i)) (.scp :: s) n F H := k
theorem sN (k : Go P K Q (.ex .ret) s n F H) : Go P K Q (.ex .ret) (.scp :: s) n F H := k
variable {all : Array Oper} {rest : List Oper} {o : Oper}
theorem rv (hw : aF F all o.guard = some false) (k : Go P K Q (.ops all rest) s n (F.seto o.dst (some (.tup []))) H) : Go P K Q (.ops all (o :: rest)) s n F H := fun S w ρ a hr hi hF => by
 show wpList P all (bq P Q s) (o :: rest) a w
 unfold wpList
 rw [aN hF hw]
 simp only [Bool.false_eq_true, if_false]
 exact k S w ρ _ hr hi (hZ hF o.dst)
theorem go_opY {v : V} (hw : aF F all o.guard = some true) (hy : ∀ S w ρ a, HRel S w ρ H.get → FRel S w ρ a n F → Yld P S w ρ a o.type o.op v) (k : Go P K Q (.ops all rest) s n (F.seto o.dst (some v)) H) : Go P K Q (.ops all (o :: rest)) s n F H := fun S w ρ a hr hi hF => by
 show wpList P all (bq P Q s) (o :: rest) a w
 unfold wpList
 rw [if_pos (aN hF hw)]
 refine .inl ?_
 obtain ⟨x, h1, h2⟩ := hy S w ρ a hr hF
 obtain ⟨d, op, ty, ps, af, g⟩ := o
 unfold Oper.wp
 rw [h2 w Agree.refl d ps af g]
 exact k S w ρ _ hr hi (aS hF d h1)
theorem go_opP (hT : TabOk P T) {v : V} (hw : aF F all o.guard = some true) (hv : fu T H.get F o.op = some v) (k : Go P K Q (.ops all rest) s n (F.seto o.dst (some v)) H) : Go P K Q (.ops all (o :: rest)) s n F H :=
 go_opY hw (fun S w ρ a hr hF => jP hT hr hF hv) k
theorem go_opD {v : Option V} {ed : ED} (hw : aF F all o.guard = some true) (hd : ∀ S w ρ a, HRel S w ρ H.get → FRel S w ρ a n F → Does P S w ρ H.get a o.type o.op v (ed.app H.get H.nx) ed.tch) (hl : ed.ok H.get) (k : Go P K Q (.ops all rest) s n (F.seto o.dst (oq v)) (H.app ed)) : Go P K Q (.ops all (o :: rest)) s n F H := fun S w ρ a hr hi hF => by
 show wpList P all (bq P Q s) (o :: rest) a w
 unfold wpList
 rw [if_pos (aN hF hw)]
 refine .inl ?_
 obtain ⟨nx, w', ρ', h1, h2, h3⟩ := hd S w ρ a hr hF
 have hr' := h2.hr
 have hi' := hi.eff h2
 rw [← Hp.get_app hl] at hr' hi'
 obtain ⟨d, op, ty, ps, af, g⟩ := o
 unfold Oper.wp
 rw [h1 d ps af g]
 cases v with
 | none =>
  subst h3
  exact k S w' ρ' _ hr' hi' (hZ (hF.up h2.up) d)
 | some v =>
  obtain ⟨x, rfl, h4⟩ := h3
  exact k S w' ρ' _ hr' hi' (aS (hF.up h2.up) d h4)
theorem go_opE (hT : TabOk P T) {v : Option V} {ed : ED} (hw : aF F all o.guard = some true) (hv : eB T H.get F H.nx o.op = some (v, ed)) (k : Go P K Q (.ops all rest) s n (F.seto o.dst (oq v)) (H.app ed)) : Go P K Q (.ops all (o :: rest)) s n F H :=
 go_opD hw (fun S w ρ a hr hF => kL hT hr hF H.get_free hv) (iI hv) k
theorem go_opC {fid : FuncId} {args : List Operand} {tys : Array TypeId} {vs : List V} {Post : V → Hp → Prop} (he : bI P fid = true) (ho : o.op = .call { callee := .value (.func fid), args := args.toArray, argTypes := tys }) (hw : aF F all o.guard = some true) (hv : db F args = some vs) (hC : CallR P K fid vs H [] Post)
  (k : ∀ v H', Post v H' → Go P K Q (.ops all rest) s n (F.seto o.dst (some v)) H') : Go P K Q (.ops all (o :: rest)) s n F H := fun S w ρ a hr hi hF => by
 show wpList P all (bq P Q s) (o :: rest) a w
 unfold wpList
 rw [if_pos (aN hF hw)]
 refine .inl ?_
 obtain ⟨xs, h1, h2⟩ := fK hF hv
 have hc := hC S w ρ xs hr hi h2
 obtain ⟨d, op, ty, ps, af, g⟩ := o
 simp only at ho
 subst ho
 have hx : (execOp a.eval ⟨d, .call { callee := .value (.func fid), args := args.toArray, argTypes := tys }, ty, ps, af, g⟩).run P w = .ok (.enter fid xs.toArray) w := by
  have e : args.toArray.map a.eval = xs.toArray := by rw [← hF.fr.vals h1]; simp
  simp only [execOp, resolve, e]
  simp [Act.eval, Deferred.ofValue, invoke, fa he]
 unfold Oper.wp
 rw [hx, Oper.upon_enter]
 refine hc.mono fun e w1 hR => ?_
 obtain ⟨x, S', ρ', v, H', rfl, hp, hr', hi', hu, hvr, _⟩ := hR
 exact k v H' hp S' w1 ρ' _ hr' hi' (aS (hF.up hu) d hvr)
theorem pS {id : Nat} {l : List Oper} (L : List Nat) (m sz : Nat) (hsz : l.length = sz) (hm : P.follows .mixedOrders = true) (hs : Region.noSelect l.toArray = true) (k : Go P K Q (.drw l.toArray L m sz (Array.replicate sz false)) s n F H) : Go P K Q (.code (.region id l.toArray true)) s n F H := fun S w ρ a hr hi hF => by
 refine wp_region_noPanic (wp_region_any hm (mc (B := Agree S { w with drawn := w.drawn + 1 }) (S := Ls ρ L { w with drawn := w.drawn + 1 }) (m := m) _ _ _ _ ?_))
 have hc := Chg.drew w
 have := k S { w with drawn := w.drawn + 1 } ρ a (hr.chg0 hc) (hi.chg0 hc) (hF.up (Up.chg0 hc)) hs
 subst hsz
 simpa using this
variable {L : List Nat} {m left i : Nat} {listed : Array Bool}
theorem oI (hd : Region.ready .any all listed = []) (k : Go P K Q (.ex .normal) s n F H) : Go P K Q (.drw all L m left listed) s n F H := fun S w ρ a hr hi hF _ => by
 have hk := k S w ρ a hr hi hF
 cases left with
 | zero => exact ⟨hd, hk⟩
 | succ left => exact ⟨fun _ => hk, by rw [hd]; simp⟩
theorem jI {S S' : Nat → Prop} {w w' : World} (hS : ∀ b, S b → S' b) (h1 : Agree S w w') : ∀ x, Agree S' w' x → Agree S w x := fun x hx b hb => (hx b (hS b hb)).trans (h1 b hb)
theorem uU {ρ ρ' : Nat → Option Value} {w w' : World} (hρ : ∀ i x, ρ i = some x → ρ' i = some x) (h1 : Ls ρ L w w') : ∀ x, Ls ρ' L w' x → Ls ρ L w x := fun x hx id hid y b hy hb => (hx id hid y b (hρ _ _ hy) hb).trans (h1 id hid y b hy hb)
theorem dj {S S' : Nat → Prop} {w w' : World} {ρ ρ' : Nat → Option Value} {a : Act} (hu : Up S S' w w' ρ ρ') (hA : Agree S w w') (hL : Ls ρ L w w' ∨ listed.getD m false = true) (h : wpB P all (NoPanic (bq P Q s)) (Agree S' w') (Ls ρ' L w') m left listed a w') :
  Agree S w w' ∧ (Ls ρ L w w' ∨ listed.getD m false = true) ∧ wpB P all (NoPanic (bq P Q s)) (Agree S w) (Ls ρ L w) m left listed a w' := by
 refine ⟨hA, hL, ?_⟩
 rcases hL with hL | hL
 ·exact ll (jI hu.s hA) (fun x _ => uU hu.r hL x) _ _ _ _ h
 · -- number m has come up: S does not matter any more
  have key : ∀ (fuel : Nat) (listed : Array Bool) (a : Act) (w'' : World), listed.getD m false = true → wpB P all (NoPanic (bq P Q s)) (Agree S' w') (Ls ρ' L w') m fuel listed a w'' → wpB P all (NoPanic (bq P Q s)) (Agree S w) (Ls ρ L w) m fuel listed a w'' := by
   intro fuel
   induction fuel with
   | zero => intro _ _ _ _ h; exact h
   | succ fuel ih =>
    intro listed a w'' hl h
    exact ⟨h.1, fun i hi => wpOp_mono (fun a' w3 h' => ⟨jI hu.s hA _ h'.1, .inr (em hl), ih _ _ _ (em hl) h'.2.2⟩) (h.2 i hi)⟩
  exact key _ _ _ _ hL h
theorem fT {ρ : Nat → Option Value} {w : World} : Ls ρ L w w := fun _ _ _ _ _ _ => rfl
theorem tT {v : V} (him : Nat.beq i m = false) (hi : all[i]? = some o) (hf : Region.free .any all listed i = true) (hrd : (Region.ready .any all listed).contains i = true) (hw : aF F all o.guard = some true) (hy : ∀ S w ρ a, HRel S w ρ H.get → FRel S w ρ a n F → Yld P S w ρ a o.type o.op v)
  (k : Go P K Q (.drw all L m left (listed.setIfInBounds i true)) s n (F.seto o.dst (some v)) H) : Go P K Q (.drw all L m (left + 1) listed) s n F H := fun S w ρ a hr hiv hF hs => by
 obtain ⟨x, h1, h2⟩ := hy S w ρ a hr hF
 refine wpB_pure (Nat.ne_of_beq_eq_false him) hi (Region.noSelect_spec hs) (fun _ _ _ h => h.elim) left listed a w (Region.free_spec hi hf) (by simpa using hrd) (.inl ⟨aN hF hw, fun w' hA => ?_⟩) Agree.refl (.inl fT) (k S w ρ _ hr hiv (aS hF o.dst h1) hs)
 obtain ⟨d, op, ty, ps, af, g⟩ := o
 exact h2 w' hA d ps af g
theorem tN (hT : TabOk P T) {v : V} (him : Nat.beq i m = false) (hi : all[i]? = some o) (hf : Region.free .any all listed i = true) (hrd : (Region.ready .any all listed).contains i = true) (hw : aF F all o.guard = some true) (hv : fu T H.get F o.op = some v)
 (k : Go P K Q (.drw all L m left (listed.setIfInBounds i true)) s n (F.seto o.dst (some v)) H) : Go P K Q (.drw all L m (left + 1) listed) s n F H := tT him hi hf hrd hw (fun S w ρ a hr hF => jP hT hr hF hv) k
theorem qI (him : Nat.beq i m = false) (hi : all[i]? = some o) (hf : Region.free .any all listed i = true) (hrd : (Region.ready .any all listed).contains i = true) (hw : aF F all o.guard = some false)
  (k : Go P K Q (.drw all L m left (listed.setIfInBounds i true)) s n (F.seto o.dst (some (.tup []))) H) : Go P K Q (.drw all L m (left + 1) listed) s n F H := fun S w ρ a hr hiv hF hs =>
 wpB_pure (Nat.ne_of_beq_eq_false him) hi (Region.noSelect_spec hs) (fun _ _ _ h => h.elim) left listed a w (Region.free_spec hi hf) (by simpa using hrd) (.inr ⟨aN hF hw, rfl⟩) Agree.refl (.inl fT) (k S w ρ _ hr hiv (hZ hF o.dst) hs)
def jg (F : Fm) (op : Op) : Option Nat := match op with
 |.load _ x => match az F x with
  | some (.ptr id _) => some id
  | some (.el id _ _ _) => some id
  | _ => none
 | _ => none
theorem rC (hT : TabOk P T) {S : Nat → Prop} {w : World} {ρ : Nat → Option Value} {h : Nat → Ob} {a : Act} {op : Op} {ty : TypeId} {id nid : Nat} {v : V} {ed : ED} (hr : HRel S w ρ h) (hF : FRel S w ρ a n F) (hid : jg F op = some id) (hv : eB T h F nid op = some (some v, ed)) :
  ∃ x u b, VRel S w ρ v x ∧ ρ id = some u ∧ vblk u = some b ∧ ∀ w', w'.heap[b]? = w.heap[b]? → Runs P a ty op w' (.value x) w' := by
 have fr := hF.fr
 unfold jg at hid
 split at hid
 ·rename_i t x
  unfold eB at hv
  simp only at hv
  split at hid
  ·rename_i id' o' hx
   injection hid with hid; subst hid
   rw [hx] at hv
   simp only at hv
   split at hv
   ·rename_i d hd
    split at hv
    ·rename_i ho
     split at hv
     ·rename_i u hu
      simp only [Option.some.injEq, Prod.mk.injEq] at hv
      obtain ⟨rfl, rfl⟩ := hv
      rcases fL (hT.ty _ _ hd) hu with ⟨h1, h2⟩ | ⟨h1, h2, rfl⟩
      ·obtain ⟨b, y, g1, g2, g3, g4⟩ := pE (P := P) (ty := ty) hr fr (al hF hx) ho h1 h2
       exact ⟨y, _, b, g3, g1, rfl, fun w' hw => g4 w' ((World.cell?_of_block (a := ⟨b, _, none⟩) hw).trans g2)⟩
      ·obtain ⟨b, ys, g1, g2, g3, g4⟩ := ov (P := P) (ty := ty) hr fr (al hF hx) ho h1 h2
       exact ⟨_, _, b, by simp only [VRel]; exact ⟨ys, rfl, g3⟩, g1, rfl, fun w' hw => g4 w' (fun j hj => (World.cell?_of_block (a := ⟨b, _, none⟩) hw).trans (g2 j hj))⟩
     ·cases hv
    ·cases hv
   ·cases hv
  ·rename_i id' sz i' o' hx
   injection hid with hid; subst hid
   rw [hx] at hv
   simp only at hv
   split at hv
   ·rename_i d hd
    split at hv
    ·rename_i ho
     split at hv
     ·rename_i hb
      have := Nat.eq_of_beq_eq_true hb
      subst this
      split at hv
      ·rename_i v0 hi
       rw [fp] at hi
       split at hv
       ·rename_i u hu
        simp only [Option.some.injEq, Prod.mk.injEq] at hv
        obtain ⟨rfl, rfl⟩ := hv
        have hbk : ∀ (q : Value) (b : Nat), q.ownBlock = some b → vblk q = some b := fun q b hq => by
         cases q <;> first | (simp only [Value.ownBlock] at hq; cases hq; done) | skip
         rename_i A _ _
         cases A <;> simp_all [Value.ownBlock, vblk]
        rcases fL (hT.ty _ _ hd) hu with ⟨h1, h2⟩ | ⟨h1, h2, rfl⟩
        ·obtain ⟨b, q, y, g1, g1', g2, g3, g4⟩ := oZ (P := P) (ty := ty) hr fr (al hF hx) ho h1 hi h2
         exact ⟨y, q, b, g3, g1, hbk q b g1', fun w' hw => g4 w' ((World.cell?_of_block (a := ⟨b, _, none⟩) hw).trans g2)⟩
        ·obtain ⟨b, q, ys, g1, g1', g2, g3, g4⟩ := mY (P := P) (ty := ty) hr fr (al hF hx) ho h1 hi h2
         exact ⟨_, q, b, by simp only [VRel]; exact ⟨ys, rfl, g3⟩, g1, hbk q b g1', fun w' hw => g4 w' (fun j hj => (World.cell?_of_block (a := ⟨b, _, none⟩) hw).trans (g2 j hj))⟩
       ·cases hv
      ·cases hv
     ·cases hv
    ·cases hv
   ·cases hv
  ·cases hid
 ·cases hid
theorem tR (hT : TabOk P T) {v : V} {id : Nat} {ed : ED} (him : Nat.beq i m = false) (hwt : ma .any all m i = true) (hlm : listed.getD m false = false) (hi : all[i]? = some o) (hf : Region.free .any all listed i = true) (hrd : (Region.ready .any all listed).contains i = true) (hw : aF F all o.guard = some true)
  (hid : jg F o.op = some id) (hL : L.contains id = true) (hv : eB T H.get F H.nx o.op = some (some v, ed))
  (k : Go P K Q (.drw all L m left (listed.setIfInBounds i true)) s n (F.seto o.dst (some v)) H) : Go P K Q (.drw all L m (left + 1) listed) s n F H := fun S w ρ a hr hiv hF hs => by
 obtain ⟨x, u, b, h1, h2, h3, h4⟩ := rC (ty := o.type) hT hr hF hid hv
 refine tc (Nat.ne_of_beq_eq_false him) hwt hi (Region.noSelect_spec hs) (fun _ _ _ h => h.elim) left listed a w (Region.free_spec hi hf) (by simpa using hrd) (.inl ⟨aN hF hw, fun w' hA => ?_⟩) Agree.refl fT hlm (k S w ρ _ hr hiv (aS hF o.dst h1) hs)
 have hb := hA.2 id (by simpa using hL) u b h2 h3
 obtain ⟨d, op, ty, ps, af, g⟩ := o
 exact h4 w' hb d ps af g
def bg (h : Nat → Ob) : List Nat → Bool
 | [] => true
 |i :: r => match h i with
  | .var _ _ => bg h r
  | .row _ _ _ => bg h r
  | _ => false
theorem eK {S : Nat → Prop} {w : World} {ρ : Nat → Option Value} {h : Nat → Ob} (hr : HRel S w ρ h) : ∀ {L : List Nat}, bg h L = true → ∀ id, id ∈ L → ∀ x b, ρ id = some x → vblk x = some b → own ρ id (h id) b
 | [], _, id, hid, x, b, hx, hb => by simp at hid
 | j :: r, hl, id, hid, x, b, hx, hb => by
  have hown : ∀ o, h j = o → (∃ t cs, o = .var t cs) ∨ (∃ e sz els, o = .row e sz els) → ∀ x b, ρ j = some x → vblk x = some b → own ρ j (h j) b := by
   rintro o ho (⟨t, cs, rfl⟩ | ⟨e, sz, els, rfl⟩) x b hx hb
   ·obtain ⟨c, xs, g1, _⟩ := il hr ho
    rw [g1] at hx; cases hx
    simp only [vblk, Option.some.injEq] at hb; subst hb
    rw [ho]; exact g1
   ·obtain ⟨v, xs, g1, g2, _⟩ := dE hr ho
    rw [g1] at hx; cases hx
    rw [ho]
    refine ⟨_, g1, ?_⟩
    obtain ⟨A, c, rfl, _⟩ := ca g2
    cases A <;> simp_all [Value.ownBlock, vblk]
  simp only [bg] at hl
  rcases List.mem_cons.1 hid with e | e
  ·subst e
   split at hl
   ·rename_i t cs ho; exact hown _ ho (.inl ⟨t, cs, rfl⟩) x b hx hb
   ·rename_i e sz els ho; exact hown _ ho (.inr ⟨e, sz, els, rfl⟩) x b hx hb
   ·cases hl
  ·split at hl
   ·exact eK hr hl id e x b hx hb
   ·exact eK hr hl id e x b hx hb
   ·cases hl
def ED.clear (L : List Nat) : ED → Bool
 | .nop => true
 | .new _ => true
 | .set id _ => !L.contains id
 | .repl id _ => !L.contains id
theorem pd {S : Nat → Prop} {w w' : World} {ρ ρ' : Nat → Option Value} {h h' : Nat → Ob} {ed : ED} (hr : HRel S w ρ h) (he : Eff S w w' ρ ρ' h h' ed.tch) (hl : bg h L = true) (hc : ed.clear L = true) : Ls ρ L w w' := fun id hid x b hx hb => by
 have ho := eK hr hl id hid x b hx hb
 refine he.chg.block b (cd (hr.ob id) ho) ?_
 rintro ⟨j, hj, hjo⟩
 have e := hr.dis j id b hjo ho
 subst e
 cases ed with
 | nop => exact hj
 | new _ => exact hj
 | set k _ => simp only [ED.tch] at hj; subst hj; simp [ED.clear] at hc; exact hc hid
 | repl k _ => simp only [ED.tch] at hj; subst hj; simp [ED.clear] at hc; exact hc hid
theorem kH {a b : Bool} (h : (a || b) = true) : a = true ∨ b = true := by simpa using h
theorem fP {S : Nat → Prop} {B : World → Prop} {Sx : World → Prop} {a : Act} {w : World} {Q' : Exit → Act → World → Prop} (hrd : Region.ready .any all listed = [i]) (hk : wpOp P all Q' i (fun a' w' => B w' ∧ (Sx w' ∨ (listed.setIfInBounds i true).getD m false = true) ∧ wpB P all Q' B Sx m left (listed.setIfInBounds i true) a' w') a w) : wpB P all Q' B Sx m (left + 1) listed a w := by
 refine ⟨fun h0 => (by rw [hrd] at h0; cases h0), fun j hj => ?_⟩
 rw [hrd] at hj
 obtain rfl : j = i := by simpa using hj
 exact hk
theorem go_d1S (hrd : Region.ready .any all listed = [i]) (hi : all[i]? = some o) (hw : aF F all o.guard = some false) (k : Go P K Q (.drw all L m left (listed.setIfInBounds i true)) s n (F.seto o.dst (some (.tup []))) H) : Go P K Q (.drw all L m (left + 1) listed) s n F H := fun S w ρ a hr hiv hF hs => by
 refine fP (S := S) hrd ?_
 unfold wpOp
 simp only [hi]
 rw [aN hF hw]
 simp only [Bool.false_eq_true, if_false]
 exact ⟨Agree.refl, .inl fT, k S w ρ _ hr hiv (hZ hF o.dst) hs⟩
theorem sj {v : V} (hrd : Region.ready .any all listed = [i]) (hi : all[i]? = some o) (hw : aF F all o.guard = some true) (hy : ∀ S w ρ a, HRel S w ρ H.get → FRel S w ρ a n F → Yld P S w ρ a o.type o.op v)
  (k : Go P K Q (.drw all L m left (listed.setIfInBounds i true)) s n (F.seto o.dst (some v)) H) : Go P K Q (.drw all L m (left + 1) listed) s n F H := fun S w ρ a hr hiv hF hs => by
 refine fP (S := S) hrd ?_
 obtain ⟨x, h1, h2⟩ := hy S w ρ a hr hF
 unfold wpOp
 simp only [hi]
 rw [if_pos (aN hF hw)]
 refine .inl ?_
 have hk := k S w ρ _ hr hiv (aS hF o.dst h1) hs
 obtain ⟨d, op, ty, ps, af, g⟩ := o
 unfold Oper.wp
 rw [h2 w Agree.refl d ps af g]
 exact ⟨Agree.refl, .inl fT, hk⟩
theorem oB {v : Option V} {ed : ED} (hrd : Region.ready .any all listed = [i]) (hi : all[i]? = some o) (hw : aF F all o.guard = some true) (hd : ∀ S w ρ a, HRel S w ρ H.get → FRel S w ρ a n F → Does P S w ρ H.get a o.type o.op v (ed.app H.get H.nx) ed.tch) (hl : ed.ok H.get)
  (hc : ((bg H.get L && ed.clear L) || (listed.setIfInBounds i true).getD m false) = true) (k : Go P K Q (.drw all L m left (listed.setIfInBounds i true)) s n (F.seto o.dst (oq v)) (H.app ed)) : Go P K Q (.drw all L m (left + 1) listed) s n F H := fun S w ρ a hr hiv hF hs => by
 refine fP (S := S) hrd ?_
 obtain ⟨nx, w', ρ', h1, h2, h3⟩ := hd S w ρ a hr hF
 have hr' := h2.hr
 have hi' := hiv.eff h2
 rw [← Hp.get_app hl] at hr' hi'
 have hA := hG hr h2
 have hLs : Ls ρ L w w' ∨ (listed.setIfInBounds i true).getD m false = true := (kH hc).imp (fun h => by
  simp only [Bool.and_eq_true] at h
  exact pd hr h2 h.1 h.2) id
 unfold wpOp
 simp only [hi]
 rw [if_pos (aN hF hw)]
 refine .inl ?_
 have kN := fun (e : v = none) => k S w' ρ' (a.put o.dst undef) hr' hi' (by subst e; exact hZ (hF.up h2.up) o.dst) hs
 have kV := fun (x : Value) (u : V) (e : v = some u) (hx : VRel S w' ρ' u x) => k S w' ρ' (a.put o.dst x) hr' hi' (by subst e; exact aS (hF.up h2.up) o.dst hx) hs
 obtain ⟨d, op, ty, ps, af, g⟩ := o
 unfold Oper.wp
 rw [h1 d ps af g]
 cases v with
 | none =>
  subst h3
  exact dj h2.up hA hLs (kN rfl)
 | some v =>
  obtain ⟨x, rfl, h4⟩ := h3
  exact dj h2.up hA hLs (kV x v rfl h4)
theorem go_d1C {fid : FuncId} {args : List Operand} {tys : Array TypeId} {vs : List V} {Post : V → Hp → Prop} {L' : List Nat} (he : bI P fid = true) (hrd : Region.ready .any all listed = [i]) (hi : all[i]? = some o) (ho : o.op = .call { callee := .value (.func fid), args := args.toArray, argTypes := tys }) (hw : aF F all o.guard = some true) (hv : db F args = some vs) (hC : CallR P K fid vs H L' Post)
  (hc : L' = L ∨ (listed.setIfInBounds i true).getD m false = true) (k : ∀ v H', Post v H' → Go P K Q (.drw all L m left (listed.setIfInBounds i true)) s n (F.seto o.dst (some v)) H') : Go P K Q (.drw all L m (left + 1) listed) s n F H := fun S w ρ a hr hiv hF hs => by
 refine fP (S := S) hrd ?_
 obtain ⟨xs, h1, h2⟩ := fK hF hv
 have hcl := hC S w ρ xs hr hiv h2
 unfold wpOp
 simp only [hi]
 rw [if_pos (aN hF hw)]
 refine .inl ?_
 obtain ⟨d, op, ty, ps, af, g⟩ := o
 simp only at ho
 subst ho
 have hx : (execOp a.eval ⟨d, .call { callee := .value (.func fid), args := args.toArray, argTypes := tys }, ty, ps, af, g⟩).run P w = .ok (.enter fid xs.toArray) w := by
  have e : args.toArray.map a.eval = xs.toArray := by rw [← hF.fr.vals h1]; simp
  simp only [execOp, resolve, e]
  simp [Act.eval, Deferred.ofValue, invoke, fa he]
 unfold Oper.wp
 rw [hx, Oper.upon_enter]
 refine hcl.mono fun e w1 hR => ?_
 obtain ⟨x, S', ρ', v, H', rfl, hp, hr', hi', hu, hvr, hls⟩ := hR
 have hk := k v H' hp S' w1 ρ' _ hr' hi' (aS (hF.up hu) d hvr) hs
 exact dj hu (fun b hb => hu.blk b hb (hr.slt b hb)) (hc.imp (fun e => by subst e; exact hls) id) hk
end
end Go.Proofs.YthnohcipianijaaGreatDoor
namespace Go.Proofs.YthnohcipianijaaGreatDoor
open Go.RowKit
section
variable {P : Program} {T : Tab} {K : Ctx} {Q : Exit → Act → World → Prop} {s : List EI} {n : Nat} {F : Fm} {S S' : Nat → Prop} {w w' : World} {ρ ρ' : Nat → Option Value} {h h1 h1' h2 : Nat → Ob} {a : Act}
theorem oG (hr : HRel S w ρ h) (hi : Inv K S w ρ h) (hh1 : ∀ i, h1 i = h i ∨ h1 i = .gone) (hr' : HRel S' w' ρ' h1') (hi' : Inv ⟨w, S, fun b => ∃ id, own ρ id (h1 id) b, ρ⟩ S' w' ρ' h1')
  (hh2 : ∀ i, (h2 i = h1' i ∨ h2 i = .gone) ∨ (h2 i = h i ∧ h1 i = .gone ∧ h i ≠ .free)) :
  HRel S' w' ρ' h2 ∧ Inv K S' w' ρ' h2 ∧ Up S S' w w' ρ ρ' ∧ ∀ L, bg h L = true → (∀ id, id ∈ L → h1 id = .gone) → Ls ρ L w w' := by
 have h1own : ∀ id b, own ρ id (h1 id) b → own ρ id (h id) b := fun id b hb => by
  rcases hh1 id with e | e
  ·rw [e] at hb; exact hb
  ·rw [e] at hb; exact hb.elim
 have up : Up S S' w w' ρ ρ' := ⟨hi'.s0, fun b hb hlt => hi'.chg.block b hlt (fun ⟨id, ho⟩ => hr.sep id b (h1own id b ho) hb), hi'.pin⟩
 have frame : ∀ i b, h1 i = .gone → own ρ i (h i) b → ¬ ∃ id, own ρ id (h1 id) b := fun i b hg ho ⟨id, hid⟩ => by
  have e := hr.dis i id b ho (h1own id b hid)
  subst e
  rw [hg] at hid; exact hid.elim
 have cases2 : ∀ i b, own ρ' i (h2 i) b → own ρ' i (h1' i) b ∨ (h1 i = .gone ∧ own ρ i (h i) b) := fun i b hb => by
  rcases hh2 i with (e | e) | ⟨e, e1, e2⟩
  ·rw [e] at hb; exact .inl hb
  ·rw [e] at hb; exact hb.elim
  ·rw [e] at hb; exact .inr ⟨e1, rt hi'.pin (hr.ob i) hb⟩
 have far : ∀ i b, h1 i = .gone → own ρ i (h i) b → ¬ S' b := fun i b hg ho hS => by
  rcases hi'.s1 b hS with h3 | h3 | h3
  ·exact hr.sep i b ho h3
  ·exact frame i b hg ho h3
  ·have := cd (hr.ob i) ho; simp only at h3; omega
 have apart : ∀ i j b, own ρ' i (h1' i) b → h1 j = .gone → own ρ j (h j) b → False := fun i j b ho hg hb => by
  rcases hi'.ow i b ho with h3 | h3
  ·exact frame j b hg hb h3
  ·have := cd (hr.ob j) hb; simp only at h3; omega
 refine ⟨⟨fun i => ?_, fun i b hb => ?_, fun i j b hbi hbj => ?_, hr'.slt⟩, ⟨?_, fun b hb => hi'.s0 b (hi.s0 b hb), fun b hb => ?_, fun i b hb => ?_, fun id x hx => hi'.pin _ _ (hi.pin id x hx)⟩, up, fun L hl hg id hid x b hx hb => ?_⟩
 ·rcases hh2 i with (e | e) | ⟨e, e1, e2⟩
  ·rw [e]; exact hr'.ob i
  ·rw [e]; trivial
  ·rw [e]
   exact (hr.ob i).up up (fun hf => absurd hf e2) (fun b hb => hi'.chg.block b (cd (hr.ob i) hb) (frame i b e1 hb))
 ·rcases cases2 i b hb with h3 | ⟨h3, h4⟩
  ·exact hr'.sep i b h3
  ·exact far i b h3 h4
 ·rcases cases2 i b hbi with h3 | ⟨h3, h4⟩ <;> rcases cases2 j b hbj with h5 | ⟨h5, h6⟩
  ·exact hr'.dis i j b h3 h5
  ·exact (apart i j b h3 h5 h6).elim
  ·exact (apart j i b h5 h3 h4).elim
  ·exact hr.dis i j b h4 h6
 ·refine hi.chg.trans hi'.chg ?_
  rintro b ⟨id, ho⟩
  exact hi.ow id b (h1own id b ho)
 ·rcases hi'.s1 b hb with h3 | ⟨id, h3⟩ | h3
  ·exact hi.s1 b h3
  ·exact .inr (hi.ow id b (h1own id b h3))
  ·exact .inr (.inr (Nat.le_trans hi.chg.size h3))
 ·rcases cases2 i b hb with h3 | ⟨h3, h4⟩
  ·rcases hi'.ow i b h3 with ⟨id, h5⟩ | h5
   ·exact hi.ow id b (h1own id b h5)
   ·exact .inr (Nat.le_trans hi.chg.size h5)
  ·exact hi.ow i b h4
 ·have ho := eK hr hl id hid x b hx hb
  exact hi'.chg.block b (cd (hr.ob id) ho) (frame id b (hg id hid) ho)
def eD : Nat → List V → Fm
 | 0, _ => []
 | n + 1, [] => none :: eD n []
 | n + 1, v :: r => some v :: eD n r
theorem lJ : ∀ (n : Nat) (vs : List V), (eD n vs).length = n
 | 0, _ => rfl
 | n + 1, [] => by simp [eD, lJ n []]
 | n + 1, v :: r => by simp [eD, lJ n r]
theorem lI : ∀ (n : Nat) (vs : List V) (i : Nat) (v : V), (eD n vs).get i = some v → vs[i]? = some v
 | 0, _, i, v, h => by simp [eD, Fm.get] at h
 | n + 1, [], 0, v, h => by simp [eD, Fm.get] at h
 | n + 1, [], i + 1, v, h => by
  have := lI n [] i v (by simpa [eD, Fm.get] using h)
  simp at this
 | n + 1, u :: r, 0, v, h => by simpa [eD, Fm.get] using h
 | n + 1, u :: r, i + 1, v, h => by
  have := lI n r i v (by simpa [eD, Fm.get] using h)
  simpa using this
theorem lr {H : Hp} {fid : FuncId} {fn : Func} {c : Code} {vs : List V} {xs : List Value} {R : Ending → World → Prop} (hf : P.funcs[fid]? = some fn) (hb : fn.body = some c) (hl : Nat.ble vs.length fn.ntmps = true) (hr : HRel S w ρ H.get) (hi : Inv K S w ρ H.get) (hx : LRel S w ρ vs xs)
  (k : Go P K (bodyPost P fn R) (.code c) [] fn.ntmps (eD fn.ntmps vs) H) : Calls P fid xs.toArray w R := by
 refine calls_of_wp hf hb (k S w ρ _ hr hi ⟨?_, rfl, ?_, fun i v hv => ?_⟩)
 ·have h1 : vs.length ≤ fn.ntmps := Nat.le_of_ble_eq_true hl
  have h2 := hx.length
  simp; omega
 ·exact Nat.le_of_eq (lJ _ _)
 ·have h1 := lI _ _ _ _ hv
  obtain ⟨x, h2, h3⟩ := hx.get h1
  refine ⟨x, ?_, h3⟩
  have hlt : i < xs.length := (List.getElem?_eq_some_iff.1 h2).1
  show (xs.toArray ++ Array.replicate (fn.ntmps - xs.toArray.size) undef)[i]? = some x
  rw [Array.getElem?_append_left (by simpa using hlt)]
  simpa using h2
def rf (T : Tab) (h : Nat → Ob) (F : Fm) : ResultVar → Option V
 | .tmp t => F.get t
 |.cell t ty => match T.ty ty with
  |some d => match F.get t with
   |some (.ptr id 0) => match h id with
    | .var _ cs => gd d cs 0
    | _ => none
   | some (.box cs 0) => gd d cs 0
   | _ => none
  | none => none
def jt (T : Tab) (h : Nat → Ob) (F : Fm) : List ResultVar → Option (List V)
 | [] => some []
 |x :: r => match rf T h F x with
  |some v => match jt T h F r with
   | some vs => some (v :: vs)
   | none => none
  | none => none
def gb : List V → V
 | [v] => v
 | vs => .tup vs
theorem oX {t : TypeId} {d : TD} (td : TdOk P t d) {b off : Nat} {cs : List V} {xs : List Value} {v : V} (hl : LRel S w ρ cs xs) (hc : ∀ j, j < xs.length → w.cell? ⟨b, off + j, none⟩ = xs[j]?) (hv : gd d cs 0 = some v) : ∃ y, (loadVar t ⟨b, off, none⟩).run P w = .ok y w ∧ VRel S w ρ v y := by
 have hlen := hl.length
 rcases fL td hv with ⟨h1, h2⟩ | ⟨h1, h2, rfl⟩
 ·obtain ⟨y, h3, h4⟩ := hl.get h2
  have h0 : 0 < xs.length := (List.getElem?_eq_some_iff.1 h3).1
  have := mP (P := P) (w := w) (p := ⟨b, off, none⟩) h1 (by have := hc 0 h0; rw [Nat.add_zero] at this; rw [this, h3])
  refine ⟨y, ?_, h4⟩
  simp only [Instr.loadAt, Instr.sureAddr] at this
  simpa using this
 ·have := mV (P := P) (w := w) (b := b) (o := off) (cs := xs.take d.size) h1 (by simp; omega) (fun j hj => by rw [hc j (by omega), List.getElem?_take, if_pos hj])
  refine ⟨_, ?_, by simp only [VRel]; exact ⟨xs.take d.size, rfl, by simpa using hl.take d.size⟩⟩
  simp only [Instr.loadAt, Instr.sureAddr] at this
  simpa using this
theorem ta (hT : TabOk P T) (hr : HRel S w ρ h) (hF : FRel S w ρ a n F) {x : ResultVar} {v : V} (hv : rf T h F x = some v) : ∃ y, (lj a x).run P w = .ok y w ∧ VRel S w ρ v y := by
 unfold rf at hv
 split at hv
 ·rename_i t
  obtain ⟨y, h1, h2⟩ := hF.get t v hv
  exact ⟨y, by simp [lj, Array.getD_eq_getD_getElem?, h1], h2⟩
 ·rename_i t ty
  split at hv
  ·rename_i d hd
   split at hv
   ·rename_i id hid
    split at hv
    ·rename_i ho
     obtain ⟨b, xs, g1, g2, g3⟩ := il hr ho
     obtain ⟨y, h1, h2⟩ := hF.get t _ hid
     simp only [VRel] at h2
     obtain ⟨b', h3, rfl⟩ := h2
     rw [g1] at h3
     simp only [Option.some.injEq, Value.pointer.injEq, Addr.mk.injEq, and_true] at h3
     subst h3
     obtain ⟨z, k1, k2⟩ := oX (hT.ty _ _ hd) g3 (b := b) (off := 0) (fun j hj => by rw [Nat.zero_add, g2.cell]) hv
     exact ⟨z, by simp [lj, Array.getD_eq_getD_getElem?, h1, asAddr, k1], k2⟩
    ·cases hv
   ·rename_i cs hid
    obtain ⟨y, h1, h2⟩ := hF.get t _ hid
    simp only [VRel] at h2
    obtain ⟨b, off, xs, rfl, _, _, g3, g4⟩ := h2
    obtain ⟨z, k1, k2⟩ := oX (hT.ty _ _ hd) g3 (b := b) (off := off) g4 hv
    exact ⟨z, by simp [lj, Array.getD_eq_getD_getElem?, h1, asAddr, k1], k2.up up0⟩
   ·cases hv
  ·cases hv
theorem pX (hT : TabOk P T) (hr : HRel S w ρ h) (hF : FRel S w ρ a n F) : ∀ {l : List ResultVar} {vs : List V}, jt T h F l = some vs → ∃ ys, (l.mapM (lj a)).run P w = .ok ys w ∧ LRel S w ρ vs ys
 | [], vs, hv => by simp only [jt, Option.some.injEq] at hv; subst hv; exact ⟨[], by simp, by simp [LRel]⟩
 | x :: r, vs, hv => by
  simp only [jt] at hv
  split at hv
  ·rename_i v h1
   split at hv
   ·rename_i us h2
    simp only [Option.some.injEq] at hv; subst hv
    obtain ⟨y, g1, g2⟩ := ta hT hr hF h1
    obtain ⟨ys, g3, g4⟩ := pX hT hr hF h2
    exact ⟨y :: ys, by simp [List.mapM_cons, g1, g3], ⟨y, ys, rfl, g2, g4⟩⟩
   ·cases hv
  ·cases hv
theorem pB {vs : List V} {ys : List Value} (hl : LRel S w ρ vs ys) : VRel S w ρ (gb vs) (kg ys) := by
 match vs, ys, hl with
 | [], ys, hl => simp only [LRel] at hl; subst hl; simp only [gb, kg, VRel]; exact ⟨[], rfl, by simp [LRel]⟩
 | [v], ys, hl =>
  simp only [LRel] at hl
  obtain ⟨x, zs, rfl, h1, rfl⟩ := hl
  exact h1
 | v :: u :: r, ys, hl =>
  have hl' := hl
  simp only [LRel] at hl
  obtain ⟨x, zs, rfl, h1, y, zs', rfl, h2, h3⟩ := hl
  simp only [gb, kg, VRel]
  exact ⟨_, rfl, hl'⟩
theorem ret_go (hT : TabOk P T) {fn : Func} {R : Ending → World → Prop} {rs : List ResultVar} {vs : List V} {e : Exit} (he : e = .ret ∨ e = .normal) (hrs : fn.results = rs.toArray) (hr : HRel S w ρ h) (hF : FRel S w ρ a n F) (hv : jt T h F rs = some vs) (hR : ∀ x, VRel S w ρ (gb vs) x → R (.returned x) w) : bodyPost P fn R e a w := by
 obtain ⟨ys, h0, h1⟩ := pX hT hr hF hv
 have hb : bodyPost P fn R .ret a w := by
  refine bodyPost_ret (v := kg ys) ?_ hF.defers (hR _ (pB h1))
  have e : (Array.mapM (lj a) rs.toArray).run P w = .ok ys.toArray w := by rw [List.mapM_toArray]; simp [h0]
  unfold results
  rw [hrs]
  change ((Array.mapM (lj a) rs.toArray) >>= fun vs => pure (if h : vs.size = 1 then vs[0] else .tuple vs)).run P w = _
  simp only [Sem.run_bind, e, Result.andThen_ok, Sem.run_pure]
  match ys with
  | [] => rfl
  | [v] => rfl
  | v :: u :: r => simp [kg]
 rcases he with rfl | rfl
 ·exact hb
 ·exact hb
end
end Go.Proofs.YthnohcipianijaaGreatDoor
