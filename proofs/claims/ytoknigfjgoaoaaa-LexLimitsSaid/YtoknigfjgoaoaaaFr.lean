/- A frame of which only some slots are known; one lemma for each kind of operation. For great regions that run in order. -/
import Derived.Test.YtoknigfjgoaoaaaProg
import Derived.WalkKit
import Derived.WalkMore
import Derived.Lib.Hide
namespace Go.Proofs.Ytoknigfjgoaoaaa
open Go.RowKit
set_option linter.unusedSimpArgs false
set_option linter.unusedVariables false

structure Fr (a : Act) (n : Nat) (f : Nat → Option Value) : Prop where
  size : a.tmps.size = n
  defers : a.defers = []
  get : ∀ i v, f i = some v → a.tmps[i]? = some v

def up (f : Nat → Option Value) (d : Nat) (v : Value) : Nat → Option Value := fun i => match Nat.beq i d with | true => some v | false => f i
def fr0 : Nat → Option Value := fun _ => none

def look (f : Nat → Option Value) (ops : Array Oper) (j : Nat) : Option Value := ((ops[j]?).bind (·.dst)).bind f
def wantF (f : Nat → Option Value) (ops : Array Oper) (g : Option (Nat × Bool)) : Bool :=
  match g with
  | none => true
  | some (j, b) => match look f ops j with
    | some (.bool c) => c == b
    | _ => false
def skipF (f : Nat → Option Value) (ops : Array Oper) (g : Option (Nat × Bool)) : Bool :=
  match g with
  | none => false
  | some (j, b) => match look f ops j with
    | some (.bool c) => c != b
    | some (.tuple _) => true
    | _ => false
/-- The value of an operand. -/
def valF (f : Nat → Option Value) : Operand → Option Value
  | .tmp t => f t
  | .const v => some v
  | .global g => some (.pointer (some ⟨g, 0, none⟩))
  | .func g => some (.func (.func g) #[] #[])

section
variable {P : Program} {ops : Array Oper} {Q : Exit → Act → World → Prop} {a : Act} {w : World} {rest : List Oper} {n : Nat} {f : Nat → Option Value}

theorem Fr.eval (h : Fr a n f) {x : Operand} {v : Value} (hx : valF f x = some v) : a.eval x = v := by
  cases x with
  | tmp t =>
    have := h.get t v hx
    simp [Act.eval, Array.getD_eq_getD_getElem?, this]
  | const u => simpa [valF, Act.eval] using hx
  | global g => simpa [valF, Act.eval] using hx
  | func g => simpa [valF, Act.eval] using hx
theorem Fr.put (h : Fr a n f) {d : Nat} (hd : Nat.blt d n = true) (v : Value) : Fr (a.put (some d) v) n (up f d v) := by
  have hd' : d < n := by simpa using hd
  refine ⟨by simp [Act.put, h.size], h.defers, fun i u hi => ?_⟩
  simp only [up] at hi
  simp only [Act.put]
  split at hi
  · rename_i hb
    have : i = d := Nat.eq_of_beq_eq_true hb
    subst this
    rw [Array.getElem?_setIfInBounds]
    simp [h.size, hd']; simpa using hi
  · rename_i hb
    have : ¬ i = d := fun e => by subst e; simp at hb
    rw [Array.getElem?_setIfInBounds, if_neg (fun e => this e.symm)]
    exact h.get i u hi
theorem Fr.le (h : Fr a n f) {g : Nat → Option Value} (hg : ∀ i v, g i = some v → f i = some v) : Fr a n g := ⟨h.size, h.defers, fun i v hi => h.get i v (hg i v hi)⟩

theorem yield_of (h : Fr a n f) {j : Nat} {b : Bool} (hl : look f ops j = some (.bool b)) : yielded ops a.tmps j = some b := by
  unfold look at hl
  unfold yielded
  cases hd : (ops[j]?).bind (·.dst) with
  | none => rw [hd] at hl; cases hl
  | some d =>
    rw [hd] at hl
    have := h.get d _ hl
    simp [this]
theorem yield_none (h : Fr a n f) {j : Nat} {vs : Array Value} (hl : look f ops j = some (.tuple vs)) : yielded ops a.tmps j = none := by
  unfold look at hl
  unfold yielded
  cases hd : (ops[j]?).bind (·.dst) with
  | none => rw [hd] at hl; cases hl
  | some d =>
    rw [hd] at hl
    have := h.get d _ hl
    simp [this]
theorem want_of (h : Fr a n f) {o : Oper} (hw : wantF f ops o.guard = true) : Region.wanted o (yielded ops a.tmps) = true := by
  unfold Region.wanted
  unfold wantF at hw
  split at hw
  · rename_i hg; rw [hg]
  · rename_i j b hg
    rw [hg]
    split at hw
    · rename_i c hl
      show (yielded ops a.tmps j == some b) = true
      rw [yield_of h hl]; simpa using hw
    · cases hw
theorem skip_of (h : Fr a n f) {o : Oper} (hw : skipF f ops o.guard = true) : Region.wanted o (yielded ops a.tmps) = false := by
  unfold Region.wanted
  unfold skipF at hw
  split at hw
  · cases hw
  · rename_i j b hg
    rw [hg]
    split at hw
    · rename_i c hl
      show (yielded ops a.tmps j == some b) = false
      rw [yield_of h hl]; cases c <;> cases b <;> first | rfl | cases hw
    · rename_i vs hl
      show (yielded ops a.tmps j == some b) = false
      rw [yield_none h hl]; rfl
    · cases hw

/-- An operation that is passed over. -/
theorem st_skip {d : Nat} {op : Op} {ty : TypeId} {ps : String} {af : Array Edge} {g : Option (Nat × Bool)} (h : Fr a n f) (hw : skipF f ops g = true) (hd : Nat.blt d n = true)
    (k : ∀ a', Fr a' n (up f d undef) → wpList P ops Q rest a' w) : wpList P ops Q (⟨some d, op, ty, ps, af, g⟩ :: rest) a w := by
  unfold wpList
  rw [if_neg (by rw [skip_of h (o := ⟨some d, op, ty, ps, af, g⟩) hw]; simp)]
  exact k _ (h.put hd undef)
/-- An operation that yields a value and leaves the world alone. -/
theorem st_val {d : Nat} {op : Op} {ty : TypeId} {ps : String} {af : Array Edge} {g : Option (Nat × Bool)} {v : Value} (h : Fr a n f) (hw : wantF f ops g = true) (hd : Nat.blt d n = true)
    (he : (execOp a.eval ⟨some d, op, ty, ps, af, g⟩).run P w = .ok (.value v) w)
    (k : ∀ a', Fr a' n (up f d v) → wpList P ops Q rest a' w) : wpList P ops Q (⟨some d, op, ty, ps, af, g⟩ :: rest) a w := by
  unfold wpList
  rw [if_pos (want_of h (o := ⟨some d, op, ty, ps, af, g⟩) hw)]
  refine .inl ?_
  unfold Oper.wp
  rw [he]
  exact k _ (h.put hd v)

variable {d : Nat} {ty : TypeId} {ps : String} {af : Array Edge} {g : Option (Nat × Bool)}
theorem st_move {x : Operand} {v : Value} (h : Fr a n f) (hw : wantF f ops g = true) (hd : Nat.blt d n = true) (hx : valF f x = some v)
    (k : ∀ a', Fr a' n (up f d v) → wpList P ops Q rest a' w) : wpList P ops Q (⟨some d, .move x, ty, ps, af, g⟩ :: rest) a w :=
  st_val h hw hd (by rw [← h.eval hx]; rfl) k
theorem st_assign {x : Operand} {v : Value} (h : Fr a n f) (hw : wantF f ops g = true) (hd : Nat.blt d n = true) (hx : valF f x = some v)
    (k : ∀ a', Fr a' n (up f d v) → wpList P ops Q rest a' w) : wpList P ops Q (⟨some d, .assign x, ty, ps, af, g⟩ :: rest) a w :=
  st_val h hw hd (by rw [← h.eval hx]; rfl) k
theorem st_pickT {c x y : Operand} {v : Value} (h : Fr a n f) (hw : wantF f ops g = true) (hd : Nat.blt d n = true) (hc : valF f c = some (.bool true)) (hx : valF f x = some v)
    (k : ∀ a', Fr a' n (up f d v) → wpList P ops Q rest a' w) : wpList P ops Q (⟨some d, .pick c x y, ty, ps, af, g⟩ :: rest) a w :=
  st_val h hw hd (by simp [execOp, h.eval hc, h.eval hx, asBool]) k
theorem st_pickF {c x y : Operand} {v : Value} (h : Fr a n f) (hw : wantF f ops g = true) (hd : Nat.blt d n = true) (hc : valF f c = some (.bool false)) (hy : valF f y = some v)
    (k : ∀ a', Fr a' n (up f d v) → wpList P ops Q rest a' w) : wpList P ops Q (⟨some d, .pick c x y, ty, ps, af, g⟩ :: rest) a w :=
  st_val h hw hd (by simp [execOp, h.eval hc, h.eval hy, asBool]) k
theorem st_not {t : TypeId} {x : Operand} {b c : Bool} (h : Fr a n f) (hw : wantF f ops g = true) (hd : Nat.blt d n = true) (hx : valF f x = some (.bool b)) (hc : (!b) = c)
    (k : ∀ a', Fr a' n (up f d (.bool c)) → wpList P ops Q rest a' w) : wpList P ops Q (⟨some d, .unOp .not t x, ty, ps, af, g⟩ :: rest) a w :=
  st_val h hw hd (by subst hc; simp only [execOp, h.eval hx]; simp [go_sem]) k
theorem st_eqI {t u : TypeId} {x y : Operand} {k1 : IntKind} {m l : Int} {c : Bool} (h : Fr a n f) (hw : wantF f ops g = true) (hd : Nat.blt d n = true) (hx : valF f x = some (.int k1 m)) (hy : valF f y = some (.int k1 l)) (hc : (m == l) = c)
    (k : ∀ a', Fr a' n (up f d (.bool c)) → wpList P ops Q rest a' w) : wpList P ops Q (⟨some d, .binOp .eql t x y u, ty, ps, af, g⟩ :: rest) a w :=
  st_val h hw hd (by subst hc; simp only [execOp, h.eval hx, h.eval hy]; simp [go_sem, eqGuard]) k
theorem st_eqB {t u : TypeId} {x y : Operand} {m l : Bool} {c : Bool} (ht : P.underlying t = some .bool) (h : Fr a n f) (hw : wantF f ops g = true) (hd : Nat.blt d n = true) (hx : valF f x = some (.bool m)) (hy : valF f y = some (.bool l)) (hc : (m == l) = c)
    (k : ∀ a', Fr a' n (up f d (.bool c)) → wpList P ops Q rest a' w) : wpList P ops Q (⟨some d, .binOp .eql t x y u, ty, ps, af, g⟩ :: rest) a w :=
  st_val h hw hd (by subst hc; simp only [execOp, h.eval hx, h.eval hy]; simp [go_sem, eqGuard, ht]) k
theorem st_eqS {t u : TypeId} {x y : Operand} {m l : List UInt8} {c : Bool} (h : Fr a n f) (hw : wantF f ops g = true) (hd : Nat.blt d n = true) (hx : valF f x = some (.string ⟨m.toArray⟩)) (hy : valF f y = some (.string ⟨l.toArray⟩)) (hc : (m == l) = c)
    (k : ∀ a', Fr a' n (up f d (.bool c)) → wpList P ops Q rest a' w) : wpList P ops Q (⟨some d, .binOp .eql t x y u, ty, ps, af, g⟩ :: rest) a w :=
  st_val h hw hd (by subst hc; simp only [execOp, h.eval hx, h.eval hy]; simp [go_sem, eqGuard]) k
theorem st_len {t e : TypeId} {x : Operand} {A : Option Addr} {m c : Nat} (ht : P.underlying t = some (.slice e)) (h : Fr a n f) (hw : wantF f ops g = true) (hd : Nat.blt d n = true) (hx : valF f x = some (.slice A m c))
    (k : ∀ a', Fr a' n (up f d (.int .i64 m)) → wpList P ops Q rest a' w) : wpList P ops Q (⟨some d, .call { callee := .builtin .len, args := #[x], argTypes := #[t] }, ty, ps, af, g⟩ :: rest) a w :=
  st_val h hw hd (by simp only [execOp, resolve, List.map_toArray, List.map_cons, List.map_nil, h.eval hx]; simp [go_sem, resolve, invoke, builtin, ht]) k
theorem st_load {t : TypeId} {x : Operand} {p : Addr} {v : Value} (hv : Instr.loadAt t (.pointer (some p)) = Instr.loadAt t (.pointer (some p)) → (Instr.loadAt t (.pointer (some p))).run P w = .ok v w) (h : Fr a n f) (hw : wantF f ops g = true) (hd : Nat.blt d n = true) (hx : valF f x = some (.pointer (some p)))
    (k : ∀ a', Fr a' n (up f d v) → wpList P ops Q rest a' w) : wpList P ops Q (⟨some d, .load t x, ty, ps, af, g⟩ :: rest) a w :=
  st_val h hw hd (by simp [execOp, h.eval hx, hv rfl]) k
theorem st_index {t : TypeId} {x y : Operand} {A : Value} {i : Value} {v : Value} (hv : (Instr.indexAt t A i).run P w = .ok v w) (h : Fr a n f) (hw : wantF f ops g = true) (hd : Nat.blt d n = true) (hx : valF f x = some A) (hy : valF f y = some i)
    (k : ∀ a', Fr a' n (up f d v) → wpList P ops Q rest a' w) : wpList P ops Q (⟨some d, .indexAddr t x y, ty, ps, af, g⟩ :: rest) a w :=
  st_val h hw hd (by simp [execOp, h.eval hx, h.eval hy, hv]) k
theorem st_field {t : TypeId} {x : Operand} {i : Nat} {A v : Value} (hv : (Instr.fieldAt t A i).run P w = .ok v w) (h : Fr a n f) (hw : wantF f ops g = true) (hd : Nat.blt d n = true) (hx : valF f x = some A)
    (k : ∀ a', Fr a' n (up f d v) → wpList P ops Q rest a' w) : wpList P ops Q (⟨some d, .fieldAddr t x i, ty, ps, af, g⟩ :: rest) a w :=
  st_val h hw hd (by simp [execOp, h.eval hx, hv]) k
end

theorem fr_in {P : Program} {ops : Array Oper} {Q : Exit → Act → World → Prop} {w : World} {rest : List Oper} {l : List Value} (n : Nat) (hn : l.length = n)
    (k : ∀ a, Fr a n (fun i => l[i]?) → wpList P ops Q rest a w) : wpList P ops Q rest ⟨l.toArray, []⟩ w :=
  k _ ⟨by simpa using hn, rfl, fun i v h => by simpa using h⟩
theorem Fr.results {a : Act} {n : Nat} {f : Nat → Option Value} (h : Fr a n f) {fn : Func} {t : Tmp} {v : Value} (hr : fn.results = #[.tmp t]) (hv : f t = some v) (P : Program) (w : World) : (results fn a.tmps).run P w = .ok v w := by
  rw [results_tmp hr]
  have := h.get t v hv
  simp [Array.getD_eq_getD_getElem?, this]
end Go.Proofs.Ytoknigfjgoaoaaa
