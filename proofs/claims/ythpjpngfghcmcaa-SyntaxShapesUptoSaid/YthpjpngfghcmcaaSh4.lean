/- Contracts of the functions that the law reaches, part 4. -/
import Derived.Test.YthpjpngfghcmcaaSh3
set_option linter.unusedVariables false
set_option linter.unusedSimpArgs false
namespace Go.Proofs.Ythpjpngfghcmcaa
open Go.RowKit
abbrev Fm := List (Option V)
def Fm.get : Fm → Nat → Option V
  | [], _ => none
  | x :: _, 0 => x
  | _ :: r, i + 1 => Fm.get r i
def Fm.put {α : Type} : Fm → Nat → Option V → (Fm → α) → α
  | [], _, _, c => c []
  | _ :: r, 0, v, c => c (v :: r)
  | x :: r, i + 1, v, c => Fm.put r i v fun r' => c (x :: r')
def Fm.puto {α : Type} (F : Fm) (d : Option Tmp) (v : Option V) (c : Fm → α) : α := match d with
  | some d => F.put d v c
  | none => c F
def natK {α : Type} (n : Nat) (c : Nat → α) : α := match n with
  | 0 => c 0
  | m + 1 => c (Nat.succ m)
def intK {α : Type} (n : Int) (c : Int → α) : α := match n with
  | .ofNat m => natK m fun m => c (.ofNat m)
  | .negSucc m => natK m fun m => c (.negSucc m)
def listK {α β : Type} : List β → (List β → α) → α
  | [], c => c []
  | x :: r, c => listK r fun r' => c (x :: r')
theorem natK_eq {α : Type} (n : Nat) (c : Nat → α) : natK n c = c n := by cases n <;> rfl
theorem intK_eq {α : Type} (n : Int) (c : Int → α) : intK n c = c n := by cases n <;> simp [intK, natK_eq]
theorem listK_eq {α β : Type} : ∀ (l : List β) (c : List β → α), listK l c = c l
  | [], c => rfl
  | x :: r, c => by simp [listK, listK_eq r]
theorem Fm.get_eq : ∀ (F : Fm) (i : Nat), F.get i = (F[i]?).bind id
  | [], i => by simp [Fm.get]
  | x :: r, 0 => by simp [Fm.get]
  | x :: r, i + 1 => by simp [Fm.get, Fm.get_eq r i]
theorem Fm.put_eq {α : Type} : ∀ (F : Fm) (i : Nat) (v : Option V) (c : Fm → α), F.put i v c = c (F.set i v)
  | [], i, v, c => by simp [Fm.put]
  | x :: r, 0, v, c => by simp [Fm.put]
  | x :: r, i + 1, v, c => by simp [Fm.put, Fm.put_eq r i]
def Fm.seto (F : Fm) (d : Option Tmp) (v : Option V) : Fm := match d with
  | some d => F.set d v
  | none => F
theorem Fm.puto_eq {α : Type} (F : Fm) (d : Option Tmp) (v : Option V) (c : Fm → α) : F.puto d v c = c (F.seto d v) := by
  cases d with
  | none => rfl
  | some d => exact Fm.put_eq F d v c
inductive TK where
  | sc
  | bool
  | str
  | sl (e : TypeId)
  | struct (fs : List (Nat × Nat × Bool))
  | arr (len : Nat) (e : TypeId)
structure TD where
  size : Nat
  bytes : Nat
  zero : V
  kind : TK
structure Tab where
  frc : Bool
  ty : TypeId → Option TD
  fn : FuncId → Option Func
  nat : FuncId → List V → Option V
  keep : FuncId → Bool
def zEq1 : Value → V → Bool
  | .int k n, .int k' m => k == k' && n == m
  | .bool b, .bool c => b == c
  | .string s, .str l => s.data.toList == l
  | .pointer none, .nilp => true
  | .slice none 0 0, .nils => true
  | .map none, .raw (.map none) => true
  | _, _ => false
def zEqL : List Value → List V → Bool
  | [], [] => true
  | x :: r, v :: q => zEq1 x v && zEqL r q
  | _, _ => false
def zEq : Value → V → Bool
  | .agg cs, .agg vs => zEqL cs.toList vs
  | x, v => zEq1 x v
def fieldsB (P : Program) (t : TypeId) : Nat → List (Nat × Nat × Bool) → Bool
  | _, [] => true
  | i, (o, s, b) :: r => (match b with
    | true => fieldS P t i == some o
    | false => fieldN P t i == some (o, s)) && fieldO P t i == some o && fieldsB P t (i + 1) r
def kindB (P : Program) (t : TypeId) (size : Nat) : TK → Bool
  | .sc => scalarT P t
  | .bool => scalarT P t && match P.underlying t with | some .bool => true | _ => false
  | .str => scalarT P t && match P.underlying t with | some .string => true | _ => false
  | .sl e => scalarT P t && match P.underlying t with | some (.slice e') => e == e' | _ => false
  | .struct fs => aggT P t == some size && placesT P t == some (fs.map fun p => (p.1, p.2.1)) && fieldsB P t 0 fs
  | .arr len e => aggT P t == some size && match P.underlying t with | some (.array len' e') => len == len' && e == e' | _ => false
def tdB (P : Program) (t : TypeId) (d : TD) : Bool :=
  match P.info? t with
  | some inf => match inf.zero with
    | some z => inf.size == d.size && inf.bytes == d.bytes && zEq z d.zero && z.cells.size == d.size && kindB P t d.size d.kind && z.cells.toList.all (·.oneCell')
    | none => false
  | none => false
structure TdOk (P : Program) (t : TypeId) (d : TD) : Prop where
  size : sizeT P t = some d.size
  info : ∃ z : Value, (P.info? t).map (fun i => (i.zero, i.size, i.bytes)) = some (some z, d.size, d.bytes) ∧ (∀ S w ρ, VRel S w ρ d.zero z) ∧ z.cells.size = d.size ∧ z.cells.toList.all (·.oneCell') = true
  kind : kindB P t d.size d.kind = true
theorem zEq1_ok {S : Nat → Prop} {w : World} {ρ : Nat → Option Value} {x : Value} {v : V} (h : zEq1 x v = true) : VRel S w ρ v x := by
  unfold zEq1 at h
  split at h
  · simp only [Bool.and_eq_true, beq_iff_eq] at h; simp only [VRel]; rw [h.1, h.2]
  · simp only [beq_iff_eq] at h; simp only [VRel]; rw [h]
  · simp only [beq_iff_eq] at h; simp only [VRel]; rw [← h]
  · simp only [VRel]
  · simp only [VRel]
  · simp only [VRel]; exact ⟨trivial, rfl⟩
  · cases h
theorem zEqL_ok {S : Nat → Prop} {w : World} {ρ : Nat → Option Value} : ∀ {xs : List Value} {vs : List V}, zEqL xs vs = true → LRel S w ρ vs xs
  | [], [], h => by simp [LRel]
  | x :: r, v :: q, h => by
    simp only [zEqL, Bool.and_eq_true] at h
    exact ⟨x, r, rfl, zEq1_ok h.1, zEqL_ok h.2⟩
  | [], _ :: _, h => by cases h
  | _ :: _, [], h => by cases h
theorem zEq_ok {S : Nat → Prop} {w : World} {ρ : Nat → Option Value} {x : Value} {v : V} (h : zEq x v = true) : VRel S w ρ v x := by
  unfold zEq at h
  split at h
  · simp only [VRel]; exact ⟨_, rfl, zEqL_ok h⟩
  · exact zEq1_ok h
theorem tdB_ok {P : Program} {t : TypeId} {d : TD} (h : tdB P t d = true) : TdOk P t d := by
  unfold tdB at h
  split at h
  · rename_i inf hi
    split at h
    · rename_i z hz
      simp only [Bool.and_eq_true, beq_iff_eq] at h
      obtain ⟨⟨⟨⟨⟨h1, h2⟩, h3⟩, h4⟩, h5⟩, h6⟩ := h
      exact ⟨by simp [sizeT, hi, h1], ⟨z, by simp [hi, hz, h1, h2], fun S w ρ => zEq_ok h3, h4, h6⟩, h5⟩
    · cases h
  · cases h
theorem TdOk.zeroT {P : Program} {t : TypeId} {d : TD} (h : TdOk P t d) : ∃ z, zeroT P t = some z ∧ ∀ S w ρ, LRel S w ρ d.zero.cells z := by
  obtain ⟨z, h1, h2, _⟩ := h.info
  obtain ⟨i0, hi0, hx0⟩ := Option.map_eq_some_iff.1 h1
  simp only [Prod.mk.injEq] at hx0
  exact ⟨z.cells.toList, by unfold Go.Proofs.Ythpjpngfghcmcaa.zeroT; simp [hi0, hx0.1], fun S w ρ => (h2 S w ρ).cells⟩
def TD.agg (d : TD) : Bool := match d.kind with
  | .struct _ => true
  | .arr _ _ => true
  | _ => false
theorem TdOk.sc {P : Program} {t : TypeId} {d : TD} (h : TdOk P t d) (ha : d.agg = false) : scalarT P t = true := by
  have hk := h.kind
  unfold TD.agg at ha
  cases hd : d.kind with
  | sc => rw [hd] at hk; exact hk
  | bool => rw [hd] at hk; simp only [kindB, Bool.and_eq_true] at hk; exact hk.1
  | str => rw [hd] at hk; simp only [kindB, Bool.and_eq_true] at hk; exact hk.1
  | sl e => rw [hd] at hk; simp only [kindB, Bool.and_eq_true] at hk; exact hk.1
  | struct fs => rw [hd] at ha; cases ha
  | arr _ _ => rw [hd] at ha; cases ha
theorem TdOk.ag {P : Program} {t : TypeId} {d : TD} (h : TdOk P t d) (ha : d.agg = true) : aggT P t = some d.size := by
  have hk := h.kind
  unfold TD.agg at ha
  cases hd : d.kind with
  | struct fs => rw [hd] at hk; simp only [kindB, Bool.and_eq_true, beq_iff_eq] at hk; exact hk.1.1
  | arr _ _ => rw [hd] at hk; simp only [kindB, Bool.and_eq_true, beq_iff_eq] at hk; exact hk.1
  | _ => rw [hd] at ha; cases ha
theorem TdOk.bool {P : Program} {t : TypeId} {d : TD} (h : TdOk P t d) (hd : d.kind = .bool) : P.underlying t = some .bool := by
  have hk := h.kind
  rw [hd] at hk; simp only [kindB, Bool.and_eq_true] at hk
  have := hk.2
  split at this
  · assumption
  · cases this
theorem TdOk.str {P : Program} {t : TypeId} {d : TD} (h : TdOk P t d) (hd : d.kind = .str) : P.underlying t = some .string := by
  have hk := h.kind
  rw [hd] at hk; simp only [kindB, Bool.and_eq_true] at hk
  have := hk.2
  split at this
  · assumption
  · cases this
theorem TdOk.sl {P : Program} {t e : TypeId} {d : TD} (h : TdOk P t d) (hd : d.kind = .sl e) : P.underlying t = some (.slice e) := by
  have hk := h.kind
  rw [hd] at hk; simp only [kindB, Bool.and_eq_true] at hk
  have := hk.2
  split at this
  · rename_i e' hu; simp only [beq_iff_eq] at this; rw [this]; exact hu
  · cases this
theorem TdOk.arr {P : Program} {t e : TypeId} {n : Nat} {d : TD} (h : TdOk P t d) (hd : d.kind = .arr n e) : P.underlying t = some (.array n e) := by
  have hk := h.kind
  rw [hd] at hk; simp only [kindB, Bool.and_eq_true] at hk
  have := hk.2
  split at this
  · rename_i n' e' hu; simp only [Bool.and_eq_true, beq_iff_eq] at this; rw [this.1, this.2]; exact hu
  · cases this
theorem fieldsB_ok {P : Program} {t : TypeId} : ∀ {fs : List (Nat × Nat × Bool)} {k : Nat}, fieldsB P t k fs = true → ∀ i o s b, fs[i]? = some (o, s, b) → fieldO P t (k + i) = some o ∧ (b = true → fieldS P t (k + i) = some o) ∧ (b = false → fieldN P t (k + i) = some (o, s))
  | [], k, h, i, o, s, b, hi => by simp at hi
  | (o', s', b') :: r, k, h, 0, o, s, b, hi => by
    simp only [List.getElem?_cons_zero, Option.some.injEq, Prod.mk.injEq] at hi
    obtain ⟨rfl, rfl, rfl⟩ := hi
    simp only [fieldsB, Bool.and_eq_true, beq_iff_eq] at h
    refine ⟨h.1.2, fun hb => ?_, fun hb => ?_⟩
    · subst hb; have := h.1.1; simpa using this
    · subst hb; have := h.1.1; simpa using this
  | (o', s', b') :: r, k, h, i + 1, o, s, b, hi => by
    simp only [fieldsB, Bool.and_eq_true] at h
    have := fieldsB_ok h.2 i o s b (by simpa using hi)
    rw [show k + 1 + i = k + (i + 1) by omega] at this
    exact this
theorem TdOk.fields {P : Program} {t : TypeId} {d : TD} {fs : List (Nat × Nat × Bool)} (h : TdOk P t d) (hd : d.kind = .struct fs) : placesT P t = some (fs.map fun p => (p.1, p.2.1)) ∧ ∀ i o s b, fs[i]? = some (o, s, b) → fieldO P t i = some o ∧ (b = true → fieldS P t i = some o) ∧ (b = false → fieldN P t i = some (o, s)) := by
  have hk := h.kind
  rw [hd] at hk; simp only [kindB, Bool.and_eq_true, beq_iff_eq] at hk
  refine ⟨hk.1.2, fun i o s b hi => ?_⟩
  have := fieldsB_ok hk.2 i o s b hi
  rwa [Nat.zero_add] at this
structure TabOk (P : Program) (T : Tab) : Prop where
  ty : ∀ t d, T.ty t = some d → TdOk P t d
  fn : ∀ i f, T.fn i = some f → P.funcs[i]? = some f ∧ entersB P i = true
  nat : ∀ i vs v, T.nat i vs = some v → entersB P i = true ∧ ∀ S w ρ xs, LRel S w ρ vs xs → ∃ x, VRel S w ρ v x ∧ Calls P i xs.toArray w fun e w' => e = .returned x ∧ w = w'
structure FRel (S : Nat → Prop) (w : World) (ρ : Nat → Option Value) (a : Act) (n : Nat) (F : Fm) : Prop where
  size : a.tmps.size = n
  defers : a.defers = []
  len : F.length ≤ n
  get : ∀ i v, F.get i = some v → ∃ x, a.tmps[i]? = some x ∧ VRel S w ρ v x
section
variable {S S' : Nat → Prop} {w w' : World} {ρ ρ' : Nat → Option Value} {a : Act} {n : Nat} {F : Fm}
theorem FRel.fr (h : FRel S w ρ a n F) : Fr a n (fA a) := ⟨h.size, h.defers, fun _ _ h => h⟩
theorem FRel.up (u : Up S S' w w' ρ ρ') (h : FRel S w ρ a n F) : FRel S' w' ρ' a n F :=
  ⟨h.size, h.defers, h.len, fun i v hv => by obtain ⟨x, h1, h2⟩ := h.get i v hv; exact ⟨x, h1, h2.up u⟩⟩
theorem FRel.set (h : FRel S w ρ a n F) (d : Option Tmp) {v : Option V} {x : Value} (hx : ∀ u, v = some u → VRel S w ρ u x) : FRel S w ρ (a.put d x) n (F.seto d v) := by
  cases d with
  | none => exact h
  | some d =>
    refine ⟨by simp [Act.put, h.size], h.defers, by simp [Fm.seto]; exact h.len, fun i u hu => ?_⟩
    simp only [Fm.seto, Fm.get_eq, List.getElem?_set] at hu
    simp only [Act.put, Array.getElem?_setIfInBounds, h.size]
    by_cases hid : d = i
    · subst hid
      simp only [if_true] at hu ⊢
      split at hu
      · rename_i hlt
        simp only [Option.bind_some, id_eq] at hu
        exact ⟨x, by simp [Nat.lt_of_lt_of_le hlt h.len], hx u hu⟩
      · cases hu
    · simp only [if_neg hid] at hu ⊢
      exact h.get i u (by rw [Fm.get_eq]; exact hu)
end
def ofV1 : Value → Option V
  | .int k n => some (.int k n)
  | .bool b => some (.bool b)
  | .string s => some (.str s.data.toList)
  | .pointer none => some .nilp
  | .slice none 0 0 => some .nils
  | _ => none
def ofVs : List Value → Option (List V)
  | [] => some []
  | v :: r => match ofV1 v with
    | some x => match ofVs r with
      | some xs => some (x :: xs)
      | none => none
    | none => none
def ofV : Value → Option V
  | .agg cs => match ofVs cs.toList with
    | some l => some (.agg l)
    | none => none
  | v => ofV1 v
def valA (F : Fm) : Operand → Option V
  | .tmp t => F.get t
  | .const v => ofV v
  | _ => none
def valsA (F : Fm) : List Operand → Option (List V)
  | [] => some []
  | x :: r => match valA F x with
    | some v => match valsA F r with
      | some vs => some (v :: vs)
      | none => none
    | none => none
def partsA (F : Fm) : List (Nat × Operand) → Option (List (Nat × V))
  | [] => some []
  | (i, x) :: r => match valA F x with
    | some v => match partsA F r with
      | some vs => some ((i, v) :: vs)
      | none => none
    | none => none
section
variable {S S' : Nat → Prop} {w w' : World} {ρ ρ' : Nat → Option Value} {a : Act} {n : Nat} {F : Fm}
theorem ofV1_ok {x : Value} {v : V} (h : ofV1 x = some v) : VRel S w ρ v x := by
  unfold ofV1 at h
  split at h <;> first | (simp only [Option.some.injEq] at h; subst h; simp only [VRel]; done) | cases h
theorem ofVs_ok : ∀ {xs : List Value} {vs : List V}, ofVs xs = some vs → LRel S w ρ vs xs
  | [], vs, h => by simp only [ofVs, Option.some.injEq] at h; subst h; simp [LRel]
  | x :: r, vs, h => by
    simp only [ofVs] at h
    split at h
    · rename_i v hv
      split at h
      · rename_i us hu
        simp only [Option.some.injEq] at h; subst h
        exact ⟨x, r, rfl, ofV1_ok hv, ofVs_ok hu⟩
      · cases h
    · cases h
theorem ofV_ok {x : Value} {v : V} (h : ofV x = some v) : VRel S w ρ v x := by
  unfold ofV at h
  split at h
  · split at h
    · rename_i l hl
      simp only [Option.some.injEq] at h; subst h
      simp only [VRel]; exact ⟨_, rfl, ofVs_ok hl⟩
    · cases h
  · exact ofV1_ok h
theorem valA_ok (hF : FRel S w ρ a n F) {x : Operand} {v : V} (h : valA F x = some v) : Opd S w ρ a x v := by
  unfold valA at h
  split at h
  · rename_i t
    obtain ⟨y, h1, h2⟩ := hF.get t v h
    exact ⟨y, h1, h2⟩
  · rename_i c
    exact ⟨c, rfl, ofV_ok h⟩
  · cases h
theorem valsA_ok (hF : FRel S w ρ a n F) : ∀ {l : List Operand} {vs : List V}, valsA F l = some vs → ∃ xs, valsF (fA a) l = some xs ∧ LRel S w ρ vs xs
  | [], vs, h => by simp only [valsA, Option.some.injEq] at h; subst h; exact ⟨[], rfl, by simp [LRel]⟩
  | x :: r, vs, h => by
    simp only [valsA] at h
    split at h
    · rename_i v hv
      split at h
      · rename_i us hu
        simp only [Option.some.injEq] at h; subst h
        obtain ⟨y, h1, h2⟩ := valA_ok hF hv
        obtain ⟨ys, h3, h4⟩ := valsA_ok hF hu
        exact ⟨y :: ys, by simp only [valsF, h1, h3], ⟨y, ys, rfl, h2, h4⟩⟩
      · cases h
    · cases h
theorem partsA_ok (hF : FRel S w ρ a n F) : ∀ {l : List (Nat × Operand)} {vs : List (Nat × V)}, partsA F l = some vs → ∃ ys, partsF (fA a) l = some ys ∧ PRel S w ρ vs ys
  | [], vs, h => by simp only [partsA, Option.some.injEq] at h; subst h; exact ⟨[], rfl, by simp [PRel]⟩
  | (i, x) :: r, vs, h => by
    simp only [partsA] at h
    split at h
    · rename_i v hv
      split at h
      · rename_i us hu
        simp only [Option.some.injEq] at h; subst h
        obtain ⟨y, h1, h2⟩ := valA_ok hF hv
        obtain ⟨ys, h3, h4⟩ := partsA_ok hF hu
        exact ⟨(i, y) :: ys, by simp only [partsF, h1, h3], ⟨y, ys, rfl, h2, h4⟩⟩
      · cases h
    · cases h
end
end Go.Proofs.Ythpjpngfghcmcaa
namespace Go.Proofs.Ythpjpngfghcmcaa
open Go.RowKit
def iEq : Int → Int → Bool
  | .ofNat a, .ofNat b => Nat.beq a b
  | .negSucc a, .negSucc b => Nat.beq a b
  | _, _ => false
def iLt : Int → Int → Bool
  | .ofNat a, .ofNat b => Nat.blt a b
  | .negSucc a, .negSucc b => Nat.blt b a
  | .negSucc _, .ofNat _ => true
  | .ofNat _, .negSucc _ => false
def inR : Int → Bool
  | .ofNat a => Nat.ble a 9223372036854775807
  | .negSucc a => Nat.ble a 9223372036854775807
def lEq : List UInt8 → List UInt8 → Bool
  | [], [] => true
  | a :: r, b :: q => match Nat.beq a.toNat b.toNat with
    | true => lEq r q
    | false => false
  | _, _ => false
def kEq : IntKind → IntKind → Bool
  | .i64, .i64 => true
  | .u8, .u8 => true
  | _, _ => false
theorem iEq_eq (m l : Int) : iEq m l = (m == l) := by
  rw [Bool.eq_iff_iff]; cases m <;> cases l <;> simp [iEq] <;> omega
theorem iLt_eq (m l : Int) : iLt m l = decide (m < l) := by
  rw [Bool.eq_iff_iff]; cases m <;> cases l <;> simp [iLt] <;> omega
theorem inR_ok {n : Int} (h : inR n = true) : -9223372036854775808 ≤ n ∧ n ≤ 9223372036854775807 := by
  cases n with
  | ofNat a => simp only [inR, Nat.ble_eq] at h; simp only [Int.ofNat_eq_natCast]; omega
  | negSucc a => simp only [inR, Nat.ble_eq] at h; omega
theorem lEq_eq : ∀ (m l : List UInt8), lEq m l = (m == l)
  | [], [] => rfl
  | [], _ :: _ => rfl
  | _ :: _, [] => rfl
  | a :: r, b :: q => by
    simp only [lEq]
    split
    · rename_i hb
      have : a = b := UInt8.toNat_inj.1 (Nat.eq_of_beq_eq_true hb)
      subst this
      simp [lEq_eq r q]
    · rename_i hb
      have : a ≠ b := fun e => by subst e; simp at hb
      simp [this]
theorem kEq_ok {k k' : IntKind} (h : kEq k k' = true) : k = k' := by
  unfold kEq at h; split at h <;> first | rfl | cases h
def mkB (b : Bool) : Option V := match b with
  | true => some (.bool true)
  | false => some (.bool false)
theorem mkB_eq (b : Bool) : mkB b = some (.bool b) := by cases b <;> rfl
def cmpV (f : Bool) (fast slow : Bool) : Option V := match f with
  | true => mkB fast
  | false => some (.bool slow)
theorem cmpV_ok {f fast slow : Bool} {v : V} (he : fast = slow) (h : cmpV f fast slow = some v) : v = .bool slow := by
  subst he
  unfold cmpV at h
  split at h
  · rw [mkB_eq] at h; simpa using h.symm
  · simpa using h.symm
def sumV (f : Bool) (k : IntKind) (n : Int) : Option V := match f with
  | true => match k with
    | .i64 => intK n fun n => match inR n with
      | true => some (.int .i64 n)
      | false => none
    | _ => none
  | false => some (.int k (k.wrap n))
theorem sumV_ok {f : Bool} {k : IntKind} {n : Int} {v : V} (h : sumV f k n = some v) : v = .int k (k.wrap n) := by
  unfold sumV at h
  split at h
  · split at h
    · rw [intK_eq] at h
      split at h
      · rename_i hr
        have e : IntKind.i64.wrap n = n := IntWalk.i64_in _ (by have := inR_ok hr; omega)
        rw [e]; simpa using h.symm
      · cases h
    · cases h
  · simpa using h.symm
def binV (T : Tab) (op : BinOp) (t : TypeId) : V → V → Option V
  | .int k m, .int k' l => match kEq k k' with
    | false => none
    | true => match op with
      | .eql => cmpV T.frc (iEq m l) (m == l)
      | .neq => cmpV T.frc (!iEq m l) (m != l)
      | .lss => cmpV T.frc (iLt m l) (decide (m < l))
      | .gtr => cmpV T.frc (iLt l m) (decide (l < m))
      | .leq => cmpV T.frc (!iLt l m) (decide (m ≤ l))
      | .geq => cmpV T.frc (!iLt m l) (decide (l ≤ m))
      | .add => sumV T.frc k (m + l)
      | .sub => sumV T.frc k (m - l)
      | _ => none
  | .str m, .str l => match op with
    | .eql => cmpV T.frc (lEq m l) (m == l)
    | .neq => cmpV T.frc (!lEq m l) (m != l)
    | .add => match T.frc with
      | true => match Nat.ble (m.length + l.length) 9223372036854775807 with
        | true => listK (m ++ l) fun r => some (.str r)
        | false => none
      | false => none
    | _ => none
  | .bool m, .bool l => match T.ty t with
    | some ⟨_, _, _, .bool⟩ => match op with
      | .eql => cmpV T.frc (m == l) (m == l)
      | .neq => cmpV T.frc (m != l) (m != l)
      | _ => none
    | _ => none
  | _, _ => none
def atV : List V → Nat → Option V
  | [], _ => none
  | x :: _, 0 => some x
  | _ :: r, i + 1 => atV r i
theorem atV_eq : ∀ (l : List V) (i : Nat), atV l i = l[i]?
  | [], i => by simp [atV]
  | x :: r, 0 => by simp [atV]
  | x :: r, i + 1 => by simp [atV, atV_eq r i]
def atB : List UInt8 → Nat → Option UInt8
  | [], _ => none
  | x :: _, 0 => some x
  | _ :: r, i + 1 => atB r i
theorem atB_eq : ∀ (l : List UInt8) (i : Nat), atB l i = l[i]?
  | [], i => by simp [atB]
  | x :: r, 0 => by simp [atB]
  | x :: r, i + 1 => by simp [atB, atB_eq r i]
def atF : List (Nat × Nat × Bool) → Nat → Option (Nat × Nat × Bool)
  | [], _ => none
  | x :: _, 0 => some x
  | _ :: r, i + 1 => atF r i
theorem atF_eq : ∀ (l : List (Nat × Nat × Bool)) (i : Nat), atF l i = l[i]?
  | [], i => by simp [atF]
  | x :: r, 0 => by simp [atF]
  | x :: r, i + 1 => by simp [atF, atF_eq r i]
def fldA (T : Tab) (t : TypeId) (i : Nat) : Option (Nat × Nat × Bool) := match T.ty t with
  | some ⟨_, _, _, .struct fs⟩ => atF fs i
  | _ => none
def dropV : List V → Nat → List V
  | l, 0 => l
  | [], _ + 1 => []
  | _ :: r, i + 1 => dropV r i
theorem dropV_eq : ∀ (l : List V) (i : Nat), dropV l i = l.drop i
  | [], 0 => rfl
  | _ :: _, 0 => rfl
  | [], i + 1 => by simp [dropV]
  | _ :: r, i + 1 => by simp [dropV, dropV_eq r i]
def takeC {α : Type} : List V → Nat → (List V → Option α) → Option α
  | _, 0, c => c []
  | [], _ + 1, _ => none
  | x :: r, i + 1, c => takeC r i fun r' => c (x :: r')
theorem takeC_ok {α : Type} : ∀ {l : List V} {i : Nat} {c : List V → Option α} {v : α}, takeC l i c = some v → i ≤ l.length ∧ c (l.take i) = some v
  | l, 0, c, v, h => by simpa [takeC] using h
  | [], i + 1, c, v, h => by simp [takeC] at h
  | x :: r, i + 1, c, v, h => by
    simp only [takeC] at h
    have := takeC_ok h
    simpa using this
def partV (d : TD) (cs : List V) (o : Nat) : Option V := match d.agg with
  | true => match Nat.blt 0 d.size with
    | true => takeC (dropV cs o) d.size fun l => some (.agg l)
    | false => none
  | false => atV cs o
def maxV (f : Bool) (m l : Int) : Option V := match f with
  | true => match iLt m l with
    | true => some (.int .i64 l)
    | false => some (.int .i64 m)
  | false => some (.int .i64 (max m l))
theorem maxV_ok {f : Bool} {m l : Int} {v : V} (h : maxV f m l = some v) : v = .int .i64 (max m l) := by
  unfold maxV at h
  split at h
  · split at h
    · rename_i hb
      rw [iLt_eq] at hb
      simp only [decide_eq_true_eq] at hb
      injection h with h; rw [← h, Int.max_eq_right (by omega)]
    · rename_i hb
      rw [iLt_eq] at hb
      simp only [decide_eq_false_iff_not] at hb
      injection h with h; rw [← h, Int.max_eq_left (by omega)]
  · injection h with h; exact h.symm
def pureA (T : Tab) (h : Nat → Ob) (F : Fm) (op : Op) : Option V :=
  match op with
  | .move x => valA F x
  | .assign x => valA F x
  | .pick c x y => match valA F c with
    | some (.bool true) => valA F x
    | some (.bool false) => valA F y
    | _ => none
  | .nilCheck x => match valA F x with
    | some (.ptr id o) => some (.ptr id o)
    | some (.el id sz i o) => some (.el id sz i o)
    | some (.box cs o) => some (.box cs o)
    | _ => none
  | .extract x i => match valA F x with
    | some (.tup vs) => atV vs i
    | _ => none
  | .unOp .not _ x => match valA F x with
    | some (.bool b) => cmpV T.frc (!b) (!b)
    | _ => none
  | .fieldAddr t x i => match fldA T t i with
    | some (k, _, _) => match valA F x with
      | some (.ptr id o) => natK (o + k) fun r => some (.ptr id r)
      | some (.el id sz j o) => natK (o + k) fun r => some (.el id sz j r)
      | some (.box cs o) => natK (o + k) fun r => some (.box cs r)
      | _ => none
    | none => none
  | .field t x i => match valA F x with
    | some (.agg cs) => match fldA T t i with
      | some (k, _, true) => atV cs k
      | some (k, m, false) => takeC (dropV cs k) m fun l => some (.agg l)
      | none => none
    | _ => none
  | .binOp op t x y _ => match valA F x with
    | some a => match valA F y with
      | some b => binV T op t a b
      | none => none
    | none => none
  | .call ⟨.builtin .len, ⟨[x]⟩, ⟨[t]⟩⟩ => match T.ty t with
    | some ⟨_, _, _, .sl _⟩ => match valA F x with
      | some .nils => some (.int .i64 0)
      | some (.row _ els) => match T.frc with
        | true => natK els.length fun n => some (.int .i64 (.ofNat n))
        | false => some (.int .i64 els.length)
      | some (.sl id) => match h id with
        | .row _ _ els => match T.frc with
          | true => natK els.length fun n => some (.int .i64 (.ofNat n))
          | false => some (.int .i64 els.length)
        | _ => none
      | _ => none
    | some ⟨_, _, _, .str⟩ => match valA F x with
      | some (.str l) => match T.frc with
        | true => natK l.length fun n => some (.int .i64 (.ofNat n))
        | false => some (.int .i64 l.length)
      | _ => none
    | _ => none
  | .call ⟨.builtin .max, ⟨[x, y]⟩, ⟨[t, u]⟩⟩ => match valA F x with
    | some (.int .i64 m) => match valA F y with
      | some (.int .i64 l) => maxV T.frc m l
      | _ => none
    | _ => none
  | .index t x y => match T.ty t with
    | some ⟨_, _, _, .str⟩ => match valA F x with
      | some (.str l) => match valA F y with
        | some (.int .i64 (.ofNat i)) => match atB l i with
          | some c => natK c.toNat fun c => some (.int .u8 (.ofNat c))
          | none => none
        | _ => none
      | _ => none
    | _ => none
  | .indexAddr t x y => match T.ty t with
    | some ⟨_, _, _, .sl e⟩ => match T.ty e with
      | some d => match valA F x with
        | some (.row sz els) => match valA F y with
          | some (.int .i64 (.ofNat i)) => match Nat.beq sz d.size with
            | true => match atV els i with
              | some v => listK v.cells fun cs => some (.box cs 0)
              | none => none
            | false => none
          | _ => none
        | some (.sl id) => match h id with
          | .row _ sz els => match valA F y with
            | some (.int .i64 (.ofNat i)) => match Nat.beq sz d.size && Nat.blt i els.length with
              | true => some (.el id sz i 0)
              | false => none
            | _ => none
          | _ => none
        | _ => none
      | none => none
    | _ => none
  | .build t ⟨ps⟩ => match T.ty t with
    | some ⟨_, _, z, .struct fs⟩ => match partsA F ps with
      | some vs => match fillV (fun i => match atF fs i with | some (o, s, _) => some (o, s) | none => none) z.cells vs with
        | some cs => listK cs fun cs => some (.agg cs)
        | none => none
      | none => none
    | some ⟨_, _, z, .arr _ e⟩ => match T.ty e with
      | some d => match partsA F ps with
        | some vs => match fillV (fun i => some (i * d.size, d.size)) z.cells vs with
          | some cs => listK cs fun cs => some (.agg cs)
          | none => none
        | none => none
      | none => none
    | _ => none
  | .slice t x lo hi none => match T.ty t with
    | some ⟨_, _, _, .str⟩ => match valA F x with
      | some (.str l) => match (match lo with | none => some (V.int .i64 (.ofNat 0)) | some y => valA F y) with
        | some (.int .i64 (.ofNat i)) => match (match hi with | none => some (V.int .i64 (.ofNat l.length)) | some y => valA F y) with
          | some (.int .i64 (.ofNat j)) => match Nat.ble i j && Nat.ble j l.length with
            | true => listK ((l.drop i).take (j - i)) fun r => some (.str r)
            | false => none
          | _ => none
        | _ => none
      | _ => none
    | some ⟨_, _, _, .sl e⟩ => match T.ty e with
      | some d => match valA F x with
        | some (.row sz els) => match (match lo with | none => some (V.int .i64 (.ofNat 0)) | some y => valA F y) with
          | some (.int .i64 (.ofNat i)) => match (match hi with | none => some (V.int .i64 (.ofNat els.length)) | some y => valA F y) with
            | some (.int .i64 (.ofNat j)) => match Nat.ble i j && Nat.ble j els.length && Nat.beq sz d.size with
              | true => listK ((els.drop i).take (j - i)) fun r => some (.row sz r)
              | false => none
            | _ => none
          | _ => none
        | _ => none
      | none => none
    | _ => none
  | .load t x => match valA F x with
    | some (.box cs o) => match T.ty t with
      | some d => partV d cs o
      | none => none
    | _ => none
  | _ => none
section
variable {P : Program} {T : Tab} {S : Nat → Prop} {w : World} {ρ : Nat → Option Value} {h : Nat → Ob} {a : Act} {n : Nat} {F : Fm} {ty : TypeId}
theorem p_addW {t u : TypeId} {x y : Operand} {k : IntKind} {m l : Int} (fr : Fr a n (fA a)) (hx : Opd S w ρ a x (.int k m)) (hy : Opd S w ρ a y (.int k l)) : Yld P S w ρ a ty (.binOp .add t x y u) (.int k (k.wrap (m + l))) :=
  ⟨.int k (k.wrap (m + l)), by simp only [VRel], fun w' _ _ _ _ _ => by simp only [execOp, fr.eval (opd_int hx), fr.eval (opd_int hy)]; simp [go_sem, eqGuard]⟩
theorem p_subW {t u : TypeId} {x y : Operand} {k : IntKind} {m l : Int} (fr : Fr a n (fA a)) (hx : Opd S w ρ a x (.int k m)) (hy : Opd S w ρ a y (.int k l)) : Yld P S w ρ a ty (.binOp .sub t x y u) (.int k (k.wrap (m - l))) :=
  ⟨.int k (k.wrap (m - l)), by simp only [VRel], fun w' _ _ _ _ _ => by simp only [execOp, fr.eval (opd_int hx), fr.eval (opd_int hy)]; simp [go_sem, eqGuard]⟩
theorem app_listV (m l : List UInt8) : (ByteArray.mk m.toArray ++ ByteArray.mk l.toArray) = ⟨(m ++ l).toArray⟩ := by
  apply ByteArray.ext; simp [ByteArray.data_append]
theorem p_addS {t u : TypeId} {x y : Operand} {m l : List UInt8} (fr : Fr a n (fA a)) (hx : Opd S w ρ a x (.str m)) (hy : Opd S w ρ a y (.str l)) (hl : m.length + l.length ≤ 9223372036854775807) : Yld P S w ρ a ty (.binOp .add t x y u) (.str (m ++ l)) :=
  ⟨.string ⟨(m ++ l).toArray⟩, by simp only [VRel], fun w' _ _ _ _ _ => by simp only [execOp, fr.eval (opd_str hx), fr.eval (opd_str hy)]; simp [go_sem, eqGuard, app_listV, show ¬ 9223372036854775807 < m.length + l.length by omega]⟩
theorem binV_ok (hT : TabOk P T) {op : BinOp} {t u : TypeId} {x y : Operand} {c d v : V} (fr : Fr a n (fA a)) (hx : Opd S w ρ a x c) (hy : Opd S w ρ a y d) (hv : binV T op t c d = some v) : Yld P S w ρ a ty (.binOp op t x y u) v := by
  unfold binV at hv
  split at hv
  · split at hv
    · cases hv
    · rename_i hk
      have := kEq_ok hk
      subst this
      split at hv
      · rw [cmpV_ok (iEq_eq _ _) hv]; exact p_eqI fr hx hy
      · rw [cmpV_ok (by rw [iEq_eq]; rfl) hv]; exact p_neI fr hx hy
      · rw [cmpV_ok (iLt_eq _ _) hv]; exact p_ltI fr hx hy
      · rw [cmpV_ok (iLt_eq _ _) hv]; exact p_gtI fr hx hy
      · rw [cmpV_ok (by rw [iLt_eq, Bool.eq_iff_iff]; simp) hv]; exact p_leI fr hx hy
      · rw [cmpV_ok (by rw [iLt_eq, Bool.eq_iff_iff]; simp) hv]; exact p_geI fr hx hy
      · rw [sumV_ok hv]; exact p_addW fr hx hy
      · rw [sumV_ok hv]; exact p_subW fr hx hy
      · cases hv
  · split at hv
    · rw [cmpV_ok (lEq_eq _ _) hv]; exact p_eqS fr hx hy
    · rw [cmpV_ok (by rw [lEq_eq]; rfl) hv]; exact p_neS fr hx hy
    · split at hv
      · split at hv
        · rename_i hb
          rw [listK_eq] at hv
          simp only [Option.some.injEq] at hv; subst hv
          exact p_addS fr hx hy (by simpa using hb)
        · cases hv
      · cases hv
    · cases hv
  · split at hv
    · rename_i hd
      have ht := (hT.ty _ _ hd).bool rfl
      split at hv
      · rw [cmpV_ok rfl hv]; exact p_eqB fr ht hx hy
      · rw [cmpV_ok rfl hv]; exact p_neB fr ht hx hy
      · cases hv
    · cases hv
  · cases hv
theorem fldA_ok (hT : TabOk P T) {t : TypeId} {i o s : Nat} {b : Bool} (hf : fldA T t i = some (o, s, b)) : fieldO P t i = some o ∧ (b = true → fieldS P t i = some o) ∧ (b = false → fieldN P t i = some (o, s)) := by
  unfold fldA at hf
  split at hf
  · rename_i hd
    rw [atF_eq] at hf
    exact ((hT.ty _ _ hd).fields rfl).2 i o s b hf
  · cases hf
theorem pureA_ok (hT : TabOk P T) (hr : HRel S w ρ h) (hF : FRel S w ρ a n F) {op : Op} {v : V} (hv : pureA T h F op = some v) : Yld P S w ρ a ty op v := by
  have fr := hF.fr
  unfold pureA at hv
  split at hv
  · exact p_move fr (valA_ok hF hv)
  · exact p_assign fr (valA_ok hF hv)
  · split at hv
    · exact p_pickT fr (valA_ok hF ‹_›) (valA_ok hF hv)
    · exact p_pickF fr (valA_ok hF ‹_›) (valA_ok hF hv)
    · cases hv
  · split at hv
    · injection hv with hv; subst hv; exact p_nilP fr (valA_ok hF ‹_›)
    · injection hv with hv; subst hv; exact p_nilE fr (valA_ok hF ‹_›)
    · injection hv with hv; subst hv; exact p_nilB fr (valA_ok hF ‹_›)
    · cases hv
  · split at hv
    · rw [atV_eq] at hv; exact p_ext fr (valA_ok hF ‹_›) hv
    · cases hv
  · split at hv
    · rw [cmpV_ok rfl hv]; exact p_not fr (valA_ok hF ‹_›)
    · cases hv
  · split at hv
    · rename_i hfl
      have hfo := (fldA_ok hT hfl).1
      split at hv
      · rw [natK_eq] at hv; injection hv with hv; subst hv; exact p_faP fr (valA_ok hF ‹_›) hfo
      · rw [natK_eq] at hv; injection hv with hv; subst hv; exact p_faE fr (valA_ok hF ‹_›) hfo
      · rw [natK_eq] at hv; injection hv with hv; subst hv; exact p_faB fr (valA_ok hF ‹_›) hfo
      · cases hv
    · cases hv
  · split at hv
    · split at hv
      · rename_i hfl
        rw [atV_eq] at hv
        exact p_fd fr (valA_ok hF ‹_›) ((fldA_ok hT hfl).2.1 rfl) hv
      · rename_i hfl
        obtain ⟨_, hv⟩ := takeC_ok hv
        rw [dropV_eq] at hv
        injection hv with hv; subst hv
        exact p_fdN fr (valA_ok hF ‹_›) ((fldA_ok hT hfl).2.2 rfl)
      · cases hv
    · cases hv
  · split at hv
    · split at hv
      · exact binV_ok hT fr (valA_ok hF ‹_›) (valA_ok hF ‹_›) hv
      · cases hv
    · cases hv
  · split at hv
    · rename_i hd
      have ht := (hT.ty _ _ hd).sl rfl
      split at hv
      · injection hv with hv; subst hv; exact p_lenN fr ht (valA_ok hF ‹_›)
      · split at hv
        · rw [natK_eq] at hv; injection hv with hv; subst hv; exact p_lenR fr ht (valA_ok hF ‹_›)
        · injection hv with hv; subst hv; exact p_lenR fr ht (valA_ok hF ‹_›)
      · split at hv
        · split at hv
          · rw [natK_eq] at hv; injection hv with hv; subst hv; exact p_lenO hr ‹_› fr ht (valA_ok hF ‹_›)
          · injection hv with hv; subst hv; exact p_lenO hr ‹_› fr ht (valA_ok hF ‹_›)
        · cases hv
      · cases hv
    · rename_i hd
      have ht := (hT.ty _ _ hd).str rfl
      split at hv
      · split at hv
        · rw [natK_eq] at hv; injection hv with hv; subst hv; exact p_lenS fr ht (valA_ok hF ‹_›)
        · injection hv with hv; subst hv; exact p_lenS fr ht (valA_ok hF ‹_›)
      · cases hv
    · cases hv
  · split at hv
    · split at hv
      · rw [maxV_ok hv]; exact p_maxI fr (valA_ok hF ‹_›) (valA_ok hF ‹_›)
      · cases hv
    · cases hv
  · split at hv
    · rename_i hd
      have ht := (hT.ty _ _ hd).str rfl
      split at hv
      · split at hv
        · split at hv
          · rename_i hb
            rw [atB_eq] at hb
            rw [natK_eq] at hv; injection hv with hv; subst hv
            exact p_idxS fr ht (valA_ok hF ‹_›) (valA_ok hF ‹_›) hb
          · cases hv
        · cases hv
      · cases hv
    · cases hv
  · split at hv
    · rename_i hd
      have ht := (hT.ty _ _ hd).sl rfl
      split at hv
      · rename_i d he
        have hz := (hT.ty _ _ he).size
        split at hv
        · split at hv
          · split at hv
            · rename_i hb
              have := Nat.eq_of_beq_eq_true hb
              subst this
              split at hv
              · rename_i hi
                rw [atV_eq] at hi
                rw [listK_eq] at hv
                injection hv with hv; subst hv
                exact p_idxR fr ht hz (valA_ok hF ‹_›) (valA_ok hF ‹_›) hi
              · cases hv
            · cases hv
          · cases hv
        · split at hv
          · split at hv
            · split at hv
              · rename_i hb
                simp only [Bool.and_eq_true, Nat.beq_eq, Nat.blt_eq] at hb
                obtain ⟨rfl, hlt⟩ := hb
                injection hv with hv; subst hv
                exact p_idxO hr ‹_› fr ht hz (valA_ok hF ‹_›) (valA_ok hF ‹_›) hlt
              · cases hv
            · cases hv
          · cases hv
        · cases hv
      · cases hv
    · cases hv
  · split at hv
    · rename_i fs hd
      have hf := (hT.ty _ _ hd).fields rfl
      obtain ⟨z, hz1, hz2⟩ := (hT.ty _ _ hd).zeroT
      split at hv
      · rename_i vs hps
        obtain ⟨ys, g1, g2⟩ := partsA_ok hF hps
        split at hv
        · rename_i cs hfl
          rw [listK_eq] at hv; injection hv with hv; subst hv
          refine p_build fr g1 g2 hz1 (hz2 _ _ _) hf.1 (fun i p hp => ?_) hfl
          rw [atF_eq] at hp
          split at hp
          · rename_i o s b hi
            simp only [Option.some.injEq] at hp; subst hp
            simp [hi]
          · cases hp
        · cases hv
      · cases hv
    · rename_i e hd
      have ht := (hT.ty _ _ hd).arr rfl
      obtain ⟨z, hz1, hz2⟩ := (hT.ty _ _ hd).zeroT
      split at hv
      · rename_i d he
        have hz := (hT.ty _ _ he).size
        split at hv
        · rename_i vs hps
          obtain ⟨ys, g1, g2⟩ := partsA_ok hF hps
          split at hv
          · rename_i cs hfl
            rw [listK_eq] at hv; injection hv with hv; subst hv
            exact p_buildA fr g1 g2 hz1 (hz2 _ _ _) ht hz hfl
          · cases hv
        · cases hv
      · cases hv
    · cases hv
  · rename_i t x lo hi
    split at hv
    · rename_i hd
      have ht := (hT.ty _ _ hd).str rfl
      split at hv
      · split at hv
        · rename_i i hi1
          split at hv
          · rename_i j hj1
            split at hv
            · rename_i hb
              simp only [Bool.and_eq_true, Nat.ble_eq] at hb
              rw [listK_eq] at hv; injection hv with hv; subst hv
              refine p_slS fr ht (valA_ok hF ‹_›) ?_ ?_ hb.1 hb.2
              · cases lo with
                | none => injection hi1 with hi1; injection hi1 with _ hi1; injection hi1 with hi1; exact .inl ⟨rfl, hi1.symm⟩
                | some y => exact .inr ⟨y, rfl, valA_ok hF hi1⟩
              · cases hi with
                | none => injection hj1 with hj1; injection hj1 with _ hj1; injection hj1 with hj1; exact .inl ⟨rfl, hj1.symm⟩
                | some y => exact .inr ⟨y, rfl, valA_ok hF hj1⟩
            · cases hv
          · cases hv
        · cases hv
      · cases hv
    · rename_i hd
      have ht := (hT.ty _ _ hd).sl rfl
      split at hv
      · rename_i d he
        have hz := (hT.ty _ _ he).size
        split at hv
        · split at hv
          · rename_i i hi1
            split at hv
            · rename_i j hj1
              split at hv
              · rename_i hb
                simp only [Bool.and_eq_true, Nat.ble_eq, Nat.beq_eq] at hb
                obtain ⟨⟨hb1, hb2⟩, rfl⟩ := hb
                rw [listK_eq] at hv; injection hv with hv; subst hv
                refine p_slR fr ht hz (valA_ok hF ‹_›) ?_ ?_ hb1 hb2
                · cases lo with
                  | none => injection hi1 with hi1; injection hi1 with _ hi1; injection hi1 with hi1; exact .inl ⟨rfl, hi1.symm⟩
                  | some y => exact .inr ⟨y, rfl, valA_ok hF hi1⟩
                · cases hi with
                  | none => injection hj1 with hj1; injection hj1 with _ hj1; injection hj1 with hj1; exact .inl ⟨rfl, hj1.symm⟩
                  | some y => exact .inr ⟨y, rfl, valA_ok hF hj1⟩
              · cases hv
            · cases hv
          · cases hv
        · cases hv
      · cases hv
    · cases hv
  · split at hv
    · rename_i cs o hx
      split at hv
      · rename_i d hd
        have td := hT.ty _ _ hd
        unfold partV at hv
        split at hv
        · rename_i ha
          split at hv
          · rename_i h0
            obtain ⟨hl, hv⟩ := takeC_ok hv
            rw [dropV_eq] at hv hl
            injection hv with hv; subst hv
            have h0' : 0 < d.size := by simpa using h0
            exact p_loadBN fr (td.ag ha) (valA_ok hF hx) (by simp at hl; omega)
          · cases hv
        · rename_i ha
          rw [atV_eq] at hv
          exact p_loadB fr (td.sc ha) (valA_ok hF hx) hv
      · cases hv
    · cases hv
  · cases hv
end
end Go.Proofs.Ythpjpngfghcmcaa
namespace Go.Proofs.Ythpjpngfghcmcaa
open Go.RowKit
inductive ED where
  | nop
  | new (o : Ob)
  | set (id : Nat) (o : Ob)
  | repl (id : Nat) (o : Ob)
def ED.app (h : Nat → Ob) (nid : Nat) : ED → Nat → Ob
  | .nop => h
  | .new o => updH h nid o
  | .set id o => updH h id o
  | .repl id o => updH (updH h id .gone) nid o
def ED.tch : ED → Nat → Prop
  | .nop, _ => False
  | .new _, _ => False
  | .set id _, i => i = id
  | .repl id _, i => i = id
def srcA (h : Nat → Ob) (sz : Nat) : V → Option (List V)
  | .nils => some []
  | .row sz' els => match Nat.beq sz sz' with
    | true => some els
    | false => none
  | .sl g => match h g with
    | .row _ sz' els => match Nat.beq sz sz' with
      | true => some els
      | false => none
    | _ => none
  | _ => none
def effA (T : Tab) (h : Nat → Ob) (F : Fm) (nid : Nat) (op : Op) : Option (Option V × ED) :=
  match op with
  | .load t x => match valA F x with
    | some (.ptr id o) => match T.ty t with
      | some d => match h id with
        | .var _ cs => match partV d cs o with
          | some v => some (some v, .nop)
          | none => none
        | _ => none
      | none => none
    | some (.el id sz i o) => match T.ty t with
      | some d => match h id with
        | .row _ sz' els => match Nat.beq sz sz' with
          | true => match atV els i with
            | some v0 => match partV d v0.cells o with
              | some v => some (some v, .nop)
              | none => none
            | none => none
          | false => none
        | _ => none
      | none => none
    | _ => none
  | .alloc t => match T.ty t with
    | some d => listK d.zero.cells fun cs => some (some (.ptr nid 0), .new (.var t cs))
    | none => none
  | .box t x => match valA F x with
    | some v => listK v.cells fun cs => some (some (.ptr nid 0), .new (.var t cs))
    | none => none
  | .store t x y => match T.ty t with
    | some d => match valA F y with
      | some v => match Nat.beq v.cells.length d.size && v.cells.all V.one with
        | true => match valA F x with
          | some (.ptr id o) => match h id with
            | .var tb cs => match Nat.ble (o + d.size) cs.length with
              | true => listK (overV cs o v.cells) fun cs => some (none, .set id (.var tb cs))
              | false => none
            | _ => none
          | some (.el id sz i o) => match h id with
            | .row e sz' els => match Nat.beq sz sz' with
              | true => match atV els i with
                | some v0 => match Nat.ble (o + d.size) v0.cells.length with
                  | true => match v0 with
                    | .agg cs => listK (els.set i (V.over (.agg cs) o v.cells)) fun els => some (none, .set id (.row e sz els))
                    | v0 => match v.one with
                      | true => listK (els.set i (v0.over o v.cells)) fun els => some (none, .set id (.row e sz els))
                      | false => none
                  | false => none
                | none => none
              | false => none
            | _ => none
          | _ => none
        | false => none
      | none => none
    | none => none
  | .buildSlice t m ⟨ps⟩ => match T.ty t with
    | some ⟨_, _, _, .sl e⟩ => match T.ty e with
      | some d => match partsA F ps with
        | some vs => match rowParts d.size 0 vs with
          | some els => match Nat.beq els.length m && Nat.ble (m * d.size) 16777216 && Nat.ble m 16777216 with
            | true => natK d.size fun sz => some (some (.sl nid), .new (.row e sz els))
            | false => none
          | none => none
        | none => none
      | none => none
    | _ => none
  | .makeSlice t x y => match T.ty t with
    | some ⟨_, _, _, .sl e⟩ => match T.ty e with
      | some d => match valA F x with
        | some (.int .i64 (.ofNat m)) => match valA F y with
          | some (.int .i64 (.ofNat m')) => match Nat.beq m m' && Nat.ble (d.bytes * m) 1000000 && Nat.ble m 1000000 && Nat.blt 0 d.size with
            | true => listK (List.replicate m d.zero) fun els => natK d.size fun sz => some (some (.sl nid), .new (.row e sz els))
            | false => none
          | _ => none
        | _ => none
      | none => none
    | _ => none
  | .call ⟨.builtin .append, ⟨[x, y]⟩, ⟨[t, t']⟩⟩ => match T.frc && Nat.beq t t' with
    | true => match T.ty t with
      | some ⟨_, _, _, .sl e⟩ => match T.ty e with
        | some d => match valA F y with
          | some v => match srcA h d.size v with
            | some news => match valA F x with
              | some .nils => match Nat.ble news.length 100000 && Nat.ble d.bytes 100000 && Nat.blt 0 d.size with
                | true => natK d.size fun sz => some (some (.sl nid), .new (.row e sz news))
                | false => none
              | some (.sl id) => match h id with
                | .row e' sz els => match Nat.beq e e' && Nat.beq sz d.size && Nat.ble (els.length + news.length) 100000 && Nat.ble d.bytes 100000 && Nat.blt 0 d.size with
                  | true => listK (els ++ news) fun els => some (some (.sl nid), .repl id (.row e sz els))
                  | false => none
                | _ => none
              | _ => none
            | none => none
          | none => none
        | none => none
      | _ => none
    | false => none
  | .slice t x none (some y) none => match T.ty t with
    | some ⟨_, _, _, .sl e⟩ => match T.ty e with
      | some d => match valA F x with
        | some (.sl id) => match h id with
          | .row e' sz els => match valA F y with
            | some (.int .i64 (.ofNat k)) => match Nat.beq e e' && Nat.beq sz d.size && Nat.ble k els.length with
              | true => listK (els.take k) fun els => some (some (.sl nid), .repl id (.row e sz els))
              | false => none
            | _ => none
          | _ => none
        | _ => none
      | none => none
    | _ => none
  | _ => none
section
variable {P : Program} {T : Tab} {S : Nat → Prop} {w : World} {ρ : Nat → Option Value} {h : Nat → Ob} {a : Act} {n : Nat} {F : Fm} {ty : TypeId}
theorem partV_ok {t : TypeId} {d : TD} (td : TdOk P t d) {cs : List V} {o : Nat} {v : V} (hv : partV d cs o = some v) : (scalarT P t = true ∧ cs[o]? = some v) ∨ (aggT P t = some d.size ∧ o + d.size ≤ cs.length ∧ v = .agg ((cs.drop o).take d.size)) := by
  unfold partV at hv
  split at hv
  · rename_i ha
    split at hv
    · rename_i h0
      obtain ⟨hl, hv⟩ := takeC_ok hv
      rw [dropV_eq] at hv hl
      injection hv with hv; subst hv
      have h0' : 0 < d.size := by simpa using h0
      exact .inr ⟨td.ag ha, by simp at hl; omega, rfl⟩
    · cases hv
  · rename_i ha
    rw [atV_eq] at hv
    exact .inl ⟨td.sc ha, hv⟩
theorem one_cellsV {v : V} (h : v.one = true) : v.cells = [v] := by cases v <;> first | rfl | cases h
theorem srcA_ok (hr : HRel S w ρ h) (hF : FRel S w ρ a n F) {y : Operand} {sz : Nat} {v : V} {news : List V} (hy : valA F y = some v) (hs : srcA h sz v = some news) : ∃ u, valF (fA a) y = some u ∧ SrcRow S w ρ sz news u := by
  obtain ⟨u, h1, h2⟩ := valA_ok hF hy
  refine ⟨u, h1, ?_⟩
  unfold srcA at hs
  split at hs
  · injection hs with hs; subst hs; exact src_nils h2
  · split at hs
    · rename_i hb
      have := Nat.eq_of_beq_eq_true hb
      subst this
      injection hs with hs; subst hs; exact src_row h2
    · cases hs
  · split at hs
    · split at hs
      · rename_i ho _ hb
        have := Nat.eq_of_beq_eq_true hb
        subst this
        injection hs with hs; subst hs; exact src_own hr ho h2
      · cases hs
    · cases hs
  · cases hs
theorem effA_ok (hT : TabOk P T) (hr : HRel S w ρ h) (hF : FRel S w ρ a n F) {nid : Nat} (hn : h nid = .free) {op : Op} {v : Option V} {ed : ED} (hv : effA T h F nid op = some (v, ed)) : Does P S w ρ h a ty op v (ed.app h nid) ed.tch := by
  have fr := hF.fr
  unfold effA at hv
  split at hv
  · split at hv
    · split at hv
      · rename_i d hd
        split at hv
        · rename_i ho
          split at hv
          · rename_i u hu
            simp only [Option.some.injEq, Prod.mk.injEq] at hv
            obtain ⟨rfl, rfl⟩ := hv
            rcases partV_ok (hT.ty _ _ hd) hu with ⟨h1, h2⟩ | ⟨h1, h2, rfl⟩
            · exact e_load hr fr (valA_ok hF ‹_›) ho h1 h2
            · exact e_loadN hr fr (valA_ok hF ‹_›) ho h1 h2
          · cases hv
        · cases hv
      · cases hv
    · split at hv
      · rename_i d hd
        split at hv
        · rename_i ho
          split at hv
          · rename_i hb
            have := Nat.eq_of_beq_eq_true hb
            subst this
            split at hv
            · rename_i v0 hi
              rw [atV_eq] at hi
              split at hv
              · rename_i u hu
                simp only [Option.some.injEq, Prod.mk.injEq] at hv
                obtain ⟨rfl, rfl⟩ := hv
                rcases partV_ok (hT.ty _ _ hd) hu with ⟨h1, h2⟩ | ⟨h1, h2, rfl⟩
                · exact e_loadE hr fr (valA_ok hF ‹_›) ho h1 hi h2
                · exact e_loadEN hr fr (valA_ok hF ‹_›) ho h1 hi h2
              · cases hv
            · cases hv
          · cases hv
        · cases hv
      · cases hv
    · cases hv
  · split at hv
    · rename_i d hd
      rw [listK_eq] at hv
      simp only [Option.some.injEq, Prod.mk.injEq] at hv
      obtain ⟨rfl, rfl⟩ := hv
      obtain ⟨z, h1, h2⟩ := (hT.ty _ _ hd).zeroT
      exact e_alloc hr hn h1 h2
    · cases hv
  · split at hv
    · rw [listK_eq] at hv
      simp only [Option.some.injEq, Prod.mk.injEq] at hv
      obtain ⟨rfl, rfl⟩ := hv
      exact e_box hr fr hn (valA_ok hF ‹_›)
    · cases hv
  · split at hv
    · rename_i d hd
      have hz := (hT.ty _ _ hd).size
      split at hv
      · rename_i u hu
        split at hv
        · rename_i hb
          simp only [Bool.and_eq_true, Nat.beq_eq] at hb
          split at hv
          · split at hv
            · split at hv
              · rename_i ho _ hle
                rw [listK_eq] at hv
                simp only [Option.some.injEq, Prod.mk.injEq] at hv
                obtain ⟨rfl, rfl⟩ := hv
                exact e_store hr fr (valA_ok hF ‹_›) (valA_ok hF hu) ho hz hb.1 hb.2 (Nat.le_of_ble_eq_true hle)
              · cases hv
            · cases hv
          · split at hv
            · rename_i ho
              split at hv
              · rename_i hq
                have := Nat.eq_of_beq_eq_true hq
                subst this
                split at hv
                · rename_i v0 hi
                  rw [atV_eq] at hi
                  split at hv
                  · rename_i hle
                    split at hv
                    · rename_i cs
                      rw [listK_eq] at hv
                      simp only [Option.some.injEq, Prod.mk.injEq] at hv
                      obtain ⟨rfl, rfl⟩ := hv
                      exact e_storeE hr fr (valA_ok hF ‹_›) (valA_ok hF hu) ho hz hi hb.1 hb.2 (Nat.le_of_ble_eq_true hle) (.inl ⟨cs, rfl⟩)
                    · rename_i hna
                      split at hv
                      · rename_i h1
                        rw [listK_eq] at hv
                        simp only [Option.some.injEq, Prod.mk.injEq] at hv
                        obtain ⟨rfl, rfl⟩ := hv
                        refine e_storeE hr fr (valA_ok hF ‹_›) (valA_ok hF hu) ho hz hi hb.1 hb.2 (Nat.le_of_ble_eq_true hle) (.inr ⟨?_, one_cellsV h1⟩)
                        cases v0 with
                        | agg cs => exact absurd rfl (hna cs)
                        | _ => rfl
                      · cases hv
                  · cases hv
                · cases hv
              · cases hv
            · cases hv
          · cases hv
        · cases hv
      · cases hv
    · cases hv
  · split at hv
    · rename_i e ht
      split at hv
      · rename_i d hd
        split at hv
        · rename_i vs hps
          split at hv
          · rename_i els hrp
            split at hv
            · rename_i hb
              simp only [Bool.and_eq_true, Nat.beq_eq] at hb
              rw [natK_eq] at hv
              simp only [Option.some.injEq, Prod.mk.injEq] at hv
              obtain ⟨rfl, rfl⟩ := hv
              obtain ⟨ys, g1, g2⟩ := partsA_ok hF hps
              obtain ⟨z, h1, h2⟩ := (hT.ty _ _ hd).zeroT
              exact e_bslice hr fr hn g1 g2 ((hT.ty _ _ ht).sl rfl) (hT.ty _ _ hd).size h1 hrp hb.1.1 hb.1.2 hb.2
            · cases hv
          · cases hv
        · cases hv
      · cases hv
    · cases hv
  · split at hv
    · rename_i e ht
      split at hv
      · rename_i d hd
        split at hv
        · split at hv
          · split at hv
            · rename_i hb
              simp only [Bool.and_eq_true, Nat.beq_eq, Nat.ble_eq, Nat.blt_eq] at hb
              obtain ⟨⟨⟨rfl, hb1⟩, hb2⟩, hb3⟩ := hb
              rw [listK_eq, natK_eq] at hv
              simp only [Option.some.injEq, Prod.mk.injEq] at hv
              obtain ⟨rfl, rfl⟩ := hv
              obtain ⟨z, h1, h2, h3, h4⟩ := (hT.ty _ _ hd).info
              exact e_make hr fr hn (valA_ok hF ‹_›) (valA_ok hF ‹_›) ((hT.ty _ _ ht).sl rfl) h1 h3 hb3 h4 h2 (by omega) (by simp only [maxLen]; omega)
            · cases hv
          · cases hv
        · cases hv
      · cases hv
    · cases hv
  · split at hv
    · rename_i hb0
      simp only [Bool.and_eq_true, Nat.beq_eq] at hb0
      obtain ⟨_, rfl⟩ := hb0
      split at hv
      · rename_i e ht
        split at hv
        · rename_i d hd
          obtain ⟨z, h1, h2, h3, h4⟩ := (hT.ty _ _ hd).info
          split at hv
          · rename_i u hu
            split at hv
            · rename_i news hs
              obtain ⟨y', g1, g2⟩ := srcA_ok hr hF hu hs
              split at hv
              · split at hv
                · rename_i hb
                  simp only [Bool.and_eq_true, Nat.ble_eq, Nat.blt_eq] at hb
                  obtain ⟨⟨hb1, hb2⟩, hb3⟩ := hb
                  rw [natK_eq] at hv
                  simp only [Option.some.injEq, Prod.mk.injEq] at hv
                  obtain ⟨rfl, rfl⟩ := hv
                  refine e_append0 hr fr hn g1 g2 ((hT.ty _ _ ht).sl rfl) h1 h3 hb3 (valA_ok hF ‹_›) (by simp only [maxLen]; omega) ?_
                  exact Nat.le_trans (Nat.mul_le_mul hb1 hb2) (by decide)
                · cases hv
              · split at hv
                · rename_i ho
                  split at hv
                  · rename_i hb
                    simp only [Bool.and_eq_true, Nat.ble_eq, Nat.blt_eq, Nat.beq_eq] at hb
                    obtain ⟨⟨⟨⟨rfl, rfl⟩, hb1⟩, hb2⟩, hb3⟩ := hb
                    rw [listK_eq] at hv
                    simp only [Option.some.injEq, Prod.mk.injEq] at hv
                    obtain ⟨rfl, rfl⟩ := hv
                    refine e_append hr fr hn g1 g2 ((hT.ty _ _ ht).sl rfl) h1 h3 hb3 (valA_ok hF ‹_›) ho (by simp only [maxLen]; omega) ?_
                    exact Nat.le_trans (Nat.mul_le_mul hb1 hb2) (by decide)
                  · cases hv
                · cases hv
              · cases hv
            · cases hv
          · cases hv
        · cases hv
      · cases hv
    · cases hv
  · split at hv
    · rename_i e ht
      split at hv
      · rename_i d hd
        split at hv
        · split at hv
          · rename_i ho
            split at hv
            · split at hv
              · rename_i hb
                simp only [Bool.and_eq_true, Nat.ble_eq, Nat.beq_eq] at hb
                obtain ⟨⟨rfl, rfl⟩, hb1⟩ := hb
                rw [listK_eq] at hv
                simp only [Option.some.injEq, Prod.mk.injEq] at hv
                obtain ⟨rfl, rfl⟩ := hv
                exact e_trunc hr fr hn (valA_ok hF ‹_›) (valA_ok hF ‹_›) ho ((hT.ty _ _ ht).sl rfl) (hT.ty _ _ hd).size hb1
              · cases hv
            · cases hv
          · cases hv
        · cases hv
      · cases hv
    · cases hv
  · cases hv
def ED.ok (h : Nat → Ob) : ED → Prop
  | .nop => True
  | .new o => True
  | .set id o => h id ≠ .gone ∧ h id ≠ .free
  | .repl id o => h id ≠ .gone ∧ h id ≠ .free
theorem effA_live {nid : Nat} {op : Op} {v : Option V} {ed : ED} (hv : effA T h F nid op = some (v, ed)) : ed.ok h := by
  unfold effA at hv
  repeat' (split at hv)
  all_goals first
    | (cases hv; done)
    | (simp only [listK_eq, natK_eq, Option.some.injEq, Prod.mk.injEq] at hv; obtain ⟨_, rfl⟩ := hv; first | exact trivial | (constructor <;> simp_all))
end
end Go.Proofs.Ythpjpngfghcmcaa
namespace Go.Proofs.Ythpjpngfghcmcaa
open Go.RowKit
section
variable {P : Program} {ops : Array Oper} {Q : Exit → Act → World → Prop} {B S : World → Prop}
def wpB (P : Program) (ops : Array Oper) (Q : Exit → Act → World → Prop) (B S : World → Prop) (m : Nat) : Nat → Array Bool → Act → World → Prop
  | 0, listed, a, w => Region.ready .any ops listed = [] ∧ Q .normal a w
  | fuel + 1, listed, a, w =>
    (Region.ready .any ops listed = [] → Q .normal a w) ∧
    ∀ i ∈ Region.ready .any ops listed, wpOp P ops Q i (fun a' w' => B w' ∧ (S w' ∨ (listed.setIfInBounds i true).getD m false = true) ∧ wpB P ops Q B S m fuel (listed.setIfInBounds i true) a' w') a w
theorem wpAny_of_B {m : Nat} : ∀ (fuel : Nat) (listed : Array Bool) (a : Act) (w : World), wpB P ops Q B S m fuel listed a w → wpAny P .any ops Q fuel listed a w
  | 0, _, _, _, h => h
  | fuel + 1, _, _, _, h => ⟨h.1, fun i hi => wpOp_mono (fun a' w' h' => wpAny_of_B fuel _ a' w' h'.2.2) (h.2 i hi)⟩
theorem wpB_mono {B' S' : World → Prop} {m : Nat} (hB : ∀ w, B' w → B w) (hS : ∀ w, B' w → S' w → S w) : ∀ (fuel : Nat) (listed : Array Bool) (a : Act) (w : World), wpB P ops Q B' S' m fuel listed a w → wpB P ops Q B S m fuel listed a w
  | 0, _, _, _, h => h
  | fuel + 1, _, _, _, h => ⟨h.1, fun i hi => wpOp_mono (fun a' w' h' => ⟨hB _ h'.1, h'.2.1.imp (hS _ h'.1) id, wpB_mono hB hS fuel _ a' w' h'.2.2⟩) (h.2 i hi)⟩
theorem wpB_pure {m : Nat} {i : Nat} {oi : Oper} {v : Value} (him : i ≠ m) (hi : ops[i]? = some oi) (hsel : ∀ (j : Nat) (o : Oper) cs b, ops[j]? = some o → o.op ≠ .select cs b)
    (hQ : ∀ c a w, Q (.panic c) (a.put oi.dst v) w → Q (.panic c) a w) :
    ∀ (fuel : Nat) (listed : Array Bool) (a : Act) (w : World),
      (∀ j oj, ops[j]? = some oj → j ≠ i → listed.getD j true = false → (∀ e ∈ oj.after, Region.binds .any e = true → e.on ≠ i) → oi.apart ops oj = true) →
      i ∈ Region.ready .any ops listed → YieldsIf P ops B oi v a → B w → (S w ∨ listed.getD m false = true) →
      wpB P ops Q B S m fuel (listed.setIfInBounds i true) (a.put oi.dst v) w → wpB P ops Q B S m (fuel + 1) listed a w := by
  intro fuel
  induction fuel with
  | zero =>
    intro listed a w _ hr hy hB hS H
    refine ⟨fun h => (by rw [h] at hr; cases hr), fun j hj => ?_⟩
    by_cases hji : j = i
    · subst hji; exact hy.wpOp hi hB ⟨hB, hS.imp id getD_set_keep, H⟩
    · have := ready_mono hj hji
      rw [H.1] at this
      cases this
  | succ fuel ih =>
    intro listed a w hfree hr hy hB hS H
    refine ⟨fun h => (by rw [h] at hr; cases hr), fun j hj => ?_⟩
    by_cases hji : j = i
    · subst hji; exact hy.wpOp hi hB ⟨hB, hS.imp id getD_set_keep, H⟩
    · have h1 := H.2 j (ready_mono hj hji)
      obtain ⟨hjun, oj, hoj, hall⟩ := mem_ready.1 hj
      have hnot := not_waits (j := j) hr hall
      have h2 := wpOp_putIf hoj (hfree j oj hoj hji hjun hnot) (fun cs b => hsel i oi cs b hi) (fun cs b => hsel j oj cs b hoj) hQ hy h1
      have hfree' : ∀ k ok, ops[k]? = some ok → k ≠ i → (listed.setIfInBounds j true).getD k true = false →
          (∀ e ∈ ok.after, Region.binds .any e = true → e.on ≠ i) → oi.apart ops ok = true := fun k ok hk hki hun hno => by
        refine hfree k ok hk hki ?_ hno
        by_cases hjk : j = k
        · subst hjk; exact hjun
        · rw [getD_set_ne true hjk] at hun; exact hun
      refine wpOp_mono (fun a' w' h3 => ?_) h2
      have hS3 : S w' ∨ (listed.setIfInBounds j true).getD m false = true := h3.2.2.1.imp id fun h => by
        rw [Array.setIfInBounds_comm _ _ (fun e => hji e.symm), getD_set_ne false him] at h
        exact h
      refine ⟨h3.2.1, hS3, ih (listed.setIfInBounds j true) a' w' hfree' (ready_mono hr (Ne.symm hji)) h3.1 h3.2.1 hS3 ?_⟩
      rw [Array.setIfInBounds_comm _ _ hji]
      exact h3.2.2.2
theorem wpB_load {m : Nat} {i : Nat} {oi : Oper} {v : Value} (him : i ≠ m) (hwt : waitB .any ops m i = true) (hi : ops[i]? = some oi) (hsel : ∀ (j : Nat) (o : Oper) cs b, ops[j]? = some o → o.op ≠ .select cs b)
    (hQ : ∀ c a w, Q (.panic c) (a.put oi.dst v) w → Q (.panic c) a w) :
    ∀ (fuel : Nat) (listed : Array Bool) (a : Act) (w : World),
      (∀ j oj, ops[j]? = some oj → j ≠ i → listed.getD j true = false → (∀ e ∈ oj.after, Region.binds .any e = true → e.on ≠ i) → oi.apart ops oj = true) →
      i ∈ Region.ready .any ops listed → YieldsIf P ops (fun w => B w ∧ S w) oi v a → B w → S w → listed.getD m false = false →
      wpB P ops Q B S m fuel (listed.setIfInBounds i true) (a.put oi.dst v) w → wpB P ops Q B S m (fuel + 1) listed a w := by
  intro fuel
  induction fuel with
  | zero =>
    intro listed a w _ hr hy hB hS _ H
    refine ⟨fun h => (by rw [h] at hr; cases hr), fun j hj => ?_⟩
    by_cases hji : j = i
    · subst hji; exact hy.wpOp hi ⟨hB, hS⟩ ⟨hB, .inl hS, H⟩
    · have := ready_mono hj hji
      rw [H.1] at this
      cases this
  | succ fuel ih =>
    intro listed a w hfree hr hy hB hS hlm H
    refine ⟨fun h => (by rw [h] at hr; cases hr), fun j hj => ?_⟩
    by_cases hji : j = i
    · subst hji; exact hy.wpOp hi ⟨hB, hS⟩ ⟨hB, .inl hS, H⟩
    · have h1 := H.2 j (ready_mono hj hji)
      obtain ⟨hjun, oj, hoj, hall⟩ := mem_ready.1 hj
      have hnot := not_waits (j := j) hr hall
      have hjm : j ≠ m := by
        rintro rfl
        unfold waitB at hwt
        rw [hoj] at hwt
        obtain ⟨e, he, hb⟩ := Array.any_eq_true'.1 hwt
        simp only [Bool.and_eq_true, beq_iff_eq] at hb
        exact hnot e he hb.1 hb.2
      have h2 := wpOp_putIf hoj (hfree j oj hoj hji hjun hnot) (fun cs b => hsel i oi cs b hi) (fun cs b => hsel j oj cs b hoj) hQ hy h1
      have hfree' : ∀ k ok, ops[k]? = some ok → k ≠ i → (listed.setIfInBounds j true).getD k true = false →
          (∀ e ∈ ok.after, Region.binds .any e = true → e.on ≠ i) → oi.apart ops ok = true := fun k ok hk hki hun hno => by
        refine hfree k ok hk hki ?_ hno
        by_cases hjk : j = k
        · subst hjk; exact hjun
        · rw [getD_set_ne true hjk] at hun; exact hun
      refine wpOp_mono (fun a' w' h3 => ?_) h2
      have hlm' : (listed.setIfInBounds j true).getD m false = false := by rw [getD_set_ne false hjm]; exact hlm
      have hS' : S w' := by
        rcases h3.2.2.1 with h | h
        · exact h
        · rw [Array.setIfInBounds_comm _ _ (fun e => hji e.symm), getD_set_ne false him, hlm'] at h
          cases h
      refine ⟨h3.2.1, .inl hS', ih (listed.setIfInBounds j true) a' w' hfree' (ready_mono hr (Ne.symm hji)) h3.1 h3.2.1 hS' hlm' ?_⟩
      rw [Array.setIfInBounds_comm _ _ hji]
      exact h3.2.2.2
end
inductive EI where
  | seq (c : Code)
  | blk (id : Nat)
  | loop (c : Code) (j : Nat)
  | scp
inductive EP where
  | code (c : Code)
  | ops (all : Array Oper) (rest : List Oper)
  | ex (e : Exit)
  | drw (all : Array Oper) (L : List Nat) (m left : Nat) (listed : Array Bool)
def stkE (P : Program) (Q : Exit → Act → World → Prop) : List EI → Exit → Act → World → Prop
  | [] => Q
  | .seq c :: s => Exit.then (c.wp P (stkE P Q s)) (stkE P Q s)
  | .blk id :: s => Exit.inBlock id (stkE P Q s)
  | .loop c j :: s => Exit.then (Code.rounds P c (stkE P Q s) j) (stkE P Q s)
  | .scp :: s => Exit.noGoto (stkE P Q s)
def vblk : Value → Option Nat
  | .pointer (some a) => some a.block
  | .slice (some a) _ _ => some a.block
  | _ => none
def Ls (ρ : Nat → Option Value) (L : List Nat) (w w' : World) : Prop := ∀ id, id ∈ L → ∀ x b, ρ id = some x → vblk x = some b → w'.heap[b]? = w.heap[b]?
def EP.wp (P : Program) (Q : Exit → Act → World → Prop) (p : EP) (s : List EI) (S : Nat → Prop) (w : World) (ρ : Nat → Option Value) (a : Act) : Prop :=
  match p with
  | .code c => c.wp P (stkE P Q s) a w
  | .ops all rest => wpList P all (stkE P Q s) rest a w
  | .ex e => stkE P Q s e a w
  | .drw all L m left listed => Region.noSelect all = true → wpB P all (NoPanic (stkE P Q s)) (Agree S w) (Ls ρ L w) m left listed a w
structure Hp where
  nx : Nat
  es : List (Nat × Ob)
def lookE : List (Nat × Ob) → Nat → Ob
  | [], _ => .gone
  | (i, o) :: r, j => match Nat.beq i j with
    | true => o
    | false => lookE r j
def Hp.get (H : Hp) (i : Nat) : Ob := match Nat.blt i H.nx with
  | true => lookE H.es i
  | false => .free
def setE {α : Type} (id : Nat) (o : Ob) : List (Nat × Ob) → (List (Nat × Ob) → α) → α
  | [], c => c []
  | (i, p) :: r, c => match Nat.beq i id with
    | true => c ((i, o) :: r)
    | false => setE id o r fun r' => c ((i, p) :: r')
def delE {α : Type} (id : Nat) : List (Nat × Ob) → (List (Nat × Ob) → α) → α
  | [], c => c []
  | (i, p) :: r, c => match Nat.beq i id with
    | true => delE id r c
    | false => delE id r fun r' => c ((i, p) :: r')
def Hp.ap {α : Type} (H : Hp) (e : ED) (c : Hp → α) : α := match e with
  | .nop => c H
  | .new o => natK H.nx fun k => natK (k + 1) fun n => c ⟨n, (k, o) :: H.es⟩
  | .set id o => setE id o H.es fun es => natK H.nx fun k => c ⟨k, es⟩
  | .repl id o => delE id H.es fun es => natK H.nx fun k => natK (k + 1) fun n => c ⟨n, (k, o) :: es⟩
def setE' (id : Nat) (o : Ob) : List (Nat × Ob) → List (Nat × Ob)
  | [] => []
  | (i, p) :: r => match Nat.beq i id with
    | true => (i, o) :: r
    | false => (i, p) :: setE' id o r
def delE' (id : Nat) : List (Nat × Ob) → List (Nat × Ob)
  | [] => []
  | (i, p) :: r => match Nat.beq i id with
    | true => delE' id r
    | false => (i, p) :: delE' id r
theorem setE_eq {α : Type} {id : Nat} {o : Ob} : ∀ (l : List (Nat × Ob)) (c : List (Nat × Ob) → α), setE id o l c = c (setE' id o l)
  | [], c => rfl
  | (i, p) :: r, c => by
    simp only [setE, setE']
    split
    · rfl
    · rw [setE_eq r]
theorem delE_eq {α : Type} {id : Nat} : ∀ (l : List (Nat × Ob)) (c : List (Nat × Ob) → α), delE id l c = c (delE' id l)
  | [], c => rfl
  | (i, p) :: r, c => by
    simp only [delE, delE']
    split
    · rw [delE_eq r]
    · rw [delE_eq r]
theorem nbF {a b : Nat} (h : a ≠ b) : Nat.beq a b = false := by
  cases hb : Nat.beq a b
  · rfl
  · exact absurd (Nat.eq_of_beq_eq_true hb) h
theorem nbT (a : Nat) : Nat.beq a a = true := by simp
theorem nlT {a b : Nat} (h : a < b) : Nat.blt a b = true := by simpa [Nat.blt_eq] using h
theorem look_set_ne {id i : Nat} {o : Ob} (hi : i ≠ id) : ∀ {l : List (Nat × Ob)}, lookE (setE' id o l) i = lookE l i
  | [] => rfl
  | (j, p) :: r => by
    simp only [setE']
    split
    · rename_i hb
      have e1 := Nat.eq_of_beq_eq_true hb
      subst e1
      simp only [lookE, nbF (Ne.symm hi)]
    · simp only [lookE]
      rw [look_set_ne hi]
theorem look_set_same {id : Nat} {o : Ob} : ∀ {l : List (Nat × Ob)}, lookE l id ≠ .gone → lookE (setE' id o l) id = o
  | [], h => absurd rfl h
  | (j, p) :: r, h => by
    simp only [setE']
    split
    · rename_i hb
      simp only [lookE, hb]
    · rename_i hb
      simp only [lookE, hb] at h ⊢
      exact look_set_same h
theorem look_del {id i : Nat} : ∀ {l : List (Nat × Ob)}, lookE (delE' id l) i = if i = id then .gone else lookE l i
  | [] => by simp [lookE, delE']
  | (j, p) :: r => by
    simp only [delE', lookE]
    split
    · rename_i hb
      have e1 := Nat.eq_of_beq_eq_true hb
      subst e1
      rw [look_del]
      by_cases hi : i = j
      · simp [hi]
      · simp [hi, nbF (Ne.symm hi)]
    · rename_i hb
      have hne := Nat.ne_of_beq_eq_false hb
      simp only [lookE]
      split
      · rename_i hb2
        have e2 := Nat.eq_of_beq_eq_true hb2
        subst e2
        rw [if_neg hne]
      · exact look_del
def Hp.app (H : Hp) : ED → Hp
  | .nop => H
  | .new o => ⟨H.nx + 1, (H.nx, o) :: H.es⟩
  | .set id o => ⟨H.nx, setE' id o H.es⟩
  | .repl id o => ⟨H.nx + 1, (H.nx, o) :: delE' id H.es⟩
theorem Hp.ap_eq {α : Type} (H : Hp) (e : ED) (c : Hp → α) : H.ap e c = c (H.app e) := by
  cases e <;> simp [Hp.ap, Hp.app, natK_eq, setE_eq, delE_eq]
theorem Hp.get_free (H : Hp) : H.get H.nx = .free := by
  unfold Hp.get
  have : Nat.blt H.nx H.nx = false := by simp [Bool.eq_false_iff]
  rw [this]
theorem Hp.get_app {H : Hp} {e : ED} (he : e.ok H.get) : (H.app e).get = e.app H.get H.nx := by
  funext i
  cases e with
  | nop => rfl
  | new o =>
    simp only [Hp.app, ED.app]
    by_cases hi : i = H.nx
    · subst hi
      rw [updH_same]
      simp only [Hp.get, lookE, nlT (Nat.lt_succ_self H.nx), nbT]
    · rw [updH_ne _ _ hi]
      have hb : Nat.beq H.nx i = false := nbF (Ne.symm hi)
      have : Nat.blt i (H.nx + 1) = Nat.blt i H.nx := by rw [Bool.eq_iff_iff]; simp [Nat.blt_eq]; omega
      simp [Hp.get, lookE, hb, this]
  | set id o =>
    simp only [Hp.app, ED.app]
    have h1 : lookE H.es id ≠ .gone := by
      have := he.1
      unfold Hp.get at this
      split at this
      · exact this
      · rename_i hc
        exact absurd (by unfold Hp.get; rw [hc]) he.2
    by_cases hi : i = id
    · subst hi
      rw [updH_same]
      have h2 := he.2
      unfold Hp.get at h2 ⊢
      split at h2
      · rename_i hc
        simp only [hc]
        exact look_set_same h1
      · exact absurd rfl h2
    · rw [updH_ne _ _ hi]
      unfold Hp.get
      simp only []
      rw [look_set_ne hi]
  | repl id o =>
    simp only [Hp.app, ED.app]
    have hid : id < H.nx := by
      have h2 := he.2
      unfold Hp.get at h2
      split at h2
      · rename_i hc; simpa [Nat.blt_eq] using hc
      · exact absurd rfl h2
    by_cases hi : i = H.nx
    · subst hi
      rw [updH_same]
      simp only [Hp.get, lookE, nlT (Nat.lt_succ_self H.nx), nbT]
    · rw [updH_ne _ _ hi]
      have hb : Nat.beq H.nx i = false := nbF (Ne.symm hi)
      have hlt : Nat.blt i (H.nx + 1) = Nat.blt i H.nx := by rw [Bool.eq_iff_iff]; simp [Nat.blt_eq]; omega
      by_cases hii : i = id
      · subst hii
        rw [updH_same]
        have : Nat.blt i H.nx = true := by simpa [Nat.blt_eq] using hid
        simp [Hp.get, lookE, hb, hlt, this, look_del]
      · rw [updH_ne _ _ hii]
        simp [Hp.get, lookE, hb, hlt, look_del, hii]
theorem look_app (a b : List (Nat × Ob)) (i : Nat) : lookE (a ++ b) i = lookE a i ∨ (lookE a i = .gone ∧ lookE (a ++ b) i = lookE b i) := by
  induction a with
  | nil => exact .inr ⟨rfl, rfl⟩
  | cons p r ih =>
    obtain ⟨j, o⟩ := p
    simp only [List.cons_append, lookE]
    split
    · exact .inl rfl
    · exact ih
end Go.Proofs.Ythpjpngfghcmcaa
namespace Go.Proofs.Ythpjpngfghcmcaa
open Go.RowKit
structure Ctx where
  w0 : World
  S0 : Nat → Prop
  X0 : Nat → Prop
  pin : Nat → Option Value
structure Inv (K : Ctx) (S : Nat → Prop) (w : World) (ρ : Nat → Option Value) (h : Nat → Ob) : Prop where
  chg : ChgP K.X0 K.w0 w
  s0 : ∀ b, K.S0 b → S b
  s1 : ∀ b, S b → K.S0 b ∨ K.X0 b ∨ K.w0.heap.size ≤ b
  ow : ∀ id b, own ρ id (h id) b → K.X0 b ∨ K.w0.heap.size ≤ b
  pin : ∀ id x, K.pin id = some x → ρ id = some x
section
variable {P : Program} {T : Tab} {K : Ctx} {S S' : Nat → Prop} {w w' : World} {ρ ρ' : Nat → Option Value} {h h' : Nat → Ob} {a : Act} {n : Nat} {F : Fm} {X : Nat → Prop}
theorem Inv.eff (hi : Inv K S w ρ h) (he : Eff S w w' ρ ρ' h h' X) : Inv K S w' ρ' h' :=
  ⟨hi.chg.trans he.chg (fun b ⟨id, _, hb⟩ => hi.ow id b hb), hi.s0, hi.s1, fun id b hb => by
    rcases he.new id b hb with ⟨j, hj⟩ | hj
    · exact hi.ow j b hj
    · exact .inr (Nat.le_trans hi.chg.size hj), fun id x hx => he.up.r _ _ (hi.pin id x hx)⟩
theorem Inv.frz (hr : HRel S w ρ h) (hi : Inv K S w ρ h) (id : Nat) : Inv K (fun b => S b ∨ own ρ id (h id) b) w ρ (updH h id .gone) :=
  ⟨hi.chg, fun b hb => .inl (hi.s0 b hb), fun b hb => by
    rcases hb with hb | hb
    · exact hi.s1 b hb
    · exact .inr (hi.ow id b hb), fun i b hb => by
    by_cases hii : i = id
    · subst hii; rw [updH_same] at hb; exact hb.elim
    · rw [updH_ne _ _ hii] at hb; exact hi.ow i b hb, hi.pin⟩
theorem HRel.chg0 (hr : HRel S w ρ h) (hc : Chg [] w w') : HRel S w' ρ h := by
  have up : Up S S w w' ρ ρ := ⟨fun _ h => h, fun b _ hb => hc.block b hb (by simp), fun _ _ h => h⟩
  refine ⟨fun i => (hr.ob i).up up (fun hf => ?_) (fun b hb => hc.block b (own_lt (hr.ob i) hb) (by simp)), hr.sep, hr.dis, fun b hb => Nat.lt_of_lt_of_le (hr.slt b hb) hc.size⟩
  have := hr.ob i; rw [hf] at this; exact this
theorem Up.chg0 (hc : Chg [] w w') : Up S S w w' ρ ρ := ⟨fun _ h => h, fun b _ hb => hc.block b hb (by simp), fun _ _ h => h⟩
theorem Inv.chg0 (hi : Inv K S w ρ h) (hc : Chg [] w w') : Inv K S w' ρ h := ⟨hi.chg.trans (ChgP.of hc) (fun b hb => by simp at hb), hi.s0, hi.s1, hi.ow, hi.pin⟩
theorem HRel.drop (hr : HRel S w ρ h) (hh : ∀ i, h' i = h i ∨ h' i = .gone) : HRel S w ρ h' := by
  have back : ∀ i b, own ρ i (h' i) b → own ρ i (h i) b := fun i b hb => by
    rcases hh i with e | e
    · rw [e] at hb; exact hb
    · rw [e] at hb; exact hb.elim
  refine ⟨fun i => ?_, fun i b hb => hr.sep i b (back i b hb), fun i j b hbi hbj => hr.dis i j b (back i b hbi) (back j b hbj), hr.slt⟩
  rcases hh i with e | e
  · rw [e]; exact hr.ob i
  · rw [e]; trivial
theorem Inv.drop (hi : Inv K S w ρ h) (hh : ∀ i, h' i = h i ∨ h' i = .gone) : Inv K S w ρ h' :=
  ⟨hi.chg, hi.s0, hi.s1, fun i b hb => by
    rcases hh i with e | e
    · rw [e] at hb; exact hi.ow i b hb
    · rw [e] at hb; exact hb.elim, hi.pin⟩
theorem Agree.refl : Agree S w w := fun _ _ => rfl
theorem agree_of_eff (hr : HRel S w ρ h) (he : Eff S w w' ρ ρ' h h' X) : Agree S w w' := fun b hb => he.up.blk b hb (hr.slt b hb)
def wantA (F : Fm) (all : Array Oper) (g : Option (Nat × Bool)) : Option Bool := match g with
  | none => some true
  | some (j, b) => match (all[j]?).bind (·.dst) with
    | some d => match F.get d with
      | some (.bool true) => some b
      | some (.bool false) => some (!b)
      | some (.tup _) => some false
      | _ => none
    | none => none
theorem wantA_ok (hF : FRel S w ρ a n F) {all : Array Oper} {o : Oper} {c : Bool} (hw : wantA F all o.guard = some c) : Region.wanted o (yielded all a.tmps) = c := by
  unfold wantA at hw
  split at hw
  · rename_i hg
    injection hw with hw; subst hw
    exact want_of hF.fr (by rw [hg]; rfl)
  · rename_i j b hg
    split at hw
    · rename_i d hd
      split at hw
      · rename_i hv
        obtain ⟨x, h1, h2⟩ := hF.get d _ hv
        simp only [VRel] at h2; subst h2
        injection hw with hw; subst hw
        cases b
        · exact skip_of hF.fr (by rw [hg]; simp only [skipF, look, hd]; simp [fA, h1])
        · exact want_of hF.fr (by rw [hg]; simp only [wantF, look, hd]; simp [fA, h1])
      · rename_i hv
        obtain ⟨x, h1, h2⟩ := hF.get d _ hv
        simp only [VRel] at h2; subst h2
        injection hw with hw; subst hw
        cases b
        · exact want_of hF.fr (by rw [hg]; simp only [wantF, look, hd]; simp [fA, h1])
        · exact skip_of hF.fr (by rw [hg]; simp only [skipF, look, hd]; simp [fA, h1])
      · rename_i hv
        obtain ⟨x, h1, h2⟩ := hF.get d _ hv
        simp only [VRel] at h2; obtain ⟨xs, rfl, _⟩ := h2
        injection hw with hw; subst hw
        exact skip_of hF.fr (by rw [hg]; simp only [skipF, look, hd]; simp [fA, h1])
      · cases hw
    · cases hw
end
def Go (P : Program) (K : Ctx) (Q : Exit → Act → World → Prop) (p : EP) (s : List EI) (n : Nat) (F : Fm) (H : Hp) : Prop :=
  ∀ S w ρ a, HRel S w ρ H.get → Inv K S w ρ H.get → FRel S w ρ a n F → EP.wp P Q p s S w ρ a
def CallR (P : Program) (K : Ctx) (fid : FuncId) (vs : List V) (H : Hp) (L : List Nat) (Post : V → Hp → Prop) : Prop :=
  ∀ S w ρ xs, HRel S w ρ H.get → Inv K S w ρ H.get → LRel S w ρ vs xs → Calls P fid xs.toArray w fun e w' =>
    ∃ x S' ρ' v H', e = .returned x ∧ Post v H' ∧ HRel S' w' ρ' H'.get ∧ Inv K S' w' ρ' H'.get ∧ Up S S' w w' ρ ρ' ∧ VRel S' w' ρ' v x ∧ Ls ρ L w w'
section
variable {P : Program} {T : Tab} {K : Ctx} {Q : Exit → Act → World → Prop} {s : List EI} {n : Nat} {F : Fm} {H : Hp}
theorem vrel_undef {S : Nat → Prop} {w : World} {ρ : Nat → Option Value} : VRel S w ρ (.tup []) undef := by
  simp only [VRel]; exact ⟨[], rfl, by simp [LRel]⟩
theorem frel_und {S : Nat → Prop} {w : World} {ρ : Nat → Option Value} {a : Act} (hF : FRel S w ρ a n F) (d : Option Tmp) : FRel S w ρ (a.put d undef) n (F.seto d (some (.tup []))) :=
  hF.set d (fun u hu => by injection hu with hu; subst hu; exact vrel_undef)
theorem frel_val {S : Nat → Prop} {w : World} {ρ : Nat → Option Value} {a : Act} {v : V} {x : Value} (hF : FRel S w ρ a n F) (d : Option Tmp) (hx : VRel S w ρ v x) : FRel S w ρ (a.put d x) n (F.seto d (some v)) :=
  hF.set d (fun u hu => by injection hu with hu; subst hu; exact hx)
theorem go_seq {x y : Code} (k : Go P K Q (.code x) (.seq y :: s) n F H) : Go P K Q (.code (.seq x y)) s n F H := fun S w ρ a hr hi hF => wp_seq (k S w ρ a hr hi hF)
theorem go_block {id : Nat} {c : Code} (k : Go P K Q (.code c) (.blk id :: s) n F H) : Go P K Q (.code (.block id c)) s n F H := fun S w ρ a hr hi hF => wp_block (k S w ρ a hr hi hF)
theorem go_skip (k : Go P K Q (.ex .normal) s n F H) : Go P K Q (.code .skip) s n F H := fun S w ρ a hr hi hF => wp_skip (k S w ρ a hr hi hF)
theorem go_ret (k : Go P K Q (.ex .ret) s n F H) : Go P K Q (.code .ret) s n F H := fun S w ρ a hr hi hF => wp_ret (k S w ρ a hr hi hF)
theorem go_exit {id : Nat} (k : Go P K Q (.ex (.exit id)) s n F H) : Go P K Q (.code (.exit id)) s n F H := fun S w ρ a hr hi hF => wp_exit (k S w ρ a hr hi hF)
theorem go_label {l : Nat} (k : Go P K Q (.ex .normal) s n F H) : Go P K Q (.code (.label l)) s n F H := fun S w ρ a hr hi hF => wp_label (k S w ρ a hr hi hF)
theorem go_scope {c : Code} (k : Go P K Q (.code c) (.scp :: s) n F H) : Go P K Q (.code (.scope c)) s n F H := fun S w ρ a hr hi hF => wp_scope_straight (k S w ρ a hr hi hF)
theorem go_loop {c : Code} (j : Nat) (k : Go P K Q (.code c) (.loop c j :: s) n F H) : Go P K Q (.code (.loop c)) s n F H := fun S w ρ a hr hi hF => wp_loop_rounds (j + 1) (k S w ρ a hr hi hF)
theorem go_condT {c : Operand} {x y : Code} (hc : valA F c = some (.bool true)) (k : Go P K Q (.code x) s n F H) : Go P K Q (.code (.cond c x y)) s n F H := fun S w ρ a hr hi hF => cd_condT hF.fr (opd_bool (valA_ok hF hc)) (k S w ρ a hr hi hF)
theorem go_condF {c : Operand} {x y : Code} (hc : valA F c = some (.bool false)) (k : Go P K Q (.code y) s n F H) : Go P K Q (.code (.cond c x y)) s n F H := fun S w ρ a hr hi hF => cd_condF hF.fr (opd_bool (valA_ok hF hc)) (k S w ρ a hr hi hF)
theorem go_region {id : Nat} {l : List Oper} (k : Go P K Q (.ops l.toArray l) s n F H) : Go P K Q (.code (.region id l.toArray false)) s n F H := fun S w ρ a hr hi hF => wp_region_lit (k S w ρ a hr hi hF)
theorem go_nil {all : Array Oper} (k : Go P K Q (.ex .normal) s n F H) : Go P K Q (.ops all []) s n F H := fun S w ρ a hr hi hF => k S w ρ a hr hi hF
theorem go_xseq {c : Code} (k : Go P K Q (.code c) s n F H) : Go P K Q (.ex .normal) (.seq c :: s) n F H := k
theorem go_xseqE {c : Code} {i : Nat} (k : Go P K Q (.ex (.exit i)) s n F H) : Go P K Q (.ex (.exit i)) (.seq c :: s) n F H := k
theorem go_xseqR {c : Code} (k : Go P K Q (.ex .ret) s n F H) : Go P K Q (.ex .ret) (.seq c :: s) n F H := k
theorem go_xloop {c : Code} {j : Nat} (k : Go P K Q (.code c) (.loop c j :: s) n F H) : Go P K Q (.ex .normal) (.loop c (j + 1) :: s) n F H := fun S w ρ a hr hi hF => k S w ρ a hr hi hF
theorem go_xloopE {c : Code} {j i : Nat} (k : Go P K Q (.ex (.exit i)) s n F H) : Go P K Q (.ex (.exit i)) (.loop c j :: s) n F H := k
theorem go_xloopR {c : Code} {j : Nat} (k : Go P K Q (.ex .ret) s n F H) : Go P K Q (.ex .ret) (.loop c j :: s) n F H := k
theorem go_xblkN {id : Nat} (k : Go P K Q (.ex .normal) s n F H) : Go P K Q (.ex .normal) (.blk id :: s) n F H := k
theorem go_xblkR {id : Nat} (k : Go P K Q (.ex .ret) s n F H) : Go P K Q (.ex .ret) (.blk id :: s) n F H := k
theorem go_xblkT {id i : Nat} (hb : Nat.beq i id = true) (k : Go P K Q (.ex .normal) s n F H) : Go P K Q (.ex (.exit i)) (.blk id :: s) n F H := fun S w ρ a hr hi hF => by
  have := Nat.eq_of_beq_eq_true hb
  subst this
  simp only [EP.wp, stkE, Exit.inBlock, if_true]
  exact k S w ρ a hr hi hF
theorem go_xblkF {id i : Nat} (hb : Nat.beq i id = false) (k : Go P K Q (.ex (.exit i)) s n F H) : Go P K Q (.ex (.exit i)) (.blk id :: s) n F H := fun S w ρ a hr hi hF => by
  simp only [EP.wp, stkE, Exit.inBlock, if_neg (Nat.ne_of_beq_eq_false hb)]
  exact k S w ρ a hr hi hF
theorem go_xscpN (k : Go P K Q (.ex .normal) s n F H) : Go P K Q (.ex .normal) (.scp :: s) n F H := k
theorem go_xscpE {i : Nat} (k : Go P K Q (.ex (.exit i)) s n F H) : Go P K Q (.ex (.exit i)) (.scp :: s) n F H := k
theorem go_xscpR (k : Go P K Q (.ex .ret) s n F H) : Go P K Q (.ex .ret) (.scp :: s) n F H := k
variable {all : Array Oper} {rest : List Oper} {o : Oper}
theorem go_opS (hw : wantA F all o.guard = some false) (k : Go P K Q (.ops all rest) s n (F.seto o.dst (some (.tup []))) H) : Go P K Q (.ops all (o :: rest)) s n F H := fun S w ρ a hr hi hF => by
  show wpList P all (stkE P Q s) (o :: rest) a w
  unfold wpList
  rw [wantA_ok hF hw]
  simp only [Bool.false_eq_true, if_false]
  exact k S w ρ _ hr hi (frel_und hF o.dst)
theorem go_draw {id : Nat} {l : List Oper} (L : List Nat) (m sz : Nat) (hsz : l.length = sz) (hm : P.follows .mixedOrders = true) (hs : Region.noSelect l.toArray = true) (k : Go P K Q (.drw l.toArray L m sz (Array.replicate sz false)) s n F H) : Go P K Q (.code (.region id l.toArray true)) s n F H := fun S w ρ a hr hi hF => by
  refine wp_region_noPanic (wp_region_any hm (wpAny_of_B (B := Agree S { w with drawn := w.drawn + 1 }) (S := Ls ρ L { w with drawn := w.drawn + 1 }) (m := m) _ _ _ _ ?_))
  have hc := Chg.drew w
  have := k S { w with drawn := w.drawn + 1 } ρ a (hr.chg0 hc) (hi.chg0 hc) (hF.up (Up.chg0 hc)) hs
  subst hsz
  simpa using this
variable {L : List Nat} {m left i : Nat} {listed : Array Bool}
theorem go_dDone (hd : Region.ready .any all listed = []) (k : Go P K Q (.ex .normal) s n F H) : Go P K Q (.drw all L m left listed) s n F H := fun S w ρ a hr hi hF _ => by
  have hk := k S w ρ a hr hi hF
  cases left with
  | zero => exact ⟨hd, hk⟩
  | succ left => exact ⟨fun _ => hk, by rw [hd]; simp⟩
theorem agree_mono {S S' : Nat → Prop} {w w' : World} (hS : ∀ b, S b → S' b) (h1 : Agree S w w') : ∀ x, Agree S' w' x → Agree S w x := fun x hx b hb => (hx b (hS b hb)).trans (h1 b hb)
theorem ls_mono {ρ ρ' : Nat → Option Value} {w w' : World} (hρ : ∀ i x, ρ i = some x → ρ' i = some x) (h1 : Ls ρ L w w') : ∀ x, Ls ρ' L w' x → Ls ρ L w x := fun x hx id hid y b hy hb => (hx id hid y b (hρ _ _ hy) hb).trans (h1 id hid y b hy hb)
theorem wpB_on {S S' : Nat → Prop} {w w' : World} {ρ ρ' : Nat → Option Value} {a : Act} (hu : Up S S' w w' ρ ρ') (hA : Agree S w w') (hL : Ls ρ L w w' ∨ listed.getD m false = true) (h : wpB P all (NoPanic (stkE P Q s)) (Agree S' w') (Ls ρ' L w') m left listed a w') :
    Agree S w w' ∧ (Ls ρ L w w' ∨ listed.getD m false = true) ∧ wpB P all (NoPanic (stkE P Q s)) (Agree S w) (Ls ρ L w) m left listed a w' := by
  refine ⟨hA, hL, ?_⟩
  rcases hL with hL | hL
  · exact wpB_mono (agree_mono hu.s hA) (fun x _ => ls_mono hu.r hL x) _ _ _ _ h
  · -- number m has come up: S does not matter any more
    have key : ∀ (fuel : Nat) (listed : Array Bool) (a : Act) (w'' : World), listed.getD m false = true → wpB P all (NoPanic (stkE P Q s)) (Agree S' w') (Ls ρ' L w') m fuel listed a w'' → wpB P all (NoPanic (stkE P Q s)) (Agree S w) (Ls ρ L w) m fuel listed a w'' := by
      intro fuel
      induction fuel with
      | zero => intro _ _ _ _ h; exact h
      | succ fuel ih =>
        intro listed a w'' hl h
        exact ⟨h.1, fun i hi => wpOp_mono (fun a' w3 h' => ⟨agree_mono hu.s hA _ h'.1, .inr (getD_set_keep hl), ih _ _ _ (getD_set_keep hl) h'.2.2⟩) (h.2 i hi)⟩
    exact key _ _ _ _ hL h
theorem ls_refl {ρ : Nat → Option Value} {w : World} : Ls ρ L w w := fun _ _ _ _ _ _ => rfl
theorem go_dY {v : V} (him : Nat.beq i m = false) (hi : all[i]? = some o) (hf : Region.free .any all listed i = true) (hrd : (Region.ready .any all listed).contains i = true) (hw : wantA F all o.guard = some true) (hy : ∀ S w ρ a, HRel S w ρ H.get → FRel S w ρ a n F → Yld P S w ρ a o.type o.op v)
    (k : Go P K Q (.drw all L m left (listed.setIfInBounds i true)) s n (F.seto o.dst (some v)) H) : Go P K Q (.drw all L m (left + 1) listed) s n F H := fun S w ρ a hr hiv hF hs => by
  obtain ⟨x, h1, h2⟩ := hy S w ρ a hr hF
  refine wpB_pure (Nat.ne_of_beq_eq_false him) hi (Region.noSelect_spec hs) (fun _ _ _ h => h.elim) left listed a w (Region.free_spec hi hf) (by simpa using hrd) (.inl ⟨wantA_ok hF hw, fun w' hA => ?_⟩) Agree.refl (.inl ls_refl) (k S w ρ _ hr hiv (frel_val hF o.dst h1) hs)
  obtain ⟨d, op, ty, ps, af, g⟩ := o
  exact h2 w' hA d ps af g
theorem go_dP (hT : TabOk P T) {v : V} (him : Nat.beq i m = false) (hi : all[i]? = some o) (hf : Region.free .any all listed i = true) (hrd : (Region.ready .any all listed).contains i = true) (hw : wantA F all o.guard = some true) (hv : pureA T H.get F o.op = some v)
    (k : Go P K Q (.drw all L m left (listed.setIfInBounds i true)) s n (F.seto o.dst (some v)) H) : Go P K Q (.drw all L m (left + 1) listed) s n F H := go_dY him hi hf hrd hw (fun S w ρ a hr hF => pureA_ok hT hr hF hv) k
theorem go_dK (him : Nat.beq i m = false) (hi : all[i]? = some o) (hf : Region.free .any all listed i = true) (hrd : (Region.ready .any all listed).contains i = true) (hw : wantA F all o.guard = some false)
    (k : Go P K Q (.drw all L m left (listed.setIfInBounds i true)) s n (F.seto o.dst (some (.tup []))) H) : Go P K Q (.drw all L m (left + 1) listed) s n F H := fun S w ρ a hr hiv hF hs =>
  wpB_pure (Nat.ne_of_beq_eq_false him) hi (Region.noSelect_spec hs) (fun _ _ _ h => h.elim) left listed a w (Region.free_spec hi hf) (by simpa using hrd) (.inr ⟨wantA_ok hF hw, rfl⟩) Agree.refl (.inl ls_refl) (k S w ρ _ hr hiv (frel_und hF o.dst) hs)
def loadId (F : Fm) (op : Op) : Option Nat := match op with
  | .load _ x => match valA F x with
    | some (.ptr id _) => some id
    | some (.el id _ _ _) => some id
    | _ => none
  | _ => none
theorem load_soft (hT : TabOk P T) {S : Nat → Prop} {w : World} {ρ : Nat → Option Value} {h : Nat → Ob} {a : Act} {op : Op} {ty : TypeId} {id nid : Nat} {v : V} {ed : ED} (hr : HRel S w ρ h) (hF : FRel S w ρ a n F) (hid : loadId F op = some id) (hv : effA T h F nid op = some (some v, ed)) :
    ∃ x u b, VRel S w ρ v x ∧ ρ id = some u ∧ vblk u = some b ∧ ∀ w', w'.heap[b]? = w.heap[b]? → Runs P a ty op w' (.value x) w' := by
  have fr := hF.fr
  unfold loadId at hid
  split at hid
  · rename_i t x
    unfold effA at hv
    simp only at hv
    split at hid
    · rename_i id' o' hx
      injection hid with hid; subst hid
      rw [hx] at hv
      simp only at hv
      split at hv
      · rename_i d hd
        split at hv
        · rename_i ho
          split at hv
          · rename_i u hu
            simp only [Option.some.injEq, Prod.mk.injEq] at hv
            obtain ⟨rfl, rfl⟩ := hv
            rcases partV_ok (hT.ty _ _ hd) hu with ⟨h1, h2⟩ | ⟨h1, h2, rfl⟩
            · obtain ⟨b, y, g1, g2, g3, g4⟩ := e_load' (P := P) (ty := ty) hr fr (valA_ok hF hx) ho h1 h2
              exact ⟨y, _, b, g3, g1, rfl, fun w' hw => g4 w' ((World.cell?_of_block (a := ⟨b, _, none⟩) hw).trans g2)⟩
            · obtain ⟨b, ys, g1, g2, g3, g4⟩ := e_loadN' (P := P) (ty := ty) hr fr (valA_ok hF hx) ho h1 h2
              exact ⟨_, _, b, by simp only [VRel]; exact ⟨ys, rfl, g3⟩, g1, rfl, fun w' hw => g4 w' (fun j hj => (World.cell?_of_block (a := ⟨b, _, none⟩) hw).trans (g2 j hj))⟩
          · cases hv
        · cases hv
      · cases hv
    · rename_i id' sz i' o' hx
      injection hid with hid; subst hid
      rw [hx] at hv
      simp only at hv
      split at hv
      · rename_i d hd
        split at hv
        · rename_i ho
          split at hv
          · rename_i hb
            have := Nat.eq_of_beq_eq_true hb
            subst this
            split at hv
            · rename_i v0 hi
              rw [atV_eq] at hi
              split at hv
              · rename_i u hu
                simp only [Option.some.injEq, Prod.mk.injEq] at hv
                obtain ⟨rfl, rfl⟩ := hv
                have hbk : ∀ (q : Value) (b : Nat), q.ownBlock = some b → vblk q = some b := fun q b hq => by
                  cases q <;> first | (simp only [Value.ownBlock] at hq; cases hq; done) | skip
                  rename_i A _ _
                  cases A <;> simp_all [Value.ownBlock, vblk]
                rcases partV_ok (hT.ty _ _ hd) hu with ⟨h1, h2⟩ | ⟨h1, h2, rfl⟩
                · obtain ⟨b, q, y, g1, g1', g2, g3, g4⟩ := e_loadE' (P := P) (ty := ty) hr fr (valA_ok hF hx) ho h1 hi h2
                  exact ⟨y, q, b, g3, g1, hbk q b g1', fun w' hw => g4 w' ((World.cell?_of_block (a := ⟨b, _, none⟩) hw).trans g2)⟩
                · obtain ⟨b, q, ys, g1, g1', g2, g3, g4⟩ := e_loadEN' (P := P) (ty := ty) hr fr (valA_ok hF hx) ho h1 hi h2
                  exact ⟨_, q, b, by simp only [VRel]; exact ⟨ys, rfl, g3⟩, g1, hbk q b g1', fun w' hw => g4 w' (fun j hj => (World.cell?_of_block (a := ⟨b, _, none⟩) hw).trans (g2 j hj))⟩
              · cases hv
            · cases hv
          · cases hv
        · cases hv
      · cases hv
    · cases hid
  · cases hid
theorem go_dL (hT : TabOk P T) {v : V} {id : Nat} {ed : ED} (him : Nat.beq i m = false) (hwt : waitB .any all m i = true) (hlm : listed.getD m false = false) (hi : all[i]? = some o) (hf : Region.free .any all listed i = true) (hrd : (Region.ready .any all listed).contains i = true) (hw : wantA F all o.guard = some true)
    (hid : loadId F o.op = some id) (hL : L.contains id = true) (hv : effA T H.get F H.nx o.op = some (some v, ed))
    (k : Go P K Q (.drw all L m left (listed.setIfInBounds i true)) s n (F.seto o.dst (some v)) H) : Go P K Q (.drw all L m (left + 1) listed) s n F H := fun S w ρ a hr hiv hF hs => by
  obtain ⟨x, u, b, h1, h2, h3, h4⟩ := load_soft (ty := o.type) hT hr hF hid hv
  refine wpB_load (Nat.ne_of_beq_eq_false him) hwt hi (Region.noSelect_spec hs) (fun _ _ _ h => h.elim) left listed a w (Region.free_spec hi hf) (by simpa using hrd) (.inl ⟨wantA_ok hF hw, fun w' hA => ?_⟩) Agree.refl ls_refl hlm (k S w ρ _ hr hiv (frel_val hF o.dst h1) hs)
  have hb := hA.2 id (by simpa using hL) u b h2 h3
  obtain ⟨d, op, ty, ps, af, g⟩ := o
  exact h4 w' hb d ps af g
def liveL (h : Nat → Ob) : List Nat → Bool
  | [] => true
  | i :: r => match h i with
    | .var _ _ => liveL h r
    | .row _ _ _ => liveL h r
    | _ => false
theorem liveL_own {S : Nat → Prop} {w : World} {ρ : Nat → Option Value} {h : Nat → Ob} (hr : HRel S w ρ h) : ∀ {L : List Nat}, liveL h L = true → ∀ id, id ∈ L → ∀ x b, ρ id = some x → vblk x = some b → own ρ id (h id) b
  | [], _, id, hid, x, b, hx, hb => by simp at hid
  | j :: r, hl, id, hid, x, b, hx, hb => by
    have hown : ∀ o, h j = o → (∃ t cs, o = .var t cs) ∨ (∃ e sz els, o = .row e sz els) → ∀ x b, ρ j = some x → vblk x = some b → own ρ j (h j) b := by
      rintro o ho (⟨t, cs, rfl⟩ | ⟨e, sz, els, rfl⟩) x b hx hb
      · obtain ⟨c, xs, g1, _⟩ := var_of hr ho
        rw [g1] at hx; cases hx
        simp only [vblk, Option.some.injEq] at hb; subst hb
        rw [ho]; exact g1
      · obtain ⟨v, xs, g1, g2, _⟩ := row_of hr ho
        rw [g1] at hx; cases hx
        rw [ho]
        refine ⟨_, g1, ?_⟩
        obtain ⟨A, c, rfl, _⟩ := ownsRow_slice g2
        cases A <;> simp_all [Value.ownBlock, vblk]
    simp only [liveL] at hl
    rcases List.mem_cons.1 hid with e | e
    · subst e
      split at hl
      · rename_i t cs ho; exact hown _ ho (.inl ⟨t, cs, rfl⟩) x b hx hb
      · rename_i e sz els ho; exact hown _ ho (.inr ⟨e, sz, els, rfl⟩) x b hx hb
      · cases hl
    · split at hl
      · exact liveL_own hr hl id e x b hx hb
      · exact liveL_own hr hl id e x b hx hb
      · cases hl
def ED.clear (L : List Nat) : ED → Bool
  | .nop => true
  | .new _ => true
  | .set id _ => !L.contains id
  | .repl id _ => !L.contains id
theorem ls_eff {S : Nat → Prop} {w w' : World} {ρ ρ' : Nat → Option Value} {h h' : Nat → Ob} {ed : ED} (hr : HRel S w ρ h) (he : Eff S w w' ρ ρ' h h' ed.tch) (hl : liveL h L = true) (hc : ed.clear L = true) : Ls ρ L w w' := fun id hid x b hx hb => by
  have ho := liveL_own hr hl id hid x b hx hb
  refine he.chg.block b (own_lt (hr.ob id) ho) ?_
  rintro ⟨j, hj, hjo⟩
  have e := hr.dis j id b hjo ho
  subst e
  cases ed with
  | nop => exact hj
  | new _ => exact hj
  | set k _ => simp only [ED.tch] at hj; subst hj; simp [ED.clear] at hc; exact hc hid
  | repl k _ => simp only [ED.tch] at hj; subst hj; simp [ED.clear] at hc; exact hc hid
theorem or_of {a b : Bool} (h : (a || b) = true) : a = true ∨ b = true := by simpa using h
theorem wpB_one {S : Nat → Prop} {B : World → Prop} {Sx : World → Prop} {a : Act} {w : World} {Q' : Exit → Act → World → Prop} (hrd : Region.ready .any all listed = [i]) (hk : wpOp P all Q' i (fun a' w' => B w' ∧ (Sx w' ∨ (listed.setIfInBounds i true).getD m false = true) ∧ wpB P all Q' B Sx m left (listed.setIfInBounds i true) a' w') a w) : wpB P all Q' B Sx m (left + 1) listed a w := by
  refine ⟨fun h0 => (by rw [hrd] at h0; cases h0), fun j hj => ?_⟩
  rw [hrd] at hj
  obtain rfl : j = i := by simpa using hj
  exact hk
theorem go_d1S (hrd : Region.ready .any all listed = [i]) (hi : all[i]? = some o) (hw : wantA F all o.guard = some false) (k : Go P K Q (.drw all L m left (listed.setIfInBounds i true)) s n (F.seto o.dst (some (.tup []))) H) : Go P K Q (.drw all L m (left + 1) listed) s n F H := fun S w ρ a hr hiv hF hs => by
  refine wpB_one (S := S) hrd ?_
  unfold wpOp
  simp only [hi]
  rw [wantA_ok hF hw]
  simp only [Bool.false_eq_true, if_false]
  exact ⟨Agree.refl, .inl ls_refl, k S w ρ _ hr hiv (frel_und hF o.dst) hs⟩
end
end Go.Proofs.Ythpjpngfghcmcaa
namespace Go.Proofs.Ythpjpngfghcmcaa
open Go.RowKit
section
variable {P : Program} {T : Tab} {K : Ctx} {Q : Exit → Act → World → Prop} {s : List EI} {n : Nat} {F : Fm} {S S' : Nat → Prop} {w w' : World} {ρ ρ' : Nat → Option Value} {h h1 h1' h2 : Nat → Ob} {a : Act}
theorem merge_ok (hr : HRel S w ρ h) (hi : Inv K S w ρ h) (hh1 : ∀ i, h1 i = h i ∨ h1 i = .gone) (hr' : HRel S' w' ρ' h1') (hi' : Inv ⟨w, S, fun b => ∃ id, own ρ id (h1 id) b, ρ⟩ S' w' ρ' h1')
    (hh2 : ∀ i, (h2 i = h1' i ∨ h2 i = .gone) ∨ (h2 i = h i ∧ h1 i = .gone ∧ h i ≠ .free)) :
    HRel S' w' ρ' h2 ∧ Inv K S' w' ρ' h2 ∧ Up S S' w w' ρ ρ' ∧ ∀ L, liveL h L = true → (∀ id, id ∈ L → h1 id = .gone) → Ls ρ L w w' := by
  have h1own : ∀ id b, own ρ id (h1 id) b → own ρ id (h id) b := fun id b hb => by
    rcases hh1 id with e | e
    · rw [e] at hb; exact hb
    · rw [e] at hb; exact hb.elim
  have up : Up S S' w w' ρ ρ' := ⟨hi'.s0, fun b hb hlt => hi'.chg.block b hlt (fun ⟨id, ho⟩ => hr.sep id b (h1own id b ho) hb), hi'.pin⟩
  have frame : ∀ i b, h1 i = .gone → own ρ i (h i) b → ¬ ∃ id, own ρ id (h1 id) b := fun i b hg ho ⟨id, hid⟩ => by
    have e := hr.dis i id b ho (h1own id b hid)
    subst e
    rw [hg] at hid; exact hid.elim
  have cases2 : ∀ i b, own ρ' i (h2 i) b → own ρ' i (h1' i) b ∨ (h1 i = .gone ∧ own ρ i (h i) b) := fun i b hb => by
    rcases hh2 i with (e | e) | ⟨e, e1, e2⟩
    · rw [e] at hb; exact .inl hb
    · rw [e] at hb; exact hb.elim
    · rw [e] at hb; exact .inr ⟨e1, own_up hi'.pin (hr.ob i) hb⟩
  have far : ∀ i b, h1 i = .gone → own ρ i (h i) b → ¬ S' b := fun i b hg ho hS => by
    rcases hi'.s1 b hS with h3 | h3 | h3
    · exact hr.sep i b ho h3
    · exact frame i b hg ho h3
    · have := own_lt (hr.ob i) ho; simp only at h3; omega
  have apart : ∀ i j b, own ρ' i (h1' i) b → h1 j = .gone → own ρ j (h j) b → False := fun i j b ho hg hb => by
    rcases hi'.ow i b ho with h3 | h3
    · exact frame j b hg hb h3
    · have := own_lt (hr.ob j) hb; simp only at h3; omega
  refine ⟨⟨fun i => ?_, fun i b hb => ?_, fun i j b hbi hbj => ?_, hr'.slt⟩, ⟨?_, fun b hb => hi'.s0 b (hi.s0 b hb), fun b hb => ?_, fun i b hb => ?_, fun id x hx => hi'.pin _ _ (hi.pin id x hx)⟩, up, fun L hl hg id hid x b hx hb => ?_⟩
  · rcases hh2 i with (e | e) | ⟨e, e1, e2⟩
    · rw [e]; exact hr'.ob i
    · rw [e]; trivial
    · rw [e]
      exact (hr.ob i).up up (fun hf => absurd hf e2) (fun b hb => hi'.chg.block b (own_lt (hr.ob i) hb) (frame i b e1 hb))
  · rcases cases2 i b hb with h3 | ⟨h3, h4⟩
    · exact hr'.sep i b h3
    · exact far i b h3 h4
  · rcases cases2 i b hbi with h3 | ⟨h3, h4⟩ <;> rcases cases2 j b hbj with h5 | ⟨h5, h6⟩
    · exact hr'.dis i j b h3 h5
    · exact (apart i j b h3 h5 h6).elim
    · exact (apart j i b h5 h3 h4).elim
    · exact hr.dis i j b h4 h6
  · refine hi.chg.trans hi'.chg ?_
    rintro b ⟨id, ho⟩
    exact hi.ow id b (h1own id b ho)
  · rcases hi'.s1 b hb with h3 | ⟨id, h3⟩ | h3
    · exact hi.s1 b h3
    · exact .inr (hi.ow id b (h1own id b h3))
    · exact .inr (.inr (Nat.le_trans hi.chg.size h3))
  · rcases cases2 i b hb with h3 | ⟨h3, h4⟩
    · rcases hi'.ow i b h3 with ⟨id, h5⟩ | h5
      · exact hi.ow id b (h1own id b h5)
      · exact .inr (Nat.le_trans hi.chg.size h5)
    · exact hi.ow i b h4
  · have ho := liveL_own hr hl id hid x b hx hb
    exact hi'.chg.block b (own_lt (hr.ob id) ho) (frame id b (hg id hid) ho)
def fr0A : Nat → List V → Fm
  | 0, _ => []
  | n + 1, [] => none :: fr0A n []
  | n + 1, v :: r => some v :: fr0A n r
theorem fr0A_len : ∀ (n : Nat) (vs : List V), (fr0A n vs).length = n
  | 0, _ => rfl
  | n + 1, [] => by simp [fr0A, fr0A_len n []]
  | n + 1, v :: r => by simp [fr0A, fr0A_len n r]
theorem fr0A_get : ∀ (n : Nat) (vs : List V) (i : Nat) (v : V), (fr0A n vs).get i = some v → vs[i]? = some v
  | 0, _, i, v, h => by simp [fr0A, Fm.get] at h
  | n + 1, [], 0, v, h => by simp [fr0A, Fm.get] at h
  | n + 1, [], i + 1, v, h => by
    have := fr0A_get n [] i v (by simpa [fr0A, Fm.get] using h)
    simp at this
  | n + 1, u :: r, 0, v, h => by simpa [fr0A, Fm.get] using h
  | n + 1, u :: r, i + 1, v, h => by
    have := fr0A_get n r i v (by simpa [fr0A, Fm.get] using h)
    simpa using this
theorem enter_go {H : Hp} {fid : FuncId} {fn : Func} {c : Code} {vs : List V} {xs : List Value} {R : Ending → World → Prop} (hf : P.funcs[fid]? = some fn) (hb : fn.body = some c) (hl : Nat.ble vs.length fn.ntmps = true) (hr : HRel S w ρ H.get) (hi : Inv K S w ρ H.get) (hx : LRel S w ρ vs xs)
    (k : Go P K (bodyPost P fn R) (.code c) [] fn.ntmps (fr0A fn.ntmps vs) H) : Calls P fid xs.toArray w R := by
  refine calls_of_wp hf hb (k S w ρ _ hr hi ⟨?_, rfl, ?_, fun i v hv => ?_⟩)
  · have h1 : vs.length ≤ fn.ntmps := Nat.le_of_ble_eq_true hl
    have h2 := hx.length
    simp; omega
  · exact Nat.le_of_eq (fr0A_len _ _)
  · have h1 := fr0A_get _ _ _ _ hv
    obtain ⟨x, h2, h3⟩ := hx.get h1
    refine ⟨x, ?_, h3⟩
    have hlt : i < xs.length := (List.getElem?_eq_some_iff.1 h2).1
    show (xs.toArray ++ Array.replicate (fn.ntmps - xs.toArray.size) undef)[i]? = some x
    rw [Array.getElem?_append_left (by simpa using hlt)]
    simpa using h2
def resA1 (T : Tab) (h : Nat → Ob) (F : Fm) : ResultVar → Option V
  | .tmp t => F.get t
  | .cell t ty => match T.ty ty with
    | some d => match F.get t with
      | some (.ptr id 0) => match h id with
        | .var _ cs => partV d cs 0
        | _ => none
      | some (.box cs 0) => partV d cs 0
      | _ => none
    | none => none
def resA (T : Tab) (h : Nat → Ob) (F : Fm) : List ResultVar → Option (List V)
  | [] => some []
  | x :: r => match resA1 T h F x with
    | some v => match resA T h F r with
      | some vs => some (v :: vs)
      | none => none
    | none => none
def retA : List V → V
  | [v] => v
  | vs => .tup vs
theorem cell_run {t : TypeId} {d : TD} (td : TdOk P t d) {b off : Nat} {cs : List V} {xs : List Value} {v : V} (hl : LRel S w ρ cs xs) (hc : ∀ j, j < xs.length → w.cell? ⟨b, off + j, none⟩ = xs[j]?) (hv : partV d cs 0 = some v) : ∃ y, (loadVar t ⟨b, off, none⟩).run P w = .ok y w ∧ VRel S w ρ v y := by
  have hlen := hl.length
  rcases partV_ok td hv with ⟨h1, h2⟩ | ⟨h1, h2, rfl⟩
  · obtain ⟨y, h3, h4⟩ := hl.get h2
    have h0 : 0 < xs.length := (List.getElem?_eq_some_iff.1 h3).1
    have := run_load1 (P := P) (w := w) (p := ⟨b, off, none⟩) h1 (by have := hc 0 h0; rw [Nat.add_zero] at this; rw [this, h3])
    refine ⟨y, ?_, h4⟩
    simp only [Instr.loadAt, Instr.sureAddr] at this
    simpa using this
  · have := run_loadN (P := P) (w := w) (b := b) (o := off) (cs := xs.take d.size) h1 (by simp; omega) (fun j hj => by rw [hc j (by omega), List.getElem?_take, if_pos hj])
    refine ⟨_, ?_, by simp only [VRel]; exact ⟨xs.take d.size, rfl, by simpa using hl.take d.size⟩⟩
    simp only [Instr.loadAt, Instr.sureAddr] at this
    simpa using this
theorem resA1_ok (hT : TabOk P T) (hr : HRel S w ρ h) (hF : FRel S w ρ a n F) {x : ResultVar} {v : V} (hv : resA1 T h F x = some v) : ∃ y, (resM a x).run P w = .ok y w ∧ VRel S w ρ v y := by
  unfold resA1 at hv
  split at hv
  · rename_i t
    obtain ⟨y, h1, h2⟩ := hF.get t v hv
    exact ⟨y, by simp [resM, Array.getD_eq_getD_getElem?, h1], h2⟩
  · rename_i t ty
    split at hv
    · rename_i d hd
      split at hv
      · rename_i id hid
        split at hv
        · rename_i ho
          obtain ⟨b, xs, g1, g2, g3⟩ := var_of hr ho
          obtain ⟨y, h1, h2⟩ := hF.get t _ hid
          simp only [VRel] at h2
          obtain ⟨b', h3, rfl⟩ := h2
          rw [g1] at h3
          simp only [Option.some.injEq, Value.pointer.injEq, Addr.mk.injEq, and_true] at h3
          subst h3
          obtain ⟨z, k1, k2⟩ := cell_run (hT.ty _ _ hd) g3 (b := b) (off := 0) (fun j hj => by rw [Nat.zero_add, g2.cell]) hv
          exact ⟨z, by simp [resM, Array.getD_eq_getD_getElem?, h1, asAddr, k1], k2⟩
        · cases hv
      · rename_i cs hid
        obtain ⟨y, h1, h2⟩ := hF.get t _ hid
        simp only [VRel] at h2
        obtain ⟨b, off, xs, rfl, _, _, g3, g4⟩ := h2
        obtain ⟨z, k1, k2⟩ := cell_run (hT.ty _ _ hd) g3 (b := b) (off := off) g4 hv
        exact ⟨z, by simp [resM, Array.getD_eq_getD_getElem?, h1, asAddr, k1], k2.up up0⟩
      · cases hv
    · cases hv
theorem resA_ok (hT : TabOk P T) (hr : HRel S w ρ h) (hF : FRel S w ρ a n F) : ∀ {l : List ResultVar} {vs : List V}, resA T h F l = some vs → ∃ ys, (l.mapM (resM a)).run P w = .ok ys w ∧ LRel S w ρ vs ys
  | [], vs, hv => by simp only [resA, Option.some.injEq] at hv; subst hv; exact ⟨[], by simp, by simp [LRel]⟩
  | x :: r, vs, hv => by
    simp only [resA] at hv
    split at hv
    · rename_i v h1
      split at hv
      · rename_i us h2
        simp only [Option.some.injEq] at hv; subst hv
        obtain ⟨y, g1, g2⟩ := resA1_ok hT hr hF h1
        obtain ⟨ys, g3, g4⟩ := resA_ok hT hr hF h2
        exact ⟨y :: ys, by simp [List.mapM_cons, g1, g3], ⟨y, ys, rfl, g2, g4⟩⟩
      · cases hv
    · cases hv
theorem retA_ok {vs : List V} {ys : List Value} (hl : LRel S w ρ vs ys) : VRel S w ρ (retA vs) (retV ys) := by
  match vs, ys, hl with
  | [], ys, hl => simp only [LRel] at hl; subst hl; simp only [retA, retV, VRel]; exact ⟨[], rfl, by simp [LRel]⟩
  | [v], ys, hl =>
    simp only [LRel] at hl
    obtain ⟨x, zs, rfl, h1, rfl⟩ := hl
    exact h1
  | v :: u :: r, ys, hl =>
    have hl' := hl
    simp only [LRel] at hl
    obtain ⟨x, zs, rfl, h1, y, zs', rfl, h2, h3⟩ := hl
    simp only [retA, retV, VRel]
    exact ⟨_, rfl, hl'⟩
theorem ret_go (hT : TabOk P T) {fn : Func} {R : Ending → World → Prop} {rs : List ResultVar} {vs : List V} {e : Exit} (he : e = .ret ∨ e = .normal) (hrs : fn.results = rs.toArray) (hr : HRel S w ρ h) (hF : FRel S w ρ a n F) (hv : resA T h F rs = some vs) (hR : ∀ x, VRel S w ρ (retA vs) x → R (.returned x) w) : bodyPost P fn R e a w := by
  obtain ⟨ys, h0, h1⟩ := resA_ok hT hr hF hv
  have hb : bodyPost P fn R .ret a w := by
    refine bodyPost_ret (v := retV ys) ?_ hF.defers (hR _ (retA_ok h1))
    have e : (Array.mapM (resM a) rs.toArray).run P w = .ok ys.toArray w := by rw [List.mapM_toArray]; simp [h0]
    unfold results
    rw [hrs]
    change ((Array.mapM (resM a) rs.toArray) >>= fun vs => pure (if h : vs.size = 1 then vs[0] else .tuple vs)).run P w = _
    simp only [Sem.run_bind, e, Result.andThen_ok, Sem.run_pure]
    match ys with
    | [] => rfl
    | [v] => rfl
    | v :: u :: r => simp [retV]
  rcases he with rfl | rfl
  · exact hb
  · exact hb
end
end Go.Proofs.Ythpjpngfghcmcaa
namespace Go.Proofs.Ythpjpngfghcmcaa
open Go.RowKit
def opdNe (d : Nat) : Operand → Bool
  | .tmp t => !Nat.beq t d
  | _ => true
def partsNe (d : Option Tmp) (ps : List (Nat × Operand)) : Bool := match d with
  | some d => ps.all fun p => opdNe d p.2
  | none => true
def dstNe (d e : Option Tmp) : Bool := match d, e with
  | some d, some e => !Nat.beq d e
  | _, _ => true
section
variable {P : Program} {T : Tab} {K : Ctx} {Q : Exit → Act → World → Prop} {s : List EI} {n : Nat} {F : Fm} {H : Hp} {S : Nat → Prop} {w : World} {ρ : Nat → Option Value} {a : Act}
theorem val_put {d : Nat} {x : Operand} {y : Value} (h : opdNe d x = true) : valF (fA (a.put (some d) y)) x = valF (fA a) x := by
  cases x with
  | tmp t =>
    have hne : t ≠ d := fun e => by subst e; simp [opdNe] at h
    simp only [valF, fA, Act.put, Array.getElem?_setIfInBounds]
    rw [if_neg (fun e => hne e.symm)]
  | _ => rfl
theorem parts_put {d : Option Tmp} {y : Value} : ∀ {ps : List (Nat × Operand)}, partsNe d ps = true → partsF (fA (a.put d y)) ps = partsF (fA a) ps := by
  intro ps h
  cases d with
  | none => rfl
  | some d =>
    induction ps with
    | nil => rfl
    | cons p r ih =>
      obtain ⟨i, x⟩ := p
      simp only [partsNe, List.all_cons, Bool.and_eq_true] at h
      have ih' := ih (by simp only [partsNe]; exact h.2)
      simp only [partsF, val_put h.1, ih']
theorem PRel.up {S' : Nat → Prop} {w' : World} {ρ' : Nat → Option Value} (u : Up S S' w w' ρ ρ') : ∀ {vs : List (Nat × V)} {ys : List (Nat × Value)}, PRel S w ρ vs ys → PRel S' w' ρ' vs ys
  | [], ys, h => h
  | (i, v) :: r, ys, h => by
    simp only [PRel] at h ⊢
    obtain ⟨x, zs, h1, h2, h3⟩ := h
    exact ⟨x, zs, h1, h2.up u, PRel.up u h3⟩
theorem seto_comm {d e : Option Tmp} {v u : Option V} (h : dstNe d e = true) : (F.seto d v).seto e u = (F.seto e u).seto d v := by
  cases d with
  | none => rfl
  | some d => cases e with
    | none => rfl
    | some e =>
      have : d ≠ e := fun x => by subst x; simp [dstNe] at h
      simp only [Fm.seto]
      exact List.set_comm _ _ this
theorem frel_less {d : Option Tmp} {v : V} (hd : ∀ t, d = some t → F.get t = none) (hF : FRel S w ρ a n (F.seto d (some v))) : FRel S w ρ a n F := by
  cases d with
  | none => exact hF
  | some d =>
    refine ⟨hF.size, hF.defers, by have := hF.len; simpa [Fm.seto] using this, fun i u hu => hF.get i u ?_⟩
    have hne : d ≠ i := fun e => by subst e; rw [hd d rfl] at hu; cases hu
    rw [Fm.get_eq] at hu ⊢
    simp only [Fm.seto, List.getElem?_set, if_neg hne]
    exact hu
variable {all : Array Oper} {L : List Nat} {m left i : Nat} {listed : Array Bool} {o : Oper}
def GoP (P : Program) (K : Ctx) (Q : Exit → Act → World → Prop) (all : Array Oper) (L : List Nat) (m left : Nat) (listed : Array Bool) (s : List EI) (n : Nat) (F : Fm) (H : Hp) (i : Nat) (o : Oper) (ps : List (Nat × Operand)) (vs : List (Nat × V)) (v : V) : Prop :=
  ∀ S w ρ a, HRel S w ρ H.get → Inv K S w ρ H.get → Region.noSelect all = true →
    (FRel S w ρ a n F → (∃ ys, partsF (fA a) ps = some ys ∧ PRel S w ρ vs ys) → wpB P all (NoPanic (stkE P Q s)) (Agree S w) (Ls ρ L w) m (left + 1) listed a w) ∧
    (FRel S w ρ a n (F.seto o.dst (some v)) → wpB P all (NoPanic (stkE P Q s)) (Agree S w) (Ls ρ L w) m left (listed.setIfInBounds i true) a w)
theorem gop_start {ps : List (Nat × Operand)} {vs : List (Nat × V)} {v : V} (hv : partsA F ps = some vs) (k : GoP P K Q all L m left listed s n (F.seto o.dst none) H i o ps vs v) : Go P K Q (.drw all L m (left + 1) listed) s n F H := fun S w ρ a hr hi hF hs => by
  obtain ⟨ys, h1, h2⟩ := partsA_ok hF hv
  refine (k S w ρ a hr hi hs).1 ?_ ⟨ys, h1, h2⟩
  refine ⟨hF.size, hF.defers, ?_, fun j u hu => ?_⟩
  · cases hd : o.dst with
    | none => exact hF.len
    | some d => have := hF.len; simpa [Fm.seto] using this
  · cases hd : o.dst with
    | none => rw [hd] at hu; exact hF.get j u hu
    | some d =>
      rw [hd, Fm.get_eq] at hu
      simp only [Fm.seto, List.getElem?_set] at hu
      split at hu
      · split at hu <;> simp at hu
      · exact hF.get j u (by rw [Fm.get_eq]; exact hu)
theorem up_newS {w' : World} {b : Nat} (hc : Chg [] w w') : Up S (fun c => S c ∨ c = b) w w' ρ ρ := ⟨fun _ h => .inl h, fun c _ hlt => hc.block c hlt (by simp), fun _ _ h => h⟩
theorem hrel_newS {h : Nat → Ob} {w' : World} {b : Nat} (hr : HRel S w ρ h) (hc : Chg [] w w') (hb : b = w.heap.size) (hb' : b < w'.heap.size) : HRel (fun c => S c ∨ c = b) w' ρ h := by
  refine ⟨fun i => (hr.ob i).up (up_newS hc) (fun hf => ?_) (fun c hcc => hc.block c (own_lt (hr.ob i) hcc) (by simp)), fun i c hcc => ?_, hr.dis, fun c hcc => ?_⟩
  · have := hr.ob i; rw [hf] at this; exact this
  · rintro (h1 | h1)
    · exact hr.sep i c hcc h1
    · have := own_lt (hr.ob i) hcc; omega
  · rcases hcc with h1 | h1
    · exact Nat.lt_of_lt_of_le (hr.slt c h1) hc.size
    · omega
theorem inv_newS {h : Nat → Ob} {w' : World} {b : Nat} (hi : Inv K S w ρ h) (hc : Chg [] w w') (hb : b = w.heap.size) : Inv K (fun c => S c ∨ c = b) w' ρ h := by
  have h0 := hi.chg0 hc
  refine ⟨h0.chg, fun c hcc => .inl (hi.s0 c hcc), fun c hcc => ?_, hi.ow, hi.pin⟩
  rcases hcc with h1 | h1
  · exact hi.s1 c h1
  · have := hi.chg.size; exact .inr (.inr (by omega))
theorem bslice_froz {h : Nat → Ob} {t e : TypeId} {ps : List (Nat × Operand)} {vs : List (Nat × V)} {ys : List (Nat × Value)} {d : TD} {k : Nat} {ty : TypeId} {els : List V} (hT : TabOk P T) (hr : HRel S w ρ h) (hi : Inv K S w ρ h) (fr : Fr a n (fA a)) (hps : partsF (fA a) ps = some ys) (hpr : PRel S w ρ vs ys)
    {x1 x2 : Nat} {x3 : V} (ht : T.ty t = some ⟨x1, x2, x3, .sl e⟩) (he : T.ty e = some d) (hp : rowParts d.size 0 vs = some els) (hb : (Nat.beq els.length k && Nat.ble (k * d.size) 16777216 && Nat.ble k 16777216 && pureL els) = true) :
    ∃ x S' w', Runs P a ty (.buildSlice t k ps.toArray) w (.value x) w' ∧ HRel S' w' ρ h ∧ Inv K S' w' ρ h ∧ Up S S' w w' ρ ρ ∧ Chg [] w w' ∧ VRel S' w' ρ (.row d.size els) x := by
  simp only [Bool.and_eq_true, Nat.beq_eq] at hb
  obtain ⟨⟨⟨hl, hsm⟩, hm⟩, hpu⟩ := hb
  have hmm : k ≤ 16777216 := Nat.le_of_ble_eq_true hm
  obtain ⟨z, hz1, hz2⟩ := (hT.ty _ _ he).zeroT
  obtain ⟨h1, h2, h3⟩ := rowParts_ok hpr hp
  have hidx : ps.map (·.1) = List.range k := by
    have : ps.map (·.1) = ys.map (·.1) := by rw [← fr.parts hps]; simp
    rw [this, h1, hl, List.range_eq_range']
  obtain ⟨w', b, g1, g2, g3, g4, g5⟩ := ef_bslice (P := P) (t := t) (m := k) fr hps ((hT.ty _ _ ht).sl rfl) (hT.ty _ _ he).size hz1 hidx h2 hsm rfl w ty
  have hlen := h3.length
  refine ⟨_, fun c => S c ∨ c = b, w', g1, hrel_newS hr g3 g4 g5, inv_newS hi g3 g4, up_newS g3, g3, ?_⟩
  simp only [VRel]
  refine ⟨some ⟨b, 0, none⟩, k, _, by rw [hl], by omega, by simp only [maxLen]; omega, (h3.up (up_newS g3)).pure hpu, hlen, fun _ => ⟨b, 0, rfl, .inr rfl, g5, fun j hj => by rw [Nat.zero_add, g2.cell]⟩⟩
def pendB (T : Tab) (all : Array Oper) (i : Nat) (vs : List (Nat × V)) : Option (Oper × List (Nat × Operand) × V) := match all[i]? with
  | some ⟨dst, .buildSlice t k ⟨ps⟩, ty, pp, af, none⟩ => match T.ty t with
    | some ⟨_, _, _, .sl e⟩ => match T.ty e with
      | some d => match rowParts d.size 0 vs with
        | some els => match Nat.beq els.length k && Nat.ble (k * d.size) 16777216 && Nat.ble k 16777216 && pureL els with
          | true => natK d.size fun sz => some (⟨dst, .buildSlice t k ⟨ps⟩, ty, pp, af, none⟩, ps, .row sz els)
          | false => none
        | none => none
      | none => none
    | _ => none
  | _ => none
variable {ps : List (Nat × Operand)} {vs : List (Nat × V)} {v : V}
theorem pend_exec (hT : TabOk P T) (hp : pendB T all i vs = some (o, ps, v)) (hr : HRel S w ρ H.get) (hiv : Inv K S w ρ H.get) (hF : FRel S w ρ a n F) {ys : List (Nat × Value)} (hps : partsF (fA a) ps = some ys) (hpr : PRel S w ρ vs ys) (hs : Region.noSelect all = true)
    (hl : (liveL H.get L || (listed.setIfInBounds i true).getD m false) = true)
    (D : ∀ S w ρ a, HRel S w ρ H.get → Inv K S w ρ H.get → FRel S w ρ a n (F.seto o.dst (some v)) → wpB P all (NoPanic (stkE P Q s)) (Agree S w) (Ls ρ L w) m left (listed.setIfInBounds i true) a w) :
    wpOp P all (NoPanic (stkE P Q s)) i (fun a' w' => Agree S w w' ∧ (Ls ρ L w w' ∨ (listed.setIfInBounds i true).getD m false = true) ∧ wpB P all (NoPanic (stkE P Q s)) (Agree S w) (Ls ρ L w) m left (listed.setIfInBounds i true) a' w') a w := by
  unfold pendB at hp
  split at hp
  · rename_i dst t k ps' ty pp af hi
    split at hp
    · rename_i e ht
      split at hp
      · rename_i d he
        split at hp
        · rename_i els hrp
          split at hp
          · rename_i hb
            rw [natK_eq] at hp
            simp only [Option.some.injEq, Prod.mk.injEq] at hp
            obtain ⟨rfl, rfl, rfl⟩ := hp
            obtain ⟨x, S', w', g1, g2, g3, g4, g5, g6⟩ := bslice_froz (ty := ty) hT hr hiv hF.fr hps hpr ht he hrp hb
            unfold wpOp
            simp only [hi]
            rw [if_pos (wantA_ok hF (o := ⟨dst, .buildSlice t k ⟨ps'⟩, ty, pp, af, none⟩) rfl)]
            refine .inl ?_
            have hk := D S' w' ρ _ g2 g3 (frel_val (hF.up g4) dst g6)
            unfold Oper.wp
            rw [g1 dst pp af none]
            refine wpB_on g4 (fun b hb => g5.block b (hr.slt b hb) (by simp)) ((or_of hl).imp (fun hl id hid x b hx hb => ?_) id) hk
            exact g5.block b (own_lt (hr.ob id) (liveL_own hr hl id hid x b hx hb)) (by simp)
          · cases hp
        · cases hp
      · cases hp
    · cases hp
  · cases hp
theorem gop_end (hT : TabOk P T) (hp : pendB T all i vs = some (o, ps, v)) (hrd : Region.ready .any all listed = [i]) (hl : (liveL H.get L || (listed.setIfInBounds i true).getD m false) = true)
    (kk : Go P K Q (.drw all L m left (listed.setIfInBounds i true)) s n (F.seto o.dst (some v)) H) : GoP P K Q all L m left listed s n F H i o ps vs v := fun S w ρ a hr hiv hs => by
  refine ⟨fun hF ⟨ys, hps, hpr⟩ => wpB_one (S := S) hrd (pend_exec hT hp hr hiv hF hps hpr hs hl fun S w ρ a hr hiv hF => kk S w ρ a hr hiv hF hs), fun hF => kk S w ρ a hr hiv hF hs⟩
theorem wpB_two {j : Nat} {B Sx : World → Prop} {Q' : Exit → Act → World → Prop} (hrd : (match Region.ready .any all listed with | [x, y] => (Nat.beq x i && Nat.beq y j) || (Nat.beq x j && Nat.beq y i) | _ => false) = true)
    (h1 : wpOp P all Q' i (fun a' w' => B w' ∧ (Sx w' ∨ (listed.setIfInBounds i true).getD m false = true) ∧ wpB P all Q' B Sx m left (listed.setIfInBounds i true) a' w') a w)
    (h2 : wpOp P all Q' j (fun a' w' => B w' ∧ (Sx w' ∨ (listed.setIfInBounds j true).getD m false = true) ∧ wpB P all Q' B Sx m left (listed.setIfInBounds j true) a' w') a w) : wpB P all Q' B Sx m (left + 1) listed a w := by
  split at hrd
  · rename_i x y hr
    refine ⟨fun h0 => (by rw [hr] at h0; cases h0), fun c hc => ?_⟩
    rw [hr] at hc
    simp only [Bool.or_eq_true, Bool.and_eq_true, Nat.beq_eq] at hrd
    simp only [List.mem_cons, List.not_mem_nil, or_false] at hc
    rcases hrd with ⟨rfl, rfl⟩ | ⟨rfl, rfl⟩
    · rcases hc with rfl | rfl
      · exact h1
      · exact h2
    · rcases hc with rfl | rfl
      · exact h2
      · exact h1
  · cases hrd
theorem gop_step (hT : TabOk P T) (hp : pendB T all i vs = some (o, ps, v)) {j : Nat} {oj : Oper} (hj : all[j]? = some oj) (hrd : (match Region.ready .any all listed with | [x, y] => (Nat.beq x i && Nat.beq y j) || (Nat.beq x j && Nat.beq y i) | _ => false) = true) (hrd1 : Region.ready .any all (listed.setIfInBounds i true) = [j])
    (hl : (liveL H.get L || (listed.setIfInBounds i true).getD m false) = true) (hd : ∀ t, o.dst = some t → F.get t = none) (hne : dstNe o.dst oj.dst = true) (hpn : partsNe oj.dst ps = true) (hcomm : (listed.setIfInBounds i true).setIfInBounds j true = (listed.setIfInBounds j true).setIfInBounds i true)
    {Post : V → Hp → Prop}
    (hx : ∀ S w ρ a, HRel S w ρ H.get → Inv K S w ρ H.get → FRel S w ρ a n F → ∀ (K2 : Act → World → Prop), (∀ x S' w' ρ' u H', Post u H' → HRel S' w' ρ' H'.get → Inv K S' w' ρ' H'.get → Up S S' w w' ρ ρ' → Agree S w w' → (Ls ρ L w w' ∨ ((listed.setIfInBounds j true).getD m false = true ∧ ((listed.setIfInBounds j true).setIfInBounds i true).getD m false = true)) → VRel S' w' ρ' u x → K2 (a.put oj.dst x) w') → wpOp P all (NoPanic (stkE P Q s)) j K2 a w)
    (kk : ∀ u H', Post u H' → GoP P K Q all L m left (listed.setIfInBounds j true) s n (F.seto oj.dst (some u)) H' i o ps vs v) : GoP P K Q all L m (left + 1) listed s n F H i o ps vs v := fun S w ρ a hr hiv hs => by
  have D : ∀ S w ρ a, HRel S w ρ H.get → Inv K S w ρ H.get → FRel S w ρ a n (F.seto o.dst (some v)) → wpB P all (NoPanic (stkE P Q s)) (Agree S w) (Ls ρ L w) m (left + 1) (listed.setIfInBounds i true) a w := fun S w ρ a hr hiv hF => by
    refine wpB_one (S := S) hrd1 ?_
    refine hx S w ρ a hr hiv (frel_less hd hF) _ fun x S' w' ρ' u H' hP hr' hi' hu hA hL hv => ?_
    rw [hcomm]
    refine wpB_on hu hA (hL.imp id (·.2)) ((kk u H' hP S' w' ρ' _ hr' hi' hs).2 ?_)
    rw [← seto_comm hne]
    exact frel_val (hF.up hu) oj.dst hv
  refine ⟨fun hF ⟨ys, hps, hpr⟩ => ?_, D S w ρ a hr hiv⟩
  refine wpB_two hrd (pend_exec hT hp hr hiv hF hps hpr hs hl D) ?_
  refine hx S w ρ a hr hiv hF _ fun x S' w' ρ' u H' hP hr' hi' hu hA hL hv => ?_
  refine wpB_on hu hA (hL.imp id (·.1)) ((kk u H' hP S' w' ρ' _ hr' hi' hs).1 (frel_val (hF.up hu) oj.dst hv) ⟨ys, ?_, hpr.up hu⟩)
  rw [parts_put hpn]; exact hps
end
end Go.Proofs.Ythpjpngfghcmcaa
namespace Go.Proofs.Ythpjpngfghcmcaa
open Go.RowKit
inductive Rs where
  | ok (e : Bool) (F : Fm) (H : Hp)
  | pt (p : EP) (s : List EI) (F : Fm) (H : Hp)
  | er (n m : Nat)
def ids1 : V → List Nat → List Nat
  | .ptr id _, acc => id :: acc
  | .el id _ _ _, acc => id :: acc
  | .sl id, acc => id :: acc
  | _, acc => acc
def idsL : List V → List Nat → List Nat
  | [], acc => acc
  | v :: r, acc => idsL r (ids1 v acc)
def idsV : V → List Nat → List Nat
  | .agg cs, acc => idsL cs acc
  | v, acc => ids1 v acc
def idsVs : List V → List Nat → List Nat
  | [], acc => acc
  | .tup vs :: r, acc => idsVs r (vs.foldl (fun acc v => idsV v acc) acc)
  | v :: r, acc => idsVs r (idsV v acc)
def memN (i : Nat) : List Nat → Bool
  | [] => false
  | j :: r => match Nat.beq i j with
    | true => true
    | false => memN i r
def reachN (H : Hp) : Nat → List Nat → List Nat → List Nat
  | 0, _, acc => acc
  | _ + 1, [], acc => acc
  | n + 1, id :: r, acc => match memN id acc with
    | true => reachN H n r acc
    | false => match H.get id with
      | .var _ cs => reachN H n (idsL cs r) (id :: acc)
      | _ => reachN H n r (id :: acc)
def keepE {α : Type} (R : List Nat) : List (Nat × Ob) → (List (Nat × Ob) → α) → α
  | [], c => c []
  | (i, o) :: r, c => match memN i R with
    | true => keepE R r fun r' => c ((i, o) :: r')
    | false => keepE R r c
def dropE {α : Type} (nx : Nat) (R : List Nat) : List (Nat × Ob) → (List (Nat × Ob) → α) → α
  | [], c => c []
  | (i, o) :: r, c => match !memN i R && Nat.blt i nx with
    | true => match o with
      | .free => dropE nx R r fun r' => c ((i, .gone) :: r')
      | o => dropE nx R r fun r' => c ((i, o) :: r')
    | false => dropE nx R r c
def frz1 {α : Type} (lo : Nat) (H : Hp) (v : V) (c : V → Hp → α) : α := match v with
  | .sl id => match Nat.ble lo id with
    | true => match H.get id with
      | .row _ sz els => match pureL els with
        | true => delE id H.es fun es => c (.row sz els) ⟨H.nx, es⟩
        | false => c v H
      | _ => c v H
    | false => c v H
  | _ => c v H
def frzL {α : Type} (lo : Nat) (H : Hp) : List V → (List V → Hp → α) → α
  | [], c => c [] H
  | v :: r, c => frz1 lo H v fun v' H' => frzL lo H' r fun r' H'' => c (v' :: r') H''
def frz2 {α : Type} (lo : Nat) (H : Hp) (v : V) (c : V → Hp → α) : α := match v with
  | .agg cs => frzL lo H cs fun cs H' => c (.agg cs) H'
  | v => frz1 lo H v c
def frzM {α : Type} (lo : Nat) (H : Hp) : List V → (List V → Hp → α) → α
  | [], c => c [] H
  | v :: r, c => frz2 lo H v fun v' H' => frzM lo H' r fun r' H'' => c (v' :: r') H''
def hasRow (H : Hp) : List Nat → Bool
  | [] => false
  | i :: r => match H.get i with
    | .row _ _ _ => true
    | _ => hasRow H r
def isStore (o : Oper) : Bool := match o.op with
  | .store .. => true
  | _ => false
def isPure (o : Oper) : Bool := match o.op with
  | .alloc .. => false
  | .box .. => false
  | .store .. => false
  | .buildSlice .. => false
  | .makeSlice .. => false
  | .call ⟨.builtin .len, _, _⟩ => true
  | .call ⟨.builtin .max, _, _⟩ => true
  | .call .. => false
  | _ => true
def brkFrom : Nat → List Oper → Nat
  | i, [] => i
  | i, o :: r => match isStore o with
    | true => i
    | false => brkFrom (i + 1) r
def dryA (T : Tab) (H : Hp) (all : Array Oper) : List Oper → Fm → List Nat → List Nat → List Nat
  | [], _, rd, cl => rd.filter fun i => !memN i cl
  | o :: r, F, rd, cl => match wantA F all o.guard with
    | some false => F.puto o.dst (some (.tup [])) fun F' => dryA T H all r F' rd cl
    | _ => match pureA T H.get F o.op with
      | some v => F.puto o.dst (some v) fun F' => dryA T H all r F' rd cl
      | none => match loadId F o.op with
        | some id => match effA T H.get F H.nx o.op with
          | some (v, _) => F.puto o.dst v fun F' => dryA T H all r F' (match memN id rd with | true => rd | false => id :: rd) cl
          | none => F.puto o.dst none fun F' => dryA T H all r F' rd cl
        | none => match o.op with
          | .call ⟨.value (.func _), ⟨args⟩, _⟩ => match valsA F args with
            | some vs => F.puto o.dst none fun F' => dryA T H all r F' rd (reachN H 40 (idsVs vs []) cl)
            | none => F.puto o.dst none fun F' => dryA T H all r F' rd cl
          | _ => F.puto o.dst none fun F' => dryA T H all r F' rd cl
def softOf (F : Fm) (all : Array Oper) (L : List Nat) (m : Nat) (listed : Array Bool) : List Nat → Option Nat
  | [] => none
  | i :: r => match all[i]? with
    | some o => match Nat.beq i m with
      | true => softOf F all L m listed r
      | false => match isPure o with
        | true => match Region.free .any all listed i with
          | true => some i
          | false => softOf F all L m listed r
        | false => softOf F all L m listed r
    | none => none
section
variable (T : Tab) (ih : EP → List EI → Fm → Hp → Rs)
def callX (keep : Bool) (vs : List V) (fn : Func) (b : Code) (H : Hp) (L : List Nat) (ok : Bool) (c : V → Hp → Rs) : Rs :=
  match reachN H 40 (idsVs vs []) [] with
  | R => match (liveL H.get L && L.all fun i => !memN i R) || ok with
    | true => keepE R H.es fun es1 => match ih (.code b) [] (fr0A fn.ntmps vs) ⟨H.nx, es1⟩ with
      | .ok _ F1 H1 => match resA T H1.get F1 fn.results.toList with
        | some rs => match Nat.ble H.nx H1.nx with
          | true => match keep || hasRow H R with
            | true => dropE H.nx R H.es fun es2 => c (retA rs) ⟨H1.nx, H1.es ++ es2⟩
            | false => frzM H.nx H1 rs fun rs H2 => match reachN H2 60 (idsVs rs R) [] with
              | R2 => keepE R2 H2.es fun es3 => dropE H.nx R H.es fun es2 => c (retA rs) ⟨H2.nx, es3 ++ es2⟩
          | false => .er 1 0
        | none => .er 2 0
      | .er n m => .er n m
      | .pt .. => .er 3 0
    | false => .er 4 0
def exec1 (F : Fm) (H : Hp) (L : List Nat) (ok : Bool) (o : Oper) (c : Option V → Hp → Rs) : Rs :=
  match pureA T H.get F o.op with
  | some v => c (some v) H
  | none => match natK H.nx fun nid => effA T H.get F nid o.op with
    | some (v, ed) => match (liveL H.get L && ed.clear L) || ok with
      | true => H.ap ed fun H' => match v with
        | some v => c (some v) H'
        | none => c (some (.tup [])) H'
      | false => .er 5 0
    | none => match o.op with
      | .call ⟨.value (.func fid), ⟨args⟩, _⟩ => match valsA F args with
        | some vs => match T.nat fid vs with
          | some v => c (some v) H
          | none => match T.fn fid with
            | some fn => match fn.body with
              | some b => match Nat.ble vs.length fn.ntmps with
                | true => callX T ih (T.keep fid) vs fn b H L ok fun v H' => c (some v) H'
                | false => .er 6 fid
              | none => .er 7 fid
            | none => .er 8 fid
        | none => .er 9 fid
      | _ => .er (10000 + o.type) (match o.dst with | some d => d | none => 999)
def isRow1 (l : List Nat) (j : Nat) : Bool := match l with
  | [x] => Nat.beq x j
  | _ => false
def pickJ (x y i : Nat) : Nat := match Nat.beq x i with
  | true => y
  | false => match Nat.beq y i with
    | true => x
    | false => i
def pendX (all : Array Oper) (L : List Nat) (m i : Nat) (o : Oper) (ps : List (Nat × Operand)) (v : V) (s : List EI) : Nat → Array Bool → Fm → Hp → Rs
  | left, listed, F, H => match liveL H.get L || (listed.setIfInBounds i true).getD m false with
    | true => match Region.ready .any all listed with
      | [x] => match Nat.beq x i with
        | true => F.puto o.dst (some v) fun F' => ih (.drw all L m left (listed.setIfInBounds i true)) s F' H
        | false => .er 41 i
      | [x, y] => match left with
        | 0 => .er 42 i
        | left + 1 => natK (pickJ x y i) fun j => match Nat.beq j i with
          | true => .er 43 i
          | false => match all[j]? with
            | some oj => match isRow1 (Region.ready .any all (listed.setIfInBounds i true)) j && dstNe o.dst oj.dst && partsNe oj.dst ps && (match o.dst with | some t => (F.get t).isNone | none => true) with
              | true => match wantA F all oj.guard with
                | some true => exec1 T ih F H L ((listed.setIfInBounds j true).getD m false && ((listed.setIfInBounds j true).setIfInBounds i true).getD m false) oj fun u H' => F.puto oj.dst u fun F' => pendX all L m i o ps v s left (listed.setIfInBounds j true) F' H'
                | _ => .er 44 i
              | false => .er 45 i
            | none => .er 46 i
      | _ => .er 47 i
    | false => .er 48 i
def pendOf (T : Tab) (F : Fm) (all : Array Oper) : List Nat → Option (Nat × Oper × List (Nat × Operand) × V)
  | [] => none
  | i :: r => match all[i]? with
    | some ⟨_, .buildSlice _ _ ⟨ps⟩, _, _, _, none⟩ => match partsA F ps with
      | some vs => match pendB T all i vs with
        | some (o, ps', v) => some (i, o, ps', v)
        | none => pendOf T F all r
      | none => pendOf T F all r
    | _ => pendOf T F all r
def stepC (c : Code) (s : List EI) (F : Fm) (H : Hp) : Rs := match c with
  | .seq x y => ih (.code x) (.seq y :: s) F H
  | .block id c => ih (.code c) (.blk id :: s) F H
  | .skip => ih (.ex .normal) s F H
  | .ret => ih (.ex .ret) s F H
  | .exit id => ih (.ex (.exit id)) s F H
  | .scope c => ih (.code c) (.scp :: s) F H
  | .label _ => ih (.ex .normal) s F H
  | .loop c => ih (.code c) (.loop c 1000000 :: s) F H
  | .cond c x y => match valA F c with
    | some (.bool true) => ih (.code x) s F H
    | some (.bool false) => ih (.code y) s F H
    | _ => .er 11 0
  | .region _ ⟨l⟩ false => ih (.ops ⟨l⟩ l) s F H
  | .region _ ⟨l⟩ true => match Region.noSelect ⟨l⟩ with
    | true => listK (dryA T H ⟨l⟩ l F [] []) fun L => natK (brkFrom 0 l) fun m => natK l.length fun n => ih (.drw ⟨l⟩ L m n (Array.replicate n false)) s F H
    | false => .er 13 0
  | _ => .er 14 0
def stepOp (all : Array Oper) (rest : List Oper) (s : List EI) (F : Fm) (H : Hp) : Rs := match rest with
  | [] => ih (.ex .normal) s F H
  | o :: r => match wantA F all o.guard with
    | some false => F.puto o.dst (some (.tup [])) fun F' => ih (.ops all r) s F' H
    | some true => exec1 T ih F H [] true o fun v H' => F.puto o.dst v fun F' => ih (.ops all r) s F' H'
    | none => .er 15 0
def stepX (e : Exit) (s : List EI) (F : Fm) (H : Hp) : Rs := match s with
  | [] => match e with
    | .normal => .ok false F H
    | .ret => .ok true F H
    | _ => .er 16 0
  | .seq c :: s => match e with
    | .normal => ih (.code c) s F H
    | .exit i => ih (.ex (.exit i)) s F H
    | .ret => ih (.ex .ret) s F H
    | _ => .er 17 0
  | .loop c j :: s => match e with
    | .normal => match j with
      | 0 => .er 18 0
      | j + 1 => ih (.code c) (.loop c j :: s) F H
    | .exit i => ih (.ex (.exit i)) s F H
    | .ret => ih (.ex .ret) s F H
    | _ => .er 19 0
  | .scp :: s => match e with
    | .normal => ih (.ex .normal) s F H
    | .exit i => ih (.ex (.exit i)) s F H
    | .ret => ih (.ex .ret) s F H
    | _ => .er 20 0
  | .blk id :: s => match e with
    | .normal => ih (.ex .normal) s F H
    | .exit i => match Nat.beq i id with
      | true => ih (.ex .normal) s F H
      | false => ih (.ex (.exit i)) s F H
    | .ret => ih (.ex .ret) s F H
    | _ => .er 21 0
def stepD (all : Array Oper) (L : List Nat) (m left : Nat) (listed : Array Bool) (s : List EI) (F : Fm) (H : Hp) : Rs := match Region.ready .any all listed with
  | [] => ih (.ex .normal) s F H
  | i :: R => match left with
    | 0 => .er 22 0
    | left + 1 => match R with
      | [] => match all[i]? with
        | some o => match wantA F all o.guard with
          | some false => F.puto o.dst (some (.tup [])) fun F' => ih (.drw all L m left (listed.setIfInBounds i true)) s F' H
          | some true => exec1 T ih F H L ((listed.setIfInBounds i true).getD m false) o fun v H' => F.puto o.dst v fun F' => ih (.drw all L m left (listed.setIfInBounds i true)) s F' H'
          | none => .er (6000 + all.size) i
        | none => .er 24 0
      | _ => match softOf F all L m listed (i :: R) with
        | some i => match all[i]? with
          | some o => match (Region.ready .any all listed).contains i && Region.free .any all listed i && !Nat.beq i m with
            | true => match wantA F all o.guard with
              | some false => F.puto o.dst (some (.tup [])) fun F' => ih (.drw all L m left (listed.setIfInBounds i true)) s F' H
              | some true => match pureA T H.get F o.op with
                | some v => F.puto o.dst (some v) fun F' => ih (.drw all L m left (listed.setIfInBounds i true)) s F' H
                | none => match loadId F o.op with
                  | some id => match L.contains id && waitB .any all m i && !listed.getD m false with
                    | true => match effA T H.get F H.nx o.op with
                      | some (some v, _) => F.puto o.dst (some v) fun F' => ih (.drw all L m left (listed.setIfInBounds i true)) s F' H
                      | _ => .er (4000 + all.size) i
                    | false => .er (2000 + all.size) i
                  | none => .er (3000 + all.size) i
              | none => .er (5000 + all.size) i
            | false => .er 29 i
          | none => .er 30 i
        | none => match pendOf T F all (i :: R) with
          | some (i, o, ps, v) => F.puto o.dst none fun F' => pendX T ih all L m i o ps v s left listed F' H
          | none => .er (1000 + all.size) i
def step (p : EP) (s : List EI) (F : Fm) (H : Hp) : Rs := match p with
  | .code c => stepC T ih c s F H
  | .ops all rest => stepOp T ih all rest s F H
  | .ex e => stepX ih e s F H
  | .drw all L m left listed => stepD T ih all L m left listed s F H
end
def run (T : Tab) : Nat → EP → List EI → Fm → Hp → Rs
  | 0, p, s, F, H => .pt p s F H
  | k + 1, p, s, F, H => step T (run T k) p s F H
end Go.Proofs.Ythpjpngfghcmcaa
namespace Go.Proofs.Ythpjpngfghcmcaa
open Go.RowKit
def keepE' (R : List Nat) (l : List (Nat × Ob)) : List (Nat × Ob) := l.filter fun p => memN p.1 R
def ung : Ob → Ob
  | .free => .gone
  | o => o
def dropE' (nx : Nat) (R : List Nat) (l : List (Nat × Ob)) : List (Nat × Ob) := (l.filter fun p => !memN p.1 R && Nat.blt p.1 nx).map fun p => (p.1, ung p.2)
theorem keepE_eq {α : Type} {R : List Nat} : ∀ (l : List (Nat × Ob)) (c : List (Nat × Ob) → α), keepE R l c = c (keepE' R l)
  | [], c => rfl
  | (i, o) :: r, c => by
    simp only [keepE]
    cases h : memN i R
    · simp only; rw [keepE_eq r]; simp [keepE', h]
    · simp only; rw [keepE_eq r]; simp [keepE', h]
theorem dropE_eq {α : Type} {nx : Nat} {R : List Nat} : ∀ (l : List (Nat × Ob)) (c : List (Nat × Ob) → α), dropE nx R l c = c (dropE' nx R l)
  | [], c => rfl
  | (i, o) :: r, c => by
    simp only [dropE]
    cases h : (!memN i R && Nat.blt i nx)
    · simp only; rw [dropE_eq r]; simp only [dropE', List.filter_cons, h]; rfl
    · cases o <;> (simp only; rw [dropE_eq r]; simp only [dropE', List.filter_cons, h]; rfl)
theorem look_keep {R : List Nat} {i : Nat} : ∀ {l : List (Nat × Ob)}, lookE (keepE' R l) i = lookE l i ∨ (memN i R = false ∧ lookE (keepE' R l) i = .gone)
  | [] => .inl rfl
  | (j, o) :: r => by
    by_cases hj : j = i
    · subst hj
      cases h : memN j R
      · right
        refine ⟨rfl, ?_⟩
        have ih := look_keep (R := R) (i := j) (l := r)
        simp only [keepE', List.filter_cons, h] at ih ⊢
        simp only [Bool.false_eq_true, if_false]
        clear ih
        have key : ∀ (l : List (Nat × Ob)), lookE (l.filter fun p => memN p.1 R) j = .gone := by
          intro l
          induction l with
          | nil => rfl
          | cons q t ih =>
            obtain ⟨k, o'⟩ := q
            simp only [List.filter_cons]
            split
            · rename_i hk
              have : k ≠ j := fun e => by subst e; simp [h] at hk
              simp only [lookE, nbF this]; exact ih
            · exact ih
        exact key r
      · left
        simp only [keepE', List.filter_cons, h, if_true, lookE, nbT]
    · have ih := look_keep (R := R) (i := i) (l := r)
      simp only [keepE', List.filter_cons]
      split
      · simp only [lookE, nbF hj]; exact ih
      · simp only [lookE, nbF hj]; exact ih
theorem look_keep_out {R : List Nat} {i : Nat} (h : memN i R = false) (l : List (Nat × Ob)) : lookE (keepE' R l) i = .gone := by
  induction l with
  | nil => rfl
  | cons q t ih =>
    obtain ⟨k, o'⟩ := q
    simp only [keepE', List.filter_cons]
    split
    · rename_i hk
      have : k ≠ i := fun e => by subst e; simp [h] at hk
      simp only [lookE, nbF this]; exact ih
    · exact ih
theorem look_drop {nx : Nat} {R : List Nat} {i : Nat} (l : List (Nat × Ob)) : lookE (dropE' nx R l) i = if (!memN i R && Nat.blt i nx) = true then ung (lookE l i) else .gone := by
  induction l with
  | nil => simp [dropE', lookE, ung]
  | cons q t ih =>
    obtain ⟨k, o⟩ := q
    by_cases hk : k = i
    · subst hk
      cases h : (!memN k R && Nat.blt k nx)
      · rw [h] at ih
        simp only [dropE', List.filter_cons, h, Bool.false_eq_true, if_false] at ih ⊢
        exact ih
      · simp only [dropE', List.filter_cons, h, if_true, List.map_cons, lookE, nbT]
    · have e : lookE ((k, o) :: t) i = lookE t i := by simp only [lookE, nbF hk]
      rw [e, ← ih]
      simp only [dropE', List.filter_cons]
      split
      · simp only [List.map_cons, lookE, nbF hk]
      · rfl
section
variable {P : Program} {T : Tab} {K : Ctx} {Q : Exit → Act → World → Prop} {s : List EI} {n : Nat} {F : Fm} {H : Hp}
theorem frz1_ok (lo : Nat) (H : Hp) (v : V) : ∃ v' H', (∀ (α : Type) (c : V → Hp → α), frz1 lo H v c = c v' H') ∧ H'.nx = H.nx ∧ (∀ K S w ρ x, HRel S w ρ H.get → Inv K S w ρ H.get → VRel S w ρ v x → ∃ S', HRel S' w ρ H'.get ∧ Inv K S' w ρ H'.get ∧ Up S S' w w ρ ρ ∧ VRel S' w ρ v' x) := by
  have triv : ∃ v' H', (∀ (α : Type) (c : V → Hp → α), c v H = c v' H') ∧ H'.nx = H.nx ∧ (∀ K S w ρ x, HRel S w ρ H.get → Inv K S w ρ H.get → VRel S w ρ v x → ∃ S', HRel S' w ρ H'.get ∧ Inv K S' w ρ H'.get ∧ Up S S' w w ρ ρ ∧ VRel S' w ρ v' x) := ⟨v, H, fun _ _ => rfl, rfl, fun K S w ρ x h1 h2 h3 => ⟨S, h1, h2, Up.refl, h3⟩⟩
  cases v with
  | sl id =>
    simp only [frz1]
    split
    · split
      · rename_i e sz els ho
        split
        · rename_i hpu
          refine ⟨.row sz els, ⟨H.nx, delE' id H.es⟩, fun α c => by rw [delE_eq], rfl, fun K S w ρ x hr hi hx => ?_⟩
          have hg : (⟨H.nx, delE' id H.es⟩ : Hp).get = updH H.get id .gone := by
            funext i
            unfold Hp.get
            by_cases hii : i = id
            · subst hii
              rw [updH_same]
              simp only []
              have hlt : Nat.blt i H.nx = true := by
                unfold Hp.get at ho
                split at ho
                · assumption
                · cases ho
              rw [hlt]
              simp only [look_del, if_true]
            · rw [updH_ne _ _ hii]
              simp only [look_del, if_neg hii]
          refine ⟨_, by rw [hg]; exact (freeze_up hr).1, by rw [hg]; exact hi.frz hr id, (freeze_up hr).2, freeze_row hr ho hpu hx⟩
        · exact triv
      · exact triv
    · exact triv
  | _ => exact triv
theorem frzL_ok (lo : Nat) : ∀ (vs : List V) (H : Hp), ∃ vs' H', (∀ (α : Type) (c : List V → Hp → α), frzL lo H vs c = c vs' H') ∧ H'.nx = H.nx ∧ (∀ K S w ρ xs, HRel S w ρ H.get → Inv K S w ρ H.get → LRel S w ρ vs xs → ∃ S', HRel S' w ρ H'.get ∧ Inv K S' w ρ H'.get ∧ Up S S' w w ρ ρ ∧ LRel S' w ρ vs' xs)
  | [], H => ⟨[], H, fun _ _ => rfl, rfl, fun K S w ρ x h1 h2 h3 => ⟨S, h1, h2, Up.refl, h3⟩⟩
  | v :: r, H => by
    obtain ⟨v', H1, e1, n1, k1⟩ := frz1_ok lo H v
    obtain ⟨r', H2, e2, n2, k2⟩ := frzL_ok lo r H1
    refine ⟨v' :: r', H2, fun α c => by simp only [frzL, e1, e2], n2.trans n1, fun K S w ρ xs hr hi hx => ?_⟩
    simp only [LRel] at hx
    obtain ⟨x, ys, rfl, h1, h2⟩ := hx
    obtain ⟨S1, a1, a2, a3, a4⟩ := k1 K S w ρ x hr hi h1
    obtain ⟨S2, b1, b2, b3, b4⟩ := k2 K S1 w ρ ys a1 a2 (h2.up a3)
    exact ⟨S2, b1, b2, ⟨fun b hb => b3.s b (a3.s b hb), fun _ _ _ => rfl, fun _ _ h => h⟩, x, ys, rfl, a4.up b3, b4⟩
theorem frz2_ok (lo : Nat) (H : Hp) (v : V) : ∃ v' H', (∀ (α : Type) (c : V → Hp → α), frz2 lo H v c = c v' H') ∧ H'.nx = H.nx ∧ (∀ K S w ρ x, HRel S w ρ H.get → Inv K S w ρ H.get → VRel S w ρ v x → ∃ S', HRel S' w ρ H'.get ∧ Inv K S' w ρ H'.get ∧ Up S S' w w ρ ρ ∧ VRel S' w ρ v' x) := by
  have h0 := frz1_ok lo H v
  cases v
  case agg cs =>
    obtain ⟨vs', H', e, hn, k⟩ := frzL_ok lo cs H
    refine ⟨.agg vs', H', fun α c => by simp only [frz2, e], hn, fun K S w ρ x hr hi hx => ?_⟩
    simp only [VRel] at hx
    obtain ⟨xs, rfl, h1⟩ := hx
    obtain ⟨S', a1, a2, a3, a4⟩ := k K S w ρ xs hr hi h1
    exact ⟨S', a1, a2, a3, by simp only [VRel]; exact ⟨xs, rfl, a4⟩⟩
  all_goals exact h0
theorem frzM_ok (lo : Nat) : ∀ (vs : List V) (H : Hp), ∃ vs' H', (∀ (α : Type) (c : List V → Hp → α), frzM lo H vs c = c vs' H') ∧ H'.nx = H.nx ∧ (∀ K S w ρ xs, HRel S w ρ H.get → Inv K S w ρ H.get → LRel S w ρ vs xs → ∃ S', HRel S' w ρ H'.get ∧ Inv K S' w ρ H'.get ∧ Up S S' w w ρ ρ ∧ LRel S' w ρ vs' xs)
  | [], H => ⟨[], H, fun _ _ => rfl, rfl, fun K S w ρ x h1 h2 h3 => ⟨S, h1, h2, Up.refl, h3⟩⟩
  | v :: r, H => by
    obtain ⟨v', H1, e1, n1, k1⟩ := frz2_ok lo H v
    obtain ⟨r', H2, e2, n2, k2⟩ := frzM_ok lo r H1
    refine ⟨v' :: r', H2, fun α c => by simp only [frzM, e1, e2], n2.trans n1, fun K S w ρ xs hr hi hx => ?_⟩
    simp only [LRel] at hx
    obtain ⟨x, ys, rfl, h1, h2⟩ := hx
    obtain ⟨S1, a1, a2, a3, a4⟩ := k1 K S w ρ x hr hi h1
    obtain ⟨S2, b1, b2, b3, b4⟩ := k2 K S1 w ρ ys a1 a2 (h2.up a3)
    exact ⟨S2, b1, b2, ⟨fun b hb => b3.s b (a3.s b hb), fun _ _ _ => rfl, fun _ _ h => h⟩, x, ys, rfl, a4.up b3, b4⟩
def ExecR (P : Program) (K : Ctx) (o : Oper) (L : List Nat) (ok : Bool) (n : Nat) (F : Fm) (H : Hp) (u : V) (H' : Hp) : Prop :=
  ∀ S w ρ a, HRel S w ρ H.get → Inv K S w ρ H.get → FRel S w ρ a n F → ∀ (Q' : Exit → Act → World → Prop) (K2 : Act → World → Prop),
    (∀ x S' w' ρ', HRel S' w' ρ' H'.get → Inv K S' w' ρ' H'.get → Up S S' w w' ρ ρ' → Agree S w w' → (Ls ρ L w w' ∨ ok = true) → VRel S' w' ρ' u x → K2 (a.put o.dst x) w') → o.wp P a w K2 Q'
theorem exec_pure (hT : TabOk P T) {o : Oper} {L : List Nat} {ok : Bool} {v : V} (hv : pureA T H.get F o.op = some v) : ExecR P K o L ok n F H v H := fun S w ρ a hr hi hF Q' K2 k => by
  obtain ⟨x, h1, h2⟩ := pureA_ok (ty := o.type) hT hr hF hv
  have := k x S w ρ hr hi Up.refl Agree.refl (.inl ls_refl) h1
  obtain ⟨d, op, ty, ps, af, g⟩ := o
  unfold Oper.wp
  rw [h2 w Agree.refl d ps af g]
  exact this
theorem exec_eff (hT : TabOk P T) {o : Oper} {L : List Nat} {ok : Bool} {v : Option V} {ed : ED} (hv : effA T H.get F H.nx o.op = some (v, ed)) (hc : ((liveL H.get L && ed.clear L) || ok) = true) : ExecR P K o L ok n F H (v.getD (.tup [])) (H.app ed) := fun S w ρ a hr hi hF Q' K2 k => by
  obtain ⟨nx, w', ρ', h1, h2, h3⟩ := effA_ok (ty := o.type) hT hr hF H.get_free hv
  have hr' := h2.hr
  have hi' := hi.eff h2
  rw [← Hp.get_app (effA_live hv)] at hr' hi'
  have hLs : Ls ρ L w w' ∨ ok = true := (or_of hc).imp (fun h => by
    simp only [Bool.and_eq_true] at h
    exact ls_eff hr h2 h.1 h.2) id
  have kk := fun x hx => k x S w' ρ' hr' hi' h2.up (agree_of_eff hr h2) hLs hx
  obtain ⟨d, op, ty, ps, af, g⟩ := o
  unfold Oper.wp
  rw [h1 d ps af g]
  cases v with
  | none =>
    subst h3
    exact kk undef vrel_undef
  | some v =>
    obtain ⟨x, rfl, h4⟩ := h3
    exact kk x h4
theorem exec_call {o : Oper} {L : List Nat} {ok : Bool} {fid : FuncId} {args : List Operand} {tys : Array TypeId} {vs : List V} {u : V} {H' : Hp} {L' : List Nat} (he : entersB P fid = true) (ho : o.op = .call { callee := .value (.func fid), args := args.toArray, argTypes := tys }) (hv : valsA F args = some vs) (hC : CallR P K fid vs H L' (fun u' H'' => u' = u ∧ H'' = H')) (hL : L' = L ∨ ok = true) : ExecR P K o L ok n F H u H' := fun S w ρ a hr hi hF Q' K2 k => by
  obtain ⟨xs, h1, h2⟩ := valsA_ok hF hv
  have hcl := hC S w ρ xs hr hi h2
  obtain ⟨d, op, ty, ps, af, g⟩ := o
  simp only at ho
  subst ho
  have hx : (execOp a.eval ⟨d, .call { callee := .value (.func fid), args := args.toArray, argTypes := tys }, ty, ps, af, g⟩).run P w = .ok (.enter fid xs.toArray) w := by
    have e : args.toArray.map a.eval = xs.toArray := by rw [← hF.fr.vals h1]; simp
    simp only [execOp, resolve, e]
    simp [Act.eval, Deferred.ofValue, invoke, run_callFunc he]
  unfold Oper.wp
  rw [hx, Oper.upon_enter]
  refine hcl.mono fun e w1 hR => ?_
  obtain ⟨x, S', ρ', v, H'', rfl, ⟨rfl, rfl⟩, hr', hi', hu, hvr, hls⟩ := hR
  exact k x S' w1 ρ' hr' hi' hu (fun b hb => hu.blk b hb (hr.slt b hb)) (hL.imp (fun e => by subst e; exact hls) id) hvr
variable {all : Array Oper} {rest : List Oper} {o : Oper} {u : V} {H' : Hp}
theorem go_opX {ok : Bool} (hw : wantA F all o.guard = some true) (hx : ExecR P K o [] ok n F H u H') (k : Go P K Q (.ops all rest) s n (F.seto o.dst (some u)) H') : Go P K Q (.ops all (o :: rest)) s n F H := fun S w ρ a hr hi hF => by
  show wpList P all (stkE P Q s) (o :: rest) a w
  unfold wpList
  rw [if_pos (wantA_ok hF hw)]
  exact .inl (hx S w ρ a hr hi hF _ _ fun x S' w' ρ' hr' hi' hu _ _ hv => k S' w' ρ' _ hr' hi' (frel_val (hF.up hu) o.dst hv))
variable {L : List Nat} {m left i : Nat} {listed : Array Bool}
theorem go_d1X (hrd : Region.ready .any all listed = [i]) (hi : all[i]? = some o) (hw : wantA F all o.guard = some true) (hx : ExecR P K o L ((listed.setIfInBounds i true).getD m false) n F H u H') (k : Go P K Q (.drw all L m left (listed.setIfInBounds i true)) s n (F.seto o.dst (some u)) H') : Go P K Q (.drw all L m (left + 1) listed) s n F H := fun S w ρ a hr hiv hF hs => by
  refine wpB_one (S := S) hrd ?_
  unfold wpOp
  simp only [hi]
  rw [if_pos (wantA_ok hF hw)]
  exact .inl (hx S w ρ a hr hiv hF _ _ fun x S' w' ρ' hr' hi' hu hA hL hv => wpB_on hu hA hL (k S' w' ρ' _ hr' hi' (frel_val (hF.up hu) o.dst hv) hs))
def RsOk (P : Program) (K : Ctx) (Q : Exit → Act → World → Prop) (n : Nat) : Rs → Prop
  | .ok e F H => ∀ S w ρ a, HRel S w ρ H.get → Inv K S w ρ H.get → FRel S w ρ a n F → Q (match e with | true => .ret | false => .normal) a w
  | .pt p s F H => Go P K Q p s n F H
  | .er _ _ => False
variable {ih : EP → List EI → Fm → Hp → Rs}
theorem ret_inv {S : Nat → Prop} {w : World} {ρ : Nat → Option Value} {x : Value} : ∀ {rs : List V}, VRel S w ρ (retA rs) x → ∃ ys, LRel S w ρ rs ys ∧ x = retV ys
  | [], hvx => by simp only [retA, VRel] at hvx; obtain ⟨ys, rfl, h1⟩ := hvx; exact ⟨ys, h1, by simp only [LRel] at h1; subst h1; rfl⟩
  | [v], hvx => ⟨[x], ⟨x, [], rfl, hvx, rfl⟩, rfl⟩
  | v :: u :: r, hvx => by
    simp only [retA, VRel] at hvx; obtain ⟨ys, rfl, h1⟩ := hvx
    refine ⟨ys, h1, ?_⟩
    simp only [LRel] at h1
    obtain ⟨_, _, rfl, _, _, _, rfl, _⟩ := h1
    rfl
theorem callX_ok (hT : TabOk P T) (IH : ∀ p s F H K Q n, RsOk P K Q n (ih p s F H) → Go P K Q p s n F H) {X : Rs → Prop} (hX : ∀ n m, ¬ X (.er n m)) {keep ok : Bool} {vs : List V} {fid : FuncId} {fn : Func} {b : Code} {c : V → Hp → Rs} (hf : P.funcs[fid]? = some fn) (hb : fn.body = some b) (hl : Nat.ble vs.length fn.ntmps = true)
    (h : X (callX T ih keep vs fn b H L ok c)) : ∃ u H' L', (L' = L ∨ ok = true) ∧ CallR P K fid vs H L' (fun u' H'' => u' = u ∧ H'' = H') ∧ X (c u H') := by
  unfold callX at h
  simp only [] at h
  generalize hR : reachN H 40 (idsVs vs []) [] = R at h
  split at h
  · rename_i hok
    rw [keepE_eq] at h
    split at h
    · rename_i e F1 H1 hrun
      split at h
      · rename_i rs hres
        split at h
        · rename_i hnx
          have hnx' : H.nx ≤ H1.nx := Nat.le_of_ble_eq_true hnx
          -- the objects that the call gets
          have hin : ∀ i, (⟨H.nx, keepE' R H.es⟩ : Hp).get i = H.get i ∨ (⟨H.nx, keepE' R H.es⟩ : Hp).get i = .gone := fun i => by
            unfold Hp.get
            simp only []
            split
            · rcases look_keep (R := R) (i := i) (l := H.es) with e | ⟨_, e⟩
              · exact .inl e
              · exact .inr e
            · exact .inl rfl
          have hout : ∀ i, memN i R = false → Nat.blt i H.nx = true → (⟨H.nx, keepE' R H.es⟩ : Hp).get i = .gone := fun i hi hlt => by
            unfold Hp.get
            simp only [hlt]
            exact look_keep_out hi _
          -- the objects behind the call
          have key : ∀ (H2 : Hp) (es3 : List (Nat × Ob)), H2.nx = H1.nx → (∀ i, lookE es3 i = lookE H2.es i ∨ lookE es3 i = .gone) → ∀ i, ((⟨H2.nx, es3 ++ dropE' H.nx R H.es⟩ : Hp).get i = H2.get i ∨ (⟨H2.nx, es3 ++ dropE' H.nx R H.es⟩ : Hp).get i = .gone) ∨ ((⟨H2.nx, es3 ++ dropE' H.nx R H.es⟩ : Hp).get i = H.get i ∧ (⟨H.nx, keepE' R H.es⟩ : Hp).get i = .gone ∧ H.get i ≠ .free) := fun H2 es3 hn h3 i => by
            by_cases hlt2 : Nat.blt i H2.nx = true
            · have e0 : (⟨H2.nx, es3 ++ dropE' H.nx R H.es⟩ : Hp).get i = lookE (es3 ++ dropE' H.nx R H.es) i := by unfold Hp.get; simp only [hlt2]
              have e2 : H2.get i = lookE H2.es i := by unfold Hp.get; rw [hlt2]
              rw [e0, e2]
              rcases look_app es3 (dropE' H.nx R H.es) i with e | ⟨e', e⟩
              · rw [e]
                rcases h3 i with h3 | h3
                · exact .inl (.inl h3)
                · exact .inl (.inr h3)
              · rw [e]
                rw [look_drop]
                cases hm : (!memN i R && Nat.blt i H.nx)
                · exact .inl (.inr (by simp))
                · have hm' := hm
                  simp only [Bool.and_eq_true, Bool.not_eq_true'] at hm'
                  have eH : H.get i = lookE H.es i := by unfold Hp.get; rw [hm'.2]
                  rw [if_pos rfl]
                  cases hf : lookE H.es i
                  case free => exact .inl (.inr rfl)
                  all_goals exact .inr ⟨by rw [eH, hf]; rfl, hout i hm'.1 hm'.2, by rw [eH, hf]; simp⟩
            · have e0 : (⟨H2.nx, es3 ++ dropE' H.nx R H.es⟩ : Hp).get i = .free := by
                unfold Hp.get; simp only [Bool.not_eq_true] at hlt2; simp only [hlt2]
              have e2 : H2.get i = .free := by unfold Hp.get; simp only [Bool.not_eq_true] at hlt2; rw [hlt2]
              exact .inl (.inl (by rw [e0, e2]))
          -- what holds behind the call
          have fin : ∀ (H2 : Hp) (es3 : List (Nat × Ob)) (rs2 : List V), H2.nx = H1.nx → (∀ i, lookE es3 i = lookE H2.es i ∨ lookE es3 i = .gone) →
              (∀ K S w ρ xs, HRel S w ρ H1.get → Inv K S w ρ H1.get → LRel S w ρ rs xs → ∃ S', HRel S' w ρ H2.get ∧ Inv K S' w ρ H2.get ∧ Up S S' w w ρ ρ ∧ LRel S' w ρ rs2 xs) →
              ∃ L', (L' = L ∨ ok = true) ∧ CallR P K fid vs H L' (fun u' H'' => u' = retA rs2 ∧ H'' = ⟨H2.nx, es3 ++ dropE' H.nx R H.es⟩) := fun H2 es3 rs2 hn h3 hfz => by
            have main : ∀ L', (∀ (S : Nat → Prop) (w : World) (ρ : Nat → Option Value), HRel S w ρ H.get → L' = [] ∨ (liveL H.get L' = true ∧ ∀ id, id ∈ L' → (⟨H.nx, keepE' R H.es⟩ : Hp).get id = .gone)) → CallR P K fid vs H L' (fun u' H'' => u' = retA rs2 ∧ H'' = ⟨H2.nx, es3 ++ dropE' H.nx R H.es⟩) := fun L' hL' S w ρ xs hr hi hx => by
              have hr1 := hr.drop (h' := (⟨H.nx, keepE' R H.es⟩ : Hp).get) hin
              have hi1 : Inv ⟨w, S, fun b => ∃ id, own ρ id ((⟨H.nx, keepE' R H.es⟩ : Hp).get id) b, ρ⟩ S w ρ (⟨H.nx, keepE' R H.es⟩ : Hp).get := ⟨ChgP.refl _ _, fun _ h => h, fun _ h => .inl h, fun id b hb => .inl ⟨id, hb⟩, fun _ _ h => h⟩
              refine enter_go hf hb hl hr1 hi1 hx (IH _ _ _ _ _ _ _ ?_)
              rw [hrun]
              intro S' w' ρ' a' hr' hi' hF'
              obtain ⟨rl, hrl⟩ : ∃ l : List ResultVar, fn.results = l.toArray := ⟨fn.results.toList, by simp⟩
              rw [hrl] at hres
              refine ret_go hT (rs := rl) (by cases e <;> simp) hrl hr' hF' (by simpa using hres) fun x hvx => ?_
              have hLR := ret_inv hvx
              obtain ⟨ys, hys, rfl⟩ := hLR
              obtain ⟨S2, a1, a2, a3, a4⟩ := hfz _ S' w' ρ' ys hr' hi' hys
              obtain ⟨m1, m2, m3, m4⟩ := merge_ok (h1 := (⟨H.nx, keepE' R H.es⟩ : Hp).get) (h2 := (⟨H2.nx, es3 ++ dropE' H.nx R H.es⟩ : Hp).get) hr hi hin a1 a2 (key H2 es3 hn h3)
              refine ⟨_, S2, ρ', _, _, rfl, ⟨rfl, rfl⟩, m1, m2, m3, retA_ok a4, ?_⟩
              rcases hL' S w ρ hr with rfl | ⟨g1, g2⟩
              · intro id hid; simp at hid
              · exact m4 L' g1 g2
            rcases or_of hok with hok | hok
            · simp only [Bool.and_eq_true] at hok
              refine ⟨L, .inl rfl, main L fun S w ρ hr => .inr ⟨hok.1, fun id hid => ?_⟩⟩
              have hmem := List.all_eq_true.1 hok.2 id hid
              simp only [Bool.not_eq_true'] at hmem
              by_cases hlt : Nat.blt id H.nx = true
              · exact hout id hmem hlt
              · exfalso
                have hfree : H.get id = .free := by unfold Hp.get; simp only [Bool.not_eq_true] at hlt; rw [hlt]
                have hnl : ∀ (l : List Nat), id ∈ l → liveL H.get l = true → False := by
                  intro l
                  induction l with
                  | nil => intro h; simp at h
                  | cons j t ih =>
                    intro hm hl
                    simp only [liveL] at hl
                    rcases List.mem_cons.1 hm with e | e
                    · subst e; rw [hfree] at hl; cases hl
                    · split at hl
                      · exact ih e hl
                      · exact ih e hl
                      · cases hl
                exact hnl L hid hok.1
            · exact ⟨[], .inr hok, main [] fun _ _ _ _ => .inl rfl⟩
          split at h
          · rw [dropE_eq] at h
            obtain ⟨L', g1, g2⟩ := fin H1 H1.es rs rfl (fun i => .inl rfl) (fun K S w ρ xs h1 h2 h3 => ⟨S, h1, h2, Up.refl, h3⟩)
            exact ⟨_, _, L', g1, g2, h⟩
          · obtain ⟨rs2, H2, e1, e2, e3⟩ := frzM_ok H.nx rs H1
            rw [e1] at h
            rw [keepE_eq, dropE_eq] at h
            obtain ⟨L', g1, g2⟩ := fin H2 (keepE' _ H2.es) rs2 e2 (fun i => by
              rcases look_keep (R := reachN H2 60 (idsVs rs2 R) []) (i := i) (l := H2.es) with e | ⟨_, e⟩
              · exact .inl e
              · exact .inr e) e3
            exact ⟨_, _, L', g1, g2, h⟩
        · exact absurd h (hX _ _)
      · exact absurd h (hX _ _)
    · exact absurd h (hX _ _)
    · exact absurd h (hX _ _)
  · exact absurd h (hX _ _)
theorem exec1_ok (hT : TabOk P T) (IH : ∀ p s F H K Q n, RsOk P K Q n (ih p s F H) → Go P K Q p s n F H) {X : Rs → Prop} (hX : ∀ n m, ¬ X (.er n m)) {ok : Bool} {c : Option V → Hp → Rs} (h : X (exec1 T ih F H L ok o c)) : ∃ u H', ExecR P K o L ok n F H u H' ∧ X (c (some u) H') := by
  unfold exec1 at h
  split at h
  · rename_i v hv
    exact ⟨v, H, exec_pure hT hv, h⟩
  · rw [natK_eq] at h
    split at h
    · rename_i v ed hv
      split at h
      · rename_i hc
        rw [Hp.ap_eq] at h
        refine ⟨_, _, exec_eff hT hv hc, ?_⟩
        cases v with
        | none => exact h
        | some v => exact h
      · exact absurd h (hX _ _)
    · split at h
      · rename_i fid args tys hop
        split at h
        · rename_i vs hvs
          split at h
          · rename_i v hn
            obtain ⟨he, hnat⟩ := hT.nat _ _ _ hn
            refine ⟨v, H, exec_call (L' := L) he (by rw [hop]) hvs (fun S w ρ xs hr hi hx => ?_) (.inl rfl), h⟩
            obtain ⟨x, h1, h2⟩ := hnat S w ρ xs hx
            refine h2.mono fun e w' hR => ?_
            obtain ⟨rfl, rfl⟩ := hR
            exact ⟨x, S, ρ, v, H, rfl, ⟨rfl, rfl⟩, hr, hi, Up.refl, h1, ls_refl⟩
          · split at h
            · rename_i fn hfn
              obtain ⟨hf, he⟩ := hT.fn _ _ hfn
              split at h
              · rename_i b hb
                split at h
                · rename_i hl
                  obtain ⟨u, H', L', g1, g2, g3⟩ := callX_ok (K := K) hT IH hX hf hb hl h
                  exact ⟨u, H', exec_call he (by rw [hop]) hvs g2 g1, g3⟩
                · exact absurd h (hX _ _)
              · exact absurd h (hX _ _)
            · exact absurd h (hX _ _)
        · exact absurd h (hX _ _)
      · exact absurd h (hX _ _)
theorem isRow1_ok {l : List Nat} {j : Nat} (h : isRow1 l j = true) : l = [j] := by
  unfold isRow1 at h
  split at h
  · rw [Nat.eq_of_beq_eq_true h]
  · cases h
theorem pendX_ok (hT : TabOk P T) (IH : ∀ p s F H K Q n, RsOk P K Q n (ih p s F H) → Go P K Q p s n F H) {i : Nat} {ps : List (Nat × Operand)} {vs : List (Nat × V)} {v : V} (hp : pendB T all i vs = some (o, ps, v)) : ∀ (left : Nat) (listed : Array Bool) (F : Fm) (H : Hp), RsOk P K Q n (pendX T ih all L m i o ps v s left listed F H) → GoP P K Q all L m left listed s n F H i o ps vs v
  | left, listed, F, H, h => by
    unfold pendX at h
    split at h
    · rename_i hl
      split at h
      · rename_i x hrd
        split at h
        · rename_i hb
          have := Nat.eq_of_beq_eq_true hb
          subst this
          rw [Fm.puto_eq] at h
          exact gop_end hT hp hrd hl (IH _ _ _ _ _ _ _ h)
        · exact h.elim
      · rename_i x y hrd
        cases left with
        | zero => exact h.elim
        | succ left =>
          simp only [natK_eq] at h
          generalize hj : pickJ x y i = j at h
          unfold pickJ at hj
          split at h
          · exact h.elim
          · rename_i hji
            have hne : j ≠ i := Nat.ne_of_beq_eq_false hji
            split at h
            · rename_i oj hoj
              split at h
              · rename_i hc
                simp only [Bool.and_eq_true] at hc
                obtain ⟨⟨⟨hc1, hc2⟩, hc3⟩, hc4⟩ := hc
                split at h
                · rename_i hw
                  obtain ⟨u, H', hx, hk⟩ := exec1_ok (K := K) (n := n) hT IH (X := RsOk P K Q n) (fun _ _ h => h) h
                  rw [Fm.puto_eq] at hk
                  have ih2 := pendX_ok hT IH hp left _ _ _ hk
                  have hpair : (match Region.ready .any all listed with | [x, y] => (Nat.beq x i && Nat.beq y j) || (Nat.beq x j && Nat.beq y i) | _ => false) = true := by
                    rw [hrd]
                    simp only []
                    cases hx1 : Nat.beq x i
                    · rw [hx1] at hj
                      cases hy1 : Nat.beq y i
                      · rw [hy1] at hj; exact absurd hj.symm hne
                      · rw [hy1] at hj; simp only at hj; subst hj; simp
                    · rw [hx1] at hj; simp only at hj; subst hj; simp
                  refine gop_step hT hp hoj hpair (isRow1_ok hc1) hl (fun t ht => ?_) hc2 hc3 (Array.setIfInBounds_comm _ _ (Ne.symm hne)) (Post := fun u' H'' => u' = u ∧ H'' = H') (fun S w ρ a hr hi hF K2 hK2 => ?_) (fun u' H'' hP => by obtain ⟨rfl, rfl⟩ := hP; exact ih2)
                  · rw [ht] at hc4
                    simp only [Option.isNone_iff_eq_none] at hc4
                    exact hc4
                  · unfold wpOp
                    simp only [hoj]
                    rw [if_pos (wantA_ok hF hw)]
                    refine .inl (hx S w ρ a hr hi hF _ _ fun x S' w' ρ' hr' hi' hu hA hL hv => hK2 x S' w' ρ' u H' ⟨rfl, rfl⟩ hr' hi' hu hA (hL.imp id fun h => ?_) hv)
                    simpa only [Bool.and_eq_true] using h
                · exact h.elim
              · exact h.elim
            · exact h.elim
      · exact h.elim
    · exact h.elim
theorem pendOf_ok : ∀ {R : List Nat} {i : Nat} {ps : List (Nat × Operand)} {v : V}, pendOf T F all R = some (i, o, ps, v) → ∃ vs, partsA F ps = some vs ∧ pendB T all i vs = some (o, ps, v)
  | [], _, _, _, h => by cases h
  | j :: r, i, ps, v, h => by
    unfold pendOf at h
    split at h
    · rename_i hj
      split at h
      · rename_i vs hvs
        split at h
        · rename_i o' ps' v' hpb
          simp only [Option.some.injEq, Prod.mk.injEq] at h
          obtain ⟨rfl, rfl, rfl, rfl⟩ := h
          refine ⟨vs, ?_, hpb⟩
          have := hpb
          unfold pendB at this
          rw [hj] at this
          simp only at this
          repeat' (split at this)
          all_goals first
            | (cases this; done)
            | (simp only [natK_eq, Option.some.injEq, Prod.mk.injEq] at this; obtain ⟨_, rfl, _⟩ := this; exact hvs)
        · exact pendOf_ok h
      · exact pendOf_ok h
    · exact pendOf_ok h
theorem step_ok (hT : TabOk P T) (hm : P.follows .mixedOrders = true) (IH : ∀ p s F H K Q n, RsOk P K Q n (ih p s F H) → Go P K Q p s n F H) : ∀ (p : EP) (s : List EI) (F : Fm) (H : Hp), RsOk P K Q n (step T ih p s F H) → Go P K Q p s n F H
  | .code c, s, F, H, h => by
    replace h : RsOk P K Q n (stepC T ih c s F H) := h
    unfold stepC at h
    split at h
    · exact go_seq (IH _ _ _ _ _ _ _ h)
    · exact go_block (IH _ _ _ _ _ _ _ h)
    · exact go_skip (IH _ _ _ _ _ _ _ h)
    · exact go_ret (IH _ _ _ _ _ _ _ h)
    · exact go_exit (IH _ _ _ _ _ _ _ h)
    · exact go_scope (IH _ _ _ _ _ _ _ h)
    · exact go_label (IH _ _ _ _ _ _ _ h)
    · exact go_loop 1000000 (IH _ _ _ _ _ _ _ h)
    · split at h
      · exact go_condT ‹_› (IH _ _ _ _ _ _ _ h)
      · exact go_condF ‹_› (IH _ _ _ _ _ _ _ h)
      · exact h.elim
    · exact go_region (IH _ _ _ _ _ _ _ h)
    · split at h
      · rename_i hs
        simp only [listK_eq, natK_eq] at h
        exact go_draw _ _ _ rfl hm hs (IH _ _ _ _ _ _ _ h)
      · exact h.elim
    · exact h.elim
  | .ops all rest, s, F, H, h => by
    replace h : RsOk P K Q n (stepOp T ih all rest s F H) := h
    unfold stepOp at h
    split at h
    · exact go_nil (IH _ _ _ _ _ _ _ h)
    · split at h
      · rw [Fm.puto_eq] at h
        exact go_opS ‹_› (IH _ _ _ _ _ _ _ h)
      · obtain ⟨u, H', hx, hk⟩ := exec1_ok (K := K) (n := n) hT IH (X := RsOk P K Q n) (fun _ _ h => h) h
        rw [Fm.puto_eq] at hk
        exact go_opX ‹_› hx (IH _ _ _ _ _ _ _ hk)
      · exact h.elim
  | .ex e, s, F, H, h => by
    replace h : RsOk P K Q n (stepX ih e s F H) := h
    unfold stepX at h
    split at h
    · split at h
      · exact fun S w ρ a hr hi hF => h S w ρ a hr hi hF
      · exact fun S w ρ a hr hi hF => h S w ρ a hr hi hF
      · exact h.elim
    · split at h
      · exact go_xseq (IH _ _ _ _ _ _ _ h)
      · exact go_xseqE (IH _ _ _ _ _ _ _ h)
      · exact go_xseqR (IH _ _ _ _ _ _ _ h)
      · exact h.elim
    · split at h
      · split at h
        · exact h.elim
        · exact go_xloop (IH _ _ _ _ _ _ _ h)
      · exact go_xloopE (IH _ _ _ _ _ _ _ h)
      · exact go_xloopR (IH _ _ _ _ _ _ _ h)
      · exact h.elim
    · split at h
      · exact go_xscpN (IH _ _ _ _ _ _ _ h)
      · exact go_xscpE (IH _ _ _ _ _ _ _ h)
      · exact go_xscpR (IH _ _ _ _ _ _ _ h)
      · exact h.elim
    · split at h
      · exact go_xblkN (IH _ _ _ _ _ _ _ h)
      · split at h
        · exact go_xblkT ‹_› (IH _ _ _ _ _ _ _ h)
        · exact go_xblkF ‹_› (IH _ _ _ _ _ _ _ h)
      · exact go_xblkR (IH _ _ _ _ _ _ _ h)
      · exact h.elim
  | .drw all L m left listed, s, F, H, h => by
    replace h : RsOk P K Q n (stepD T ih all L m left listed s F H) := h
    unfold stepD at h
    split at h
    · exact go_dDone ‹_› (IH _ _ _ _ _ _ _ h)
    · rename_i i R hrd
      cases left with
      | zero => exact h.elim
      | succ left =>
        simp only [] at h
        split at h
        · split at h
          · rename_i o ho
            split at h
            · rw [Fm.puto_eq] at h
              exact go_d1S hrd ho ‹_› (IH _ _ _ _ _ _ _ h)
            · obtain ⟨u, H', hx, hk⟩ := exec1_ok (K := K) (n := n) hT IH (X := RsOk P K Q n) (fun _ _ h => h) h
              rw [Fm.puto_eq] at hk
              exact go_d1X hrd ho ‹_› hx (IH _ _ _ _ _ _ _ hk)
            · exact h.elim
          · exact h.elim
        · split at h
          · split at h
            · rename_i o ho
              split at h
              · rename_i hc
                simp only [Bool.and_eq_true, Bool.not_eq_true'] at hc
                obtain ⟨⟨hc1, hc2⟩, hc3⟩ := hc
                split at h
                · rw [Fm.puto_eq] at h
                  exact go_dK hc3 ho hc2 hc1 ‹_› (IH _ _ _ _ _ _ _ h)
                · rename_i hw
                  split at h
                  · rename_i v hv
                    rw [Fm.puto_eq] at h
                    exact go_dP hT hc3 ho hc2 hc1 hw hv (IH _ _ _ _ _ _ _ h)
                  · split at h
                    · rename_i id hid
                      split at h
                      · rename_i hL
                        simp only [Bool.and_eq_true, Bool.not_eq_true'] at hL
                        obtain ⟨⟨hL1, hL2⟩, hL3⟩ := hL
                        split at h
                        · rename_i v ed hv
                          rw [Fm.puto_eq] at h
                          exact go_dL hT hc3 hL2 hL3 ho hc2 hc1 hw hid hL1 hv (IH _ _ _ _ _ _ _ h)
                        · exact h.elim
                      · exact h.elim
                    · exact h.elim
                · exact h.elim
              · exact h.elim
            · exact h.elim
          · split at h
            · rename_i i' o ps v hpo
              rw [Fm.puto_eq] at h
              obtain ⟨vs, g1, g2⟩ := pendOf_ok hpo
              exact gop_start g1 (pendX_ok hT IH g2 left listed _ _ h)
            · exact h.elim
theorem run_ok (hT : TabOk P T) (hm : P.follows .mixedOrders = true) : ∀ (k : Nat) (p : EP) (s : List EI) (F : Fm) (H : Hp) (K : Ctx) (Q : Exit → Act → World → Prop) (n : Nat), RsOk P K Q n (run T k p s F H) → Go P K Q p s n F H
  | 0, p, s, F, H, K, Q, n, h => h
  | k + 1, p, s, F, H, K, Q, n, h => step_ok hT hm (fun p s F H K Q n h => run_ok hT hm k p s F H K Q n h) p s F H h
def runF (T : Tab) (k : Nat) (fid : FuncId) (vs : List V) (H : Hp) : Option (List V × Hp) := match T.fn fid with
  | some fn => match fn.body with
    | some b => match Nat.ble vs.length fn.ntmps with
      | true => match run T k (.code b) [] (fr0A fn.ntmps vs) H with
        | .ok _ F1 H1 => match resA T H1.get F1 fn.results.toList with
          | some rs => some (rs, H1)
          | none => none
        | _ => none
      | false => none
    | none => none
  | none => none
theorem runF_ok (hT : TabOk P T) (hm : P.follows .mixedOrders = true) {k : Nat} {fid : FuncId} {vs rs : List V} {H H1 : Hp} (h : runF T k fid vs H = some (rs, H1)) {S : Nat → Prop} {w : World} {ρ : Nat → Option Value} {xs : List Value} (hr : HRel S w ρ H.get) (hx : LRel S w ρ vs xs) : entersB P fid = true ∧
    Calls P fid xs.toArray w fun e w' => ∃ S' ρ' ys, e = .returned (retV ys) ∧ HRel S' w' ρ' H1.get ∧ Inv ⟨w, S, fun b => ∃ id, own ρ id (H.get id) b, ρ⟩ S' w' ρ' H1.get ∧ LRel S' w' ρ' rs ys := by
  unfold runF at h
  split at h
  · rename_i fn hfn
    obtain ⟨hf, he⟩ := hT.fn _ _ hfn
    split at h
    · rename_i b hb
      split at h
      · rename_i hl
        split at h
        · rename_i e F1 H1' hrun
          split at h
          · rename_i rs' hres
            simp only [Option.some.injEq, Prod.mk.injEq] at h
            obtain ⟨rfl, rfl⟩ := h
            refine ⟨he, ?_⟩
            have hi1 : Inv ⟨w, S, fun b => ∃ id, own ρ id (H.get id) b, ρ⟩ S w ρ H.get := ⟨ChgP.refl _ _, fun _ h => h, fun _ h => .inl h, fun id b hb => .inl ⟨id, hb⟩, fun _ _ h => h⟩
            refine enter_go hf hb hl hr hi1 hx (run_ok hT hm k _ _ _ _ _ _ _ ?_)
            rw [hrun]
            intro S' w' ρ' a' hr' hi' hF'
            obtain ⟨rl, hrl⟩ : ∃ l : List ResultVar, fn.results = l.toArray := ⟨fn.results.toList, by simp⟩
            rw [hrl] at hres
            refine ret_go hT (rs := rl) (by cases e <;> simp) hrl hr' hF' (by simpa using hres) fun x hvx => ?_
            have hLR := ret_inv hvx
            obtain ⟨ys, hys, rfl⟩ := hLR
            exact ⟨S', ρ', ys, rfl, hr', hi', hys⟩
          · cases h
        · cases h
      · cases h
    · cases h
  · cases h
end
end Go.Proofs.Ythpjpngfghcmcaa
namespace Go.Proofs.Ythpjpngfghcmcaa
open Go.RowKit
set_option maxRecDepth 100000
def tyL : List (Nat × TD) := [
  (26, ⟨4, 72, .agg [.int .i64 0, .str [], .nils, .nils], .struct [(0, 1, true), (1, 1, true), (2, 1, true), (3, 1, true)]⟩),
  (3, ⟨1, 8, .int .i64 0, .sc⟩),
  (9, ⟨1, 16, .str [], .str⟩),
  (24, ⟨1, 24, .nils, .sl 26⟩),
  (23, ⟨1, 24, .nils, .sl 9⟩),
  (54, ⟨1, 24, .nils, .sl 57⟩),
  (51, ⟨1, 8, .nilp, .sc⟩),
  (5, ⟨1, 1, .int .u8 0, .sc⟩),
  (49, ⟨3, 40, .agg [.int .i64 0, .str [], .str []], .struct [(0, 1, true), (1, 1, true), (2, 1, true)]⟩),
  (45, ⟨1, 8, .nilp, .sc⟩),
  (27, ⟨1, 8, .int .i64 0, .sc⟩),
  (42, ⟨1, 24, .nils, .sl 49⟩),
  (91, ⟨4, 32, .agg [.int .i64 0, .int .i64 0, .int .i64 0, .int .i64 0], .struct [(0, 1, true), (1, 1, true), (2, 1, true), (3, 1, true)]⟩),
  (94, ⟨1, 8, .nilp, .sc⟩),
  (53, ⟨5, 64, .agg [.nils, .int .i64 0, .str [], .int .i64 0, .int .i64 0], .struct [(0, 1, true), (1, 1, true), (2, 1, true), (3, 1, true), (4, 1, true)]⟩),
  (57, ⟨2, 32, .agg [.str [], .str []], .struct [(0, 1, true), (1, 1, true)]⟩),
  (72, ⟨1, 8, .nilp, .sc⟩),
  (47, ⟨5, 56, .agg [.nils, .int .i64 0, .int .i64 0, .int .i64 0, .int .i64 0], .struct [(0, 1, true), (1, 1, true), (2, 1, true), (3, 1, true), (4, 1, true)]⟩),
  (80, ⟨3, 48, .agg [.nilp, .nils, .str []], .struct [(0, 2, false), (2, 1, true)]⟩),
  (37, ⟨1, 24, .nils, .sl 3⟩),
  (38, ⟨5, 80, .agg [.str [], .str [], .str [], .str [], .str []], .arr 5 9⟩),
  (4, ⟨1, 1, .bool false, .bool⟩),
  (78, ⟨2, 32, .agg [.nilp, .nils], .struct [(0, 1, true), (1, 1, true)]⟩),
  (102, ⟨3, 48, .agg [.str [], .str [], .str []], .arr 3 9⟩)]
def lookT {α : Type} : List (Nat × α) → Nat → Option α
  | [], _ => none
  | (i, x) :: r, j => match Nat.beq i j with
    | true => some x
    | false => lookT r j
def tyB (P : Program) : List (Nat × TD) → Bool
  | [] => true
  | (t, d) :: r => tdB P t d && tyB P r
theorem tyB_ok {P : Program} : ∀ {l : List (Nat × TD)}, tyB P l = true → ∀ t d, lookT l t = some d → TdOk P t d
  | [], _, t, d, h => by cases h
  | (i, x) :: r, hb, t, d, h => by
    simp only [tyB, Bool.and_eq_true] at hb
    simp only [lookT] at h
    split at h
    · rename_i e
      have := Nat.eq_of_beq_eq_true e
      subst this
      injection h with h; subst h
      exact tdB_ok hb.1
    · exact tyB_ok hb.2 t d h
theorem tyL_ok : ∀ t d, lookT tyL t = some d → TdOk Try.prog t d := tyB_ok (by kernel_rfl)
noncomputable def fnL : List (Nat × Func) := [(12, Try.f12), (26, Try.f26), (27, Try.f27), (28, Try.f28), (45, Try.f45), (46, Try.f46), (47, Try.f47), (48, Try.f48), (49, Try.f49), (50, Try.f50), (51, Try.f51), (52, Try.f52), (53, Try.f53), (75, Try.f75), (76, Try.f76), (77, Try.f77), (78, Try.f78), (79, Try.f79), (81, Try.f81), (82, Try.f82), (83, Try.f83), (84, Try.f84), (99, Try.f99), (100, Try.f100), (101, Try.f101), (102, Try.f102), (67, Try.f67), (104, Try.f104), (117, Try.f117), (118, Try.f118), (123, Try.f123), (124, Try.f124)]
def fnB (P : Program) : List (Nat × Func) → Prop
  | [] => True
  | (i, f) :: r => (P.funcs[i]? = some f ∧ entersB P i = true) ∧ fnB P r
theorem fnB_ok {P : Program} : ∀ {l : List (Nat × Func)}, fnB P l → ∀ i f, lookT l i = some f → P.funcs[i]? = some f ∧ entersB P i = true
  | [], _, i, f, h => by cases h
  | (j, x) :: r, hb, i, f, h => by
    simp only [lookT] at h
    split at h
    · rename_i e
      have := Nat.eq_of_beq_eq_true e
      subst this
      injection h with h; subst h
      exact hb.1
    · exact fnB_ok hb.2 i f h
theorem fnL_ok : ∀ i f, lookT fnL i = some f → Try.prog.funcs[i]? = some f ∧ entersB Try.prog i = true := fnB_ok ⟨⟨Try.func12, by kernel_rfl⟩, ⟨Try.func26, by kernel_rfl⟩, ⟨Try.func27, by kernel_rfl⟩, ⟨Try.func28, by kernel_rfl⟩, ⟨Try.func45, by kernel_rfl⟩, ⟨Try.func46, by kernel_rfl⟩, ⟨Try.func47, by kernel_rfl⟩, ⟨Try.func48, by kernel_rfl⟩, ⟨Try.func49, by kernel_rfl⟩, ⟨Try.func50, by kernel_rfl⟩, ⟨Try.func51, by kernel_rfl⟩, ⟨Try.func52, by kernel_rfl⟩, ⟨Try.func53, by kernel_rfl⟩, ⟨Try.func75, by kernel_rfl⟩, ⟨Try.func76, by kernel_rfl⟩, ⟨Try.func77, by kernel_rfl⟩, ⟨Try.func78, by kernel_rfl⟩, ⟨Try.func79, by kernel_rfl⟩, ⟨Try.func81, by kernel_rfl⟩, ⟨Try.func82, by kernel_rfl⟩, ⟨Try.func83, by kernel_rfl⟩, ⟨Try.func84, by kernel_rfl⟩, ⟨Try.func99, by kernel_rfl⟩, ⟨Try.func100, by kernel_rfl⟩, ⟨Try.func101, by kernel_rfl⟩, ⟨Try.func102, by kernel_rfl⟩, ⟨Try.func67, by kernel_rfl⟩, ⟨Try.func104, by kernel_rfl⟩, ⟨Try.func117, by kernel_rfl⟩, ⟨Try.func118, by kernel_rfl⟩, ⟨Try.func123, by kernel_rfl⟩, ⟨Try.func124, by kernel_rfl⟩, trivial⟩
end Go.Proofs.Ythpjpngfghcmcaa
namespace Go.Proofs.Ythpjpngfghcmcaa
open Go.RowKit
set_option maxRecDepth 100000
set_option maxHeartbeats 1000000 in
theorem ibLiteV (s : ByteArray) (c : Int) (w : World) : Calls Try.prog 103 #[.string s, .int .u8 c] w fun e w' => e = .returned (.int .i64 (Lib.indexByte s.data.toList c.toNat.toUInt8)) ∧ w = w' := by
  go_enter Try.func103, Try.ntmps103
  go_wp2
  rw [run_callFunc_extern Try.func116 (by kernel_rfl) (by kernel_rfl) (by kernel_rfl) (e := Extern.BytealgIndexByte.indexByte) (by kernel_rfl), Lib.run_indexByteString]
  simp only [Result.andThen]
  rw [Oper.upon_value]
  go_wp2
  go_ret
  exact ⟨rfl, rfl⟩
theorem indexByteV (s : ByteArray) (c : Int) (w : World) : Calls Try.prog 80 #[.string s, .int .u8 c] w fun e w' => e = .returned (.int .i64 (Lib.indexByte s.data.toList c.toNat.toUInt8)) ∧ w = w' := by
  go_enter Try.func80, Try.ntmps80
  go_wp2_with (go_at_call 103; refine (ibLiteV _ _ _).mono ?_; rintro e w' ⟨rfl, rfl⟩)
  go_ret
  exact ⟨rfl, rfl⟩
end Go.Proofs.Ythpjpngfghcmcaa
namespace Go.Proofs.Ythpjpngfghcmcaa
open Go.RowKit Lx Sx
set_option maxRecDepth 100000
def strsB : List (List UInt8) → List V → Bool
  | [], [] => true
  | s :: r, .str l :: q => lEq s l && strsB r q
  | _, _ => false
def leadsB (ls : List (List UInt8)) : V → Bool
  | .nils => ls.isEmpty
  | .row sz els => Nat.beq sz 1 && strsB ls els
  | _ => false
mutual
def treeB : Tree → V → Bool
  | .node k s ls ks, v => match v with
    | .agg [.int .i64 k', .str s', l, r] => iEq k k' && lEq s s' && leadsB ls l && (match r with
      | .nils => ks.isEmpty
      | .row sz els => Nat.beq sz 4 && kidsB ks els
      | _ => false)
    | _ => false
def kidsB : List Tree → List V → Bool
  | [], vs => match vs with
    | [] => true
    | _ => false
  | t :: r, vs => match vs with
    | v :: q => treeB t v && kidsB r q
    | [] => false
end
section
variable {S : Nat → Prop} {w : World}
theorem strsB_ok {ρ : Nat → Option Value} : ∀ {ls : List (List UInt8)} {els : List V} {xs : List Value}, strsB ls els = true → CRel S w ρ 1 els xs → els.length = ls.length ∧ xs = ls.map strV
  | [], [], xs, _, hc => by simp only [CRel] at hc; subst hc; exact ⟨rfl, rfl⟩
  | s :: r, v :: q, xs, hb, hc => by
    cases v <;> simp only [strsB] at hb <;> first | (cases hb; done) | skip
    rename_i l
    simp only [Bool.and_eq_true] at hb
    have hl := hb.1
    rw [lEq_eq] at hl
    simp only [beq_iff_eq] at hl
    subst hl
    simp only [CRel] at hc
    obtain ⟨x, ys, rfl, _, h3, h4⟩ := hc
    simp only [VRel] at h3
    subst h3
    obtain ⟨h5, h6⟩ := strsB_ok hb.2 h4
    exact ⟨by simp [h5], by simp [h6, Value.cells]⟩
  | [], _ :: _, _, hb, _ => by cases hb
  | _ :: _, [], _, hb, _ => by cases hb
theorem leadsB_ok {ρ : Nat → Option Value} {ls : List (List UInt8)} {v : V} {x : Value} (hb : leadsB ls v = true) (hx : VRel S w ρ v x) : ∃ A m, x = .slice A ls.length m ∧ ls.length ≤ m ∧ m ≤ maxLen ∧ RowIn S w 1 A ls.length (ls.map strV) := by
  cases v <;> simp only [leadsB] at hb <;> first | (cases hb; done) | skip
  · simp only [List.isEmpty_iff] at hb
    subst hb
    simp only [VRel] at hx; subst hx
    exact ⟨none, 0, rfl, Nat.le_refl _, by decide, RowIn.none_⟩
  · rename_i sz els
    simp only [Bool.and_eq_true, Nat.beq_eq] at hb
    obtain ⟨rfl, hb⟩ := hb
    simp only [VRel] at hx
    obtain ⟨A, c, xs, rfl, h3, h4, h5, h6⟩ := hx
    obtain ⟨h7, rfl⟩ := strsB_ok hb h5
    rw [h7] at h3 h6 ⊢
    exact ⟨A, c, rfl, h3, h4, h6⟩
mutual
theorem treeB_ok {ρ : Nat → Option Value} : ∀ {t : Tree} {v : V} {x : Value}, treeB t v = true → VRel S w ρ v x → ∃ c, x = .agg c.toArray ∧ TreeIs S w t c
  | .node k s ls ks, v, x, hb, hx => by
    unfold treeB at hb
    split at hb
    · rename_i k' s' l r
      simp only [Bool.and_eq_true] at hb
      obtain ⟨⟨⟨hb1, hb2⟩, hb3⟩, hb4⟩ := hb
      rw [iEq_eq] at hb1
      rw [lEq_eq] at hb2
      simp only [beq_iff_eq] at hb1 hb2
      subst hb1 hb2
      simp only [VRel] at hx
      obtain ⟨xs, rfl, hl⟩ := hx
      simp only [LRel] at hl
      obtain ⟨x0, _, rfl, h0, x1, _, rfl, h1, x2, _, rfl, h2, x3, _, rfl, h3, rfl⟩ := hl
      simp only [VRel] at h0 h1
      subst h0 h1
      obtain ⟨A, m, rfl, g1, g2, g3⟩ := leadsB_ok hb3 h2
      have kk : ∃ B n, x3 = .slice B ks.length n ∧ ks.length ≤ n ∧ n ≤ maxLen ∧ ∃ cs, KidsAre S w ks cs ∧ RowIn S w 4 B ks.length cs := by
        split at hb4
        · simp only [List.isEmpty_iff] at hb4
          subst hb4
          simp only [VRel] at h3; subst h3
          exact ⟨none, 0, rfl, Nat.le_refl _, by decide, [], by simp only [KidsAre], RowIn.none_⟩
        · rename_i sz els
          simp only [Bool.and_eq_true, Nat.beq_eq] at hb4
          obtain ⟨rfl, hb4⟩ := hb4
          simp only [VRel] at h3
          obtain ⟨B, c, ys, rfl, q3, q4, q5, q6⟩ := h3
          obtain ⟨q7, q8⟩ := kidsB_ok hb4 q5
          rw [q7] at q3 q6 ⊢
          exact ⟨B, c, rfl, q3, q4, ys, q8, q6⟩
        · cases hb4
      obtain ⟨B, n, rfl, k1, k2, cs, k3, k4⟩ := kk
      exact ⟨_, rfl, tree_mk g1 g2 k1 k2 g3 k3 k4⟩
    · cases hb
theorem kidsB_ok {ρ : Nat → Option Value} : ∀ {ts : List Tree} {vs : List V} {xs : List Value}, kidsB ts vs = true → CRel S w ρ 4 vs xs → vs.length = ts.length ∧ KidsAre S w ts xs
  | [], vs, xs, hb, hc => by
    unfold kidsB at hb
    split at hb
    · simp only [CRel] at hc; subst hc; exact ⟨rfl, by simp only [KidsAre]⟩
    · cases hb
  | t :: r, vs, xs, hb, hc => by
    unfold kidsB at hb
    split at hb
    · rename_i v q
      simp only [Bool.and_eq_true] at hb
      simp only [CRel] at hc
      obtain ⟨x, ys, rfl, _, h3, h4⟩ := hc
      obtain ⟨c, rfl, hT⟩ := treeB_ok hb.1 h3
      obtain ⟨h5, h6⟩ := kidsB_ok hb.2 h4
      exact ⟨by simp [h5], by simp only [KidsAre]; exact ⟨c, ys, by simp [Value.cells], hT, h6⟩⟩
    · cases hb
end
end
def runG (T : Tab) (k : Nat) (fid : FuncId) (vs : List V) : Option (List V) := match runF T k fid vs ⟨0, []⟩ with
  | some (rs, H1) => frzM 0 H1 rs fun rs' _ => some rs'
  | none => none
theorem get0 (i : Nat) : (⟨0, []⟩ : Hp).get i = .free := by
  unfold Hp.get
  have : Nat.blt i 0 = false := by cases i <;> rfl
  simp only [this]
theorem hrel0 (w : World) : HRel (fun _ => False) w (fun _ => none) (⟨0, []⟩ : Hp).get :=
  ⟨fun i => by rw [get0]; rfl, fun i b hb => by rw [get0] at hb; exact hb.elim, fun i j b hb _ => by rw [get0] at hb; exact hb.elim, fun _ h => h.elim⟩
theorem runG_ok {P : Program} {T : Tab} (hT : TabOk P T) (hm : P.follows .mixedOrders = true) {k : Nat} {fid : FuncId} {vs rs : List V} (h : runG T k fid vs = some rs) {w : World} {xs : List Value} (hx : LRel (fun _ => False) w (fun _ => none) vs xs) :
    Calls P fid xs.toArray w fun e w' => ∃ S' ρ' ys, e = .returned (retV ys) ∧ (∀ b, S' b → w.heap.size ≤ b) ∧ Chg [] w w' ∧ LRel S' w' ρ' rs ys := by
  unfold runG at h
  split at h
  · rename_i rs1 H1 hrun
    obtain ⟨rs2, H2, e1, _, e3⟩ := frzM_ok 0 rs1 H1
    rw [e1] at h
    injection h with h; subst h
    have hr0 := hrel0 w
    refine (runF_ok hT hm hrun hr0 hx).2.mono fun e w' hR => ?_
    obtain ⟨S', ρ', ys, rfl, hr, hi, hl⟩ := hR
    obtain ⟨S2, a1, a2, a3, a4⟩ := e3 _ S' w' ρ' ys hr hi hl
    have hno : ∀ b, ¬ ∃ id, own (fun _ => none) id ((⟨0, []⟩ : Hp).get id) b := fun b ⟨id, hb⟩ => by rw [get0] at hb; exact hb
    refine ⟨S2, ρ', ys, rfl, fun b hb => ?_, ⟨hi.chg.os, hi.chg.tape, hi.chg.output, hi.chg.size, fun b hb _ => hi.chg.block b hb (hno b)⟩, a4⟩
    rcases a2.s1 b hb with h | h | h
    · exact h.elim
    · exact absurd h (hno b)
    · exact h
  · cases h
def natP (fid : FuncId) (vs : List V) : Option V := match Nat.beq fid 80 with
  | true => match vs with
    | [.str s, .int .u8 (.ofNat c)] => intK (Lib.indexByte s c.toUInt8) fun n => some (.int .i64 n)
    | _ => none
  | false => none
noncomputable def tabP : Tab := ⟨true, lookT tyL, lookT fnL, natP, fun f => Nat.beq f 27⟩
theorem tabP_ok : TabOk Try.prog tabP := by
  refine ⟨tyL_ok, fnL_ok, fun i vs v hv => ?_⟩
  replace hv : natP i vs = some v := hv
  unfold natP at hv
  split at hv
  · rename_i hb
    have := Nat.eq_of_beq_eq_true hb
    subst this
    split at hv
    · rename_i s c
      rw [intK_eq] at hv
      injection hv with hv; subst hv
      refine ⟨by kernel_rfl, fun S w ρ xs hx => ?_⟩
      simp only [LRel] at hx
      obtain ⟨x0, _, rfl, h0, x1, _, rfl, h1, rfl⟩ := hx
      simp only [VRel] at h0 h1
      subst h0 h1
      exact ⟨_, by simp only [VRel]; rfl, indexByteV _ _ _⟩
    · cases hv
  · cases hv
def parsedB (t : Tree) : Option (List V) → Bool
  | some [v, .int .i64 a, .int .i64 e] => treeB t v && iEq a 0 && iEq e 0
  | _ => false
theorem parse_run {k : Nat} {l : List UInt8} {t : Tree} (h : parsedB t (runG tabP k 12 [.str l]) = true) {w : World} : Calls Try.prog 12 [strV l].toArray w fun e w' => ∃ c0 c1 c2 c3, e = .returned (.tuple #[.agg #[c0, c1, c2, c3], .int .i64 0, .int .i64 0]) ∧ TreeIs (fun b => w.heap.size ≤ b) w' t [c0, c1, c2, c3] ∧ Chg [] w w' := by
  unfold parsedB at h
  split at h
  · rename_i v a e hr
    simp only [Bool.and_eq_true, iEq_eq, beq_iff_eq] at h
    obtain ⟨⟨h1, rfl⟩, rfl⟩ := h
    refine (runG_ok tabP_ok (by kernel_rfl) hr (xs := [strV l]) ⟨_, [], rfl, by simp only [VRel], rfl⟩).mono fun e w' hR => ?_
    obtain ⟨S', ρ', ys, rfl, g1, g2, g3⟩ := hR
    simp only [LRel] at g3
    obtain ⟨x0, _, rfl, h0, x1, _, rfl, h2, x2, _, rfl, h3, rfl⟩ := g3
    simp only [VRel] at h2 h3
    subst h2 h3
    obtain ⟨c, rfl, hT⟩ := treeB_ok h1 h0
    have h4 := hT.four
    match c, h4, hT with
    | [c0, c1, c2, c3], _, hT => exact ⟨c0, c1, c2, c3, rfl, hT.keep g1 (fun _ _ _ => rfl), g2⟩
  · cases h
end Go.Proofs.Ythpjpngfghcmcaa
namespace Go.Proofs.Ythpjpngfghcmcaa
open Go.RowKit Lx Sx
set_option maxRecDepth 100000
set_option maxHeartbeats 4000000
def awkSV : List UInt8 := [109, 111, 100, 117, 108, 101, 32, 77, 32, 100, 101, 102, 32, 102, 40, 120, 58, 32, 73, 110, 116, 41, 58, 32, 73, 110, 116, 32, 61, 32, 120, 32, 43, 32, 49, 32, 35, 32, 101, 110, 100]
def awkTV : Tree := (parseT awkSV).1
theorem awkV_run : parsedB awkTV (runG tabP 5000 12 [.str awkSV]) = true := by kernel_rfl
theorem awkV_print : printT awkTV = awkSV := by decide +kernel
theorem awkV_bulk : tbulk awkTV ≤ 1000000000 := by decide +kernel
def awkBV : Tree → Bool
  | .node k x ls ks => k == 1 && x == [77] && ls.length == 3 && ks.length == 1 && (match ks with | t :: _ => t.kids.length == 3 | [] => false)
theorem awkV_form : awkBV awkTV = true := by decide +kernel
theorem awkPV {w : World} : Calls Try.prog 12 [strV awkSV].toArray w fun e w' => ∃ A m kb ko n A3 m3, e = .returned (.tuple #[.agg #[.int .i64 1, strV [77], .slice A 3 m, .slice (some ⟨kb, ko, none⟩) 1 n], .int .i64 0, .int .i64 0]) ∧ TreeIs (fun b => w.heap.size ≤ b) w' awkTV [.int .i64 1, strV [77], .slice A 3 m, .slice (some ⟨kb, ko, none⟩) 1 n] ∧ kb < w'.heap.size ∧ w'.cell? ⟨kb, ko + 3, none⟩ = some (.slice A3 3 m3) ∧ Chg [] w w' := by
  refine (parse_run (t := awkTV) awkV_run (w := w)).mono ?_
  rintro e w' ⟨c0, c1, c2, c3, rfl, hT, hx⟩
  have hT' := hT
  have hf := awkV_form
  change TreeIs _ _ awkTV _ at hT hT'
  obtain ⟨T, hTe⟩ : ∃ T, T = awkTV := ⟨_, rfl⟩
  rw [← hTe] at hT hT' hf ⊢
  obtain ⟨k, x, ls, ks⟩ := T
  simp only [awkBV, Bool.and_eq_true, beq_iff_eq] at hf
  obtain ⟨⟨⟨⟨rfl, rfl⟩, hl⟩, hk⟩, h3⟩ := hf
  obtain ⟨t0, r, rfl, hr⟩ := lenS (n := 0) hk
  obtain rfl := len0 hr
  simp only [beq_iff_eq] at h3
  simp only [TreeIs] at hT
  obtain ⟨A, m, B, n, hc, _, _, _, _, _, cs, hK, hR⟩ := hT
  simp only [List.cons.injEq, and_true] at hc
  obtain ⟨rfl, rfl, rfl, rfl⟩ := hc
  obtain ⟨kb, ko, rfl, hS, hkb, hcell⟩ := hR.2 (by simp)
  obtain ⟨d0, d1, d2, d3, hT0, _, _, _, g3⟩ := hK.at_ (i := 0) (by simp)
  obtain ⟨A3, m3', B3, n3, e4⟩ := hT0.cells
  simp only [List.cons.injEq, and_true] at e4
  rw [hl] at hT' ⊢
  simp only [List.getElem_cons_zero] at e4
  refine ⟨A, m, kb, ko, n, B3, n3, rfl, hT', hkb, ?_, hx⟩
  rw [hcell 3 (by simp), show cs[3]? = some d3 from g3, e4.2.2.2, h3]
theorem awakeV {w : World} : Calls Try.prog 11 [].toArray w fun e w' => e = .returned (.bool true) ∧ Chg [] w w' := by
  refine rE 47 Try.func11 rfl rfl rfl ?_
  intro a hf
  have hE := Chg.refl [] w
  refine rR 13 hf rfl fun a hf => rC hf rfl rfl (by kernel_rfl) (awkPV (w := w)) ?_
  rintro _ w2 ⟨A, m, kb, ko, n, A3, m3, rfl, hT, lt_kb, hQ3, hx1⟩
  refine ⟨_, rfl, fun a hf => ?_⟩
  obtain ⟨lo3, elo3⟩ : ∃ x, x = w.heap.size := ⟨_, rfl⟩
  obtain ⟨hi3, ehi3⟩ : ∃ x, x = w2.heap.size := ⟨_, rfl⟩
  replace hT := hT.within elo3 ehi3
  have hle3 : hi3 ≤ w2.heap.size := Nat.le_of_eq ehi3
  have ge_lo3 : w.heap.size ≤ lo3 := elo3 ▸ hE.size
  clear elo3 ehi3
  replace hE := hE.t0 hx1
  refine rR 4 hf rfl fun a hf => ?_
  obtain ⟨w4, b5, he, hB6, hx7, eb8, lb9⟩ := eT a w2 0
  refine rV hf rfl he fun a hf => ?_
  have ne_kb_b5 : kb ≠ b5 := ne_new lt_kb eb8
  have ta_hi3_b5 : hi3 ≤ b5 := eb8 ▸ hle3
  have ge_b5 := ge_new hE eb8
  replace hT := hT.t0 hx7
  replace hle3 := nlt hle3 hx7.size
  replace hQ3 := (hx7.cell lt_kb nm0).trans hQ3
  replace lt_kb := hx7.lt lt_kb
  replace hE := hE.t0 hx7
  clear eb8 lb9
  obtain ⟨w10, he, hB11, hx12⟩ := eN (.tmp 2) (.tmp 8) hf rfl rfl rfl rfl hB6 rfl 0
  refine rS hf rfl he fun a hf => ?_
  replace hT := hT.chg hx12 (fun b hb _ => (nmc (by omega) nm0))
  replace hle3 := nlt hle3 hx12.size
  replace hQ3 := (hx12.cell lt_kb (nmc ne_kb_b5 nm0)).trans hQ3
  replace lt_kb := hx12.lt lt_kb
  replace hE := hE.n1 hx12 ge_b5
  clear hB6
  refine rR 14 hf rfl fun a hf => rV hf rfl (ex_loadB hf rfl (by kernel_rfl) hB11 rfl) fun a hf => rV hf rfl (ex_len hf Try.underlying24 rfl) fun a hf => rR 4 hf rfl fun a hf => rV hf rfl (ex_loadB hf rfl (by kernel_rfl) hB11 rfl) fun a hf => rV hf rfl (ex_eqS (c := true) hf rfl rfl rfl) fun a hf => rR 3 hf rfl fun a hf => rV hf rfl (ex_loadB hf rfl (by kernel_rfl) hB11 rfl) fun a hf => rV hf rfl (ex_index (sz := 4) (k := 0) (r := ko) hf Try.underlying24 (by kernel_rfl) rfl rfl rfl (by first | decide | simp) rfl) fun a hf => rR 1 hf rfl fun a hf => rV hf rfl (ex_load hf rfl (by kernel_rfl) hQ3) fun a hf => rV hf rfl (ex_len hf Try.underlying24 rfl) fun a hf => rR 3 hf rfl fun a hf => rV hf rfl (ex_loadBN (m := 4) hf rfl (by kernel_rfl) hB11 rfl) fun a hf => rC hf rfl rfl (by kernel_rfl) (printL awkV_bulk hT) ?_
  rintro _ w14 ⟨rfl, hx13⟩
  refine ⟨_, rfl, fun a hf => ?_⟩
  replace hB11 := hB11.c0 hx13
  replace hT := hT.t0 hx13
  replace hle3 := nlt hle3 hx13.size
  replace hQ3 := (hx13.cell lt_kb nm0).trans hQ3
  replace lt_kb := hx13.lt lt_kb
  replace hE := hE.t0 hx13
  refine rR 1 hf rfl fun a hf => rV hf rfl (ex_eqS (c := true) hf rfl rfl (by rw [awkV_print]; rfl)) fun a hf => rR 2 hf rfl fun a hf => rC hf rfl rfl (by kernel_rfl) (leadsL (k := 2) (n := 4) (by omega)) ?_
  rintro _ w16 ⟨rfl, hx15⟩
  refine ⟨_, rfl, fun a hf => ?_⟩
  replace hB11 := hB11.c0 hx15
  replace hT := hT.t0 hx15
  replace hle3 := nlt hle3 hx15.size
  replace hQ3 := (hx15.cell lt_kb nm0).trans hQ3
  replace lt_kb := hx15.lt lt_kb
  replace hE := hE.t0 hx15
  refine rV hf rfl (ex_eqI (c := true) hf rfl rfl rfl) fun a hf => rR 5 hf rfl fun a hf => ?_
  exact rT (rs := [.tmp 0]) hf rfl ⟨_, _, rfl, rfl, rfl⟩ ⟨rfl, hE⟩
end Go.Proofs.Ythpjpngfghcmcaa
namespace Go.Proofs.Ythpjpngfghcmcaa
open Go.RowKit Lx Sx
set_option maxRecDepth 100000
set_option maxHeartbeats 4000000
theorem tsizes_step {ks : List Tree} {i : Nat} (h : i < ks.length) : tsizes (ks.take (i + 1)) = tsizes (ks.take i) + tsize ks[i] := by
  rw [List.take_succ_eq_append_getElem h]
  have : ∀ (a : List Tree) (t : Tree), tsizes (a ++ [t]) = tsizes a + tsize t := by
    intro a t
    induction a with
    | nil => simp [tsizes]
    | cons u r ih => simp only [List.cons_append, tsizes, ih]; omega
  exact this _ _
mutual
theorem tsize_bulk : ∀ t : Tree, tsize t ≤ tbulk t
  | .node k x ls ks => by have := tsizes_bulk ks; simp only [tsize, tbulk]; omega
theorem tsizes_bulk : ∀ ks : List Tree, tsizes ks ≤ kbulk ks
  | [] => Nat.le_refl _
  | t :: r => by have := tsize_bulk t; have := tsizes_bulk r; simp only [tsizes, kbulk]; omega
end
mutual
theorem depth_bulk' : ∀ t : Tree, depthT t ≤ tbulk t
  | .node k x ls ks => by have := depths_bulk' ks; simp only [depthT, tbulk]; omega
theorem depths_bulk' : ∀ ks : List Tree, depthsT ks ≤ kbulk ks
  | [] => Nat.le_refl _
  | t :: r => by have := depth_bulk' t; have := depths_bulk' r; simp only [depthsT, kbulk]; omega
end
theorem tsizes_take : ∀ (ks : List Tree) (i : Nat), tsizes (ks.take i) ≤ tsizes ks
  | [], i => by simp [tsizes]
  | t :: r, 0 => by simp [tsizes]
  | t :: r, i + 1 => by have := tsizes_take r i; simp only [List.take_succ_cons, tsizes]; omega
def SizeOk (N : Nat) : Prop := ∀ (t : Tree) (S : Nat → Prop) (w : World) (c0 c1 c2 c3 : Value), tsize t ≤ N → tbulk t ≤ 1000000000 → TreeIs S w t [c0, c1, c2, c3] → Calls Try.prog 15 [.agg #[c0, c1, c2, c3]].toArray w fun e w' => e = .returned (.int .i64 (tsize t : Nat)) ∧ Chg [] w w'
theorem size_step {N : Nat} (ih : SizeOk N) : SizeOk (N + 1) := by
  intro t S w c0 c1 c2 c3 hN hd hT
  obtain ⟨k, tx, ls, ks⟩ := t
  simp only [TreeIs] at hT
  obtain ⟨A, m0, B, n, hc, _, _, hb1, hb2, hrowL, cs, hkids, hrow⟩ := hT
  simp only [List.cons.injEq, and_true] at hc
  obtain ⟨rfl, rfl, rfl, rfl⟩ := hc
  simp only [tsize] at hN
  simp only [tbulk] at hd
  have hkl := kbulk_len ks
  have hll := lsum_len ls
  refine rE 21 Try.func15 rfl rfl rfl ?_
  intro a hf
  have hE := Chg.refl [] w
  refine rR 2 hf rfl ?_
  clear hf a; intro a hf
  obtain ⟨w1, b2, he, hB3, hx4, eb5, lb6⟩ := ef_box (P := Try.prog) (t := 26) (x := (.tmp 0)) hf rfl rfl w 0
  refine rV hf rfl he ?_
  clear he hf a; intro a hf
  have ge_b2 := ge_new hE eb5
  replace hE := hE.t0 hx4
  clear eb5 lb6
  refine rR 15 hf rfl ?_
  clear hf a; intro a hf
  refine rL (fun g a w' => ∃ i, Fr a 21 (fm [(1, .pointer (some ⟨b2, 0, none⟩)), (4, .int .i64 (i : Nat)), (3, .int .i64 ((1 + tsizes (ks.take i) : Nat) : Int))]) ∧ Chg [] w w' ∧ Blk w' b2 26 [.int .i64 k, strV tx, .slice A ls.length m0, .slice B ks.length n] ∧ i ≤ ks.length ∧ g = ks.length - i) _ ⟨0, hf.pick ⟨rfl, rfl, rfl, trivial⟩, hE, hB3, Nat.zero_le _, rfl⟩ ?_
  obtain ⟨b1, eb1⟩ : ∃ x, b2 = x := ⟨_, rfl⟩
  rw [eb1]
  have ge_b1 : w.heap.size ≤ b1 := eb1 ▸ ge_b2
  clear eb1 hf a
  intro g0 a w' hI
  obtain ⟨i, hf, hE, hB1, hi, rfl⟩ := hI
  by_cases hlt : i < ks.length
  obtain ⟨kb, ko, rfl, _, hkb, hcell⟩ := hrow.2 (by omega)
  obtain ⟨d0, d1, d2, d3, hT, hK⟩ := kid_cells hkids hkb hcell hlt hE
  have on_T := hT.one
  have htt := kbulk_at hlt
  have hts := tsize_at hlt
  have lt_kb := hE.lt hkb
  have hst := tsizes_step hlt
  have htk := tsizes_take ks (i + 1)
  have htb := tsizes_bulk ks
  refine rR 5 hf rfl ?_
  clear hf a; intro a hf
  refine rV hf rfl (ex_loadB hf rfl (by kernel_rfl) hB1 rfl) ?_
  clear hf a; intro a hf
  refine rV hf rfl (ex_len hf Try.underlying24 rfl) ?_
  clear hf a; intro a hf
  refine rV hf rfl (ex_ltI (c := true) hf rfl rfl (by simp; omega)) ?_
  clear hf a; intro a hf
  refine rR 10 hf rfl ?_
  clear hf a; intro a hf
  refine rV hf rfl (ex_loadB hf rfl (by kernel_rfl) hB1 rfl) ?_
  clear hf a; intro a hf
  refine rR 1 hf rfl ?_
  clear hf a; intro a hf
  refine rV hf rfl (ex_index (sz := 4) (k := i) (r := ko + i * 4) hf Try.underlying24 (by kernel_rfl) rfl rfl rfl hlt rfl) ?_
  clear hf a; intro a hf
  refine rV hf rfl (ex_loadN (cs := [d0, d1, d2, d3]) (m := 4) hf rfl (by kernel_rfl) rfl hK) ?_
  clear hf a; intro a hf
  refine rC hf rfl rfl (by kernel_rfl) (ih _ _ _ _ _ _ _ (by omega) (by omega) hT) ?_
  rintro _ w8 ⟨rfl, hx7⟩
  refine ⟨_, rfl, ?_⟩
  clear hf a; intro a hf
  replace hB1 := hB1.c0 hx7
  replace hT := hT.t0 hx7
  replace hK := fun j hj => (hx7.cell lt_kb nm0).trans (hK j hj)
  replace lt_kb := hx7.lt lt_kb
  replace hE := hE.t0 hx7
  refine rV hf rfl (ex_addI hf rfl rfl rfl (by omega)) ?_
  clear hf a; intro a hf
  refine rR 6 hf rfl ?_
  clear hf a; intro a hf
  refine rV hf rfl (ex_addI hf rfl rfl rfl (by omega)) ?_
  clear hf a; intro a hf
  refine rR 2 hf rfl ?_
  clear hf a; intro a hf
  have hz : ((1 + tsizes (ks.take (i + 1)) : Nat) : Int) = ((1 + tsizes (ks.take i) : Nat) : Int) + (tsize ks[i] : Nat) := by omega
  exact rX ⟨_, (by omega : ks.length - (i + 1) < ks.length - i), i + 1, by rw [hz]; exact hf.pick ⟨rfl, rfl, rfl, trivial⟩, hE, hB1, by omega, rfl⟩
  have hz : ks.take i = ks := List.take_of_length_le (by omega)
  rw [hz] at hf
  refine rR 5 hf rfl ?_
  clear hf a; intro a hf
  refine rV hf rfl (ex_loadB hf rfl (by kernel_rfl) hB1 rfl) ?_
  clear hf a; intro a hf
  refine rV hf rfl (ex_len hf Try.underlying24 rfl) ?_
  clear hf a; intro a hf
  refine rV hf rfl (ex_ltI (c := false) hf rfl rfl (by simp; omega)) ?_
  clear hf a; intro a hf
  refine rR 5 hf rfl ?_
  clear hf a; intro a hf
  refine rO ?_
  refine rR 9 hf rfl ?_
  clear hf a; intro a hf
  exact rT (rs := [.tmp 2]) hf rfl ⟨_, _, rfl, rfl, rfl⟩ ⟨ret_i (by simp only [tsize]; omega), hE⟩
theorem sizeR : ∀ N, SizeOk N
  | 0 => fun t _ _ _ _ _ _ hN => by cases t; simp only [tsize] at hN; omega
  | N + 1 => size_step (sizeR N)
def DepthROk (N : Nat) : Prop := ∀ (t : Tree) (S : Nat → Prop) (w : World) (c0 c1 c2 c3 : Value), tsize t ≤ N → tbulk t ≤ 1000000000 → TreeIs S w t [c0, c1, c2, c3] → Calls Try.prog 31 [.agg #[c0, c1, c2, c3]].toArray w fun e w' => e = .returned (.int .i64 (depthT t : Nat)) ∧ Chg [] w w'
theorem depthR_step {N : Nat} (ih : DepthROk N) : DepthROk (N + 1) := by
  intro t S w c0 c1 c2 c3 hN hd hT
  obtain ⟨k, tx, ls, ks⟩ := t
  simp only [TreeIs] at hT
  obtain ⟨A, m0, B, n, hc, _, _, hb1, hb2, hrowL, cs, hkids, hrow⟩ := hT
  simp only [List.cons.injEq, and_true] at hc
  obtain ⟨rfl, rfl, rfl, rfl⟩ := hc
  simp only [tsize] at hN
  simp only [tbulk] at hd
  have hkl := kbulk_len ks
  have hll := lsum_len ls
  refine rE 22 Try.func31 rfl rfl rfl ?_
  intro a hf
  have hE := Chg.refl [] w
  refine rR 2 hf rfl ?_
  clear hf a; intro a hf
  obtain ⟨w1, b2, he, hB3, hx4, eb5, lb6⟩ := ef_box (P := Try.prog) (t := 26) (x := (.tmp 0)) hf rfl rfl w 0
  refine rV hf rfl he ?_
  clear he hf a; intro a hf
  have ge_b2 := ge_new hE eb5
  replace hE := hE.t0 hx4
  clear eb5 lb6
  refine rR 15 hf rfl ?_
  clear hf a; intro a hf
  refine rL (fun g a w' => ∃ q i, Fr a 22 (fm [(1, .pointer (some ⟨b2, 0, none⟩)), (4, .int .i64 (i : Nat)), (3, .int .i64 (q : Nat))]) ∧ Chg [] w w' ∧ Blk w' b2 26 [.int .i64 k, strV tx, .slice A ls.length m0, .slice B ks.length n] ∧ i ≤ ks.length ∧ g = ks.length - i ∧ max q (depthsT (ks.drop i)) = depthsT ks) _ ⟨0, 0, hf.pick ⟨rfl, rfl, rfl, trivial⟩, hE, hB3, Nat.zero_le _, rfl, by simp⟩ ?_
  obtain ⟨b1, eb1⟩ : ∃ x, b2 = x := ⟨_, rfl⟩
  rw [eb1]
  have ge_b1 : w.heap.size ≤ b1 := eb1 ▸ ge_b2
  clear eb1 hf a
  intro g0 a w' hI
  obtain ⟨q, i, hf, hE, hB1, hi, rfl, hm⟩ := hI
  by_cases hlt : i < ks.length
  obtain ⟨kb, ko, rfl, _, hkb, hcell⟩ := hrow.2 (by omega)
  obtain ⟨d0, d1, d2, d3, hT, hK⟩ := kid_cells hkids hkb hcell hlt hE
  have on_T := hT.one
  have htt := kbulk_at hlt
  have hts := tsize_at hlt
  have lt_kb := hE.lt hkb
  have hmm := depths_drop hlt
  have hdb := depths_bulk' ks
  have hda := depth_at hlt
  refine rR 5 hf rfl ?_
  clear hf a; intro a hf
  refine rV hf rfl (ex_loadB hf rfl (by kernel_rfl) hB1 rfl) ?_
  clear hf a; intro a hf
  refine rV hf rfl (ex_len hf Try.underlying24 rfl) ?_
  clear hf a; intro a hf
  refine rV hf rfl (ex_ltI (c := true) hf rfl rfl (by simp; omega)) ?_
  clear hf a; intro a hf
  refine rR 10 hf rfl ?_
  clear hf a; intro a hf
  refine rV hf rfl (ex_loadB hf rfl (by kernel_rfl) hB1 rfl) ?_
  clear hf a; intro a hf
  refine rR 1 hf rfl ?_
  clear hf a; intro a hf
  refine rV hf rfl (ex_index (sz := 4) (k := i) (r := ko + i * 4) hf Try.underlying24 (by kernel_rfl) rfl rfl rfl hlt rfl) ?_
  clear hf a; intro a hf
  refine rV hf rfl (ex_loadN (cs := [d0, d1, d2, d3]) (m := 4) hf rfl (by kernel_rfl) rfl hK) ?_
  clear hf a; intro a hf
  refine rC hf rfl rfl (by kernel_rfl) (ih _ _ _ _ _ _ _ (by omega) (by omega) hT) ?_
  rintro _ w8 ⟨rfl, hx7⟩
  refine ⟨_, rfl, ?_⟩
  clear hf a; intro a hf
  replace hB1 := hB1.c0 hx7
  replace hT := hT.t0 hx7
  replace hK := fun j hj => (hx7.cell lt_kb nm0).trans (hK j hj)
  replace lt_kb := hx7.lt lt_kb
  replace hE := hE.t0 hx7
  refine rV hf rfl (ex_maxI hf rfl rfl) ?_
  clear hf a; intro a hf
  refine rR 6 hf rfl ?_
  clear hf a; intro a hf
  refine rV hf rfl (ex_addI hf rfl rfl rfl (by omega)) ?_
  clear hf a; intro a hf
  refine rR 2 hf rfl ?_
  clear hf a; intro a hf
  have hz : ((max q (depthT ks[i]) : Nat) : Int) = max (q : Int) (depthT ks[i] : Nat) := by omega
  exact rX ⟨_, (by omega : ks.length - (i + 1) < ks.length - i), max q (depthT ks[i]), i + 1, by rw [hz]; exact hf.pick ⟨rfl, rfl, rfl, trivial⟩, hE, hB1, by omega, rfl, by omega⟩
  have hz : ks.drop i = [] := List.drop_of_length_le (by omega)
  rw [hz, depthsT] at hm
  have hdb := depths_bulk' ks
  refine rR 5 hf rfl ?_
  clear hf a; intro a hf
  refine rV hf rfl (ex_loadB hf rfl (by kernel_rfl) hB1 rfl) ?_
  clear hf a; intro a hf
  refine rV hf rfl (ex_len hf Try.underlying24 rfl) ?_
  clear hf a; intro a hf
  refine rV hf rfl (ex_ltI (c := false) hf rfl rfl (by simp; omega)) ?_
  clear hf a; intro a hf
  refine rR 5 hf rfl ?_
  clear hf a; intro a hf
  refine rO ?_
  refine rR 5 hf rfl ?_
  clear hf a; intro a hf
  refine rV hf rfl (ex_addI hf rfl rfl rfl (by omega)) ?_
  clear hf a; intro a hf
  refine rR 4 hf rfl ?_
  clear hf a; intro a hf
  exact rT (rs := [.tmp 2]) hf rfl ⟨_, _, rfl, rfl, rfl⟩ ⟨ret_i (by simp only [depthT]; omega), hE⟩
theorem depthR : ∀ N, DepthROk N
  | 0 => fun t _ _ _ _ _ _ hN => by cases t; simp only [tsize] at hN; omega
  | N + 1 => depthR_step (depthR N)
theorem kidR {k : Int} {tx : List UInt8} {A B : Option Addr} {ln m n c i : Nat} {kk : Int} {w : World} (hn : n ≤ 1000000000) : Calls Try.prog 42 [.agg #[.int .i64 k, strV tx, .slice A ln m, .slice B n c], .int .i64 (i : Nat), .int .i64 kk].toArray w fun e w' => e = .returned (.bool (suitsT k n i kk)) ∧ Chg [] w w' := by
  refine rE 62 Try.func42 rfl rfl rfl ?_
  intro a hf
  have hE := Chg.refl [] w
  refine rR 2 hf rfl fun a hf => ?_
  obtain ⟨w1, b2, he, hB3, hx4, eb5, lb6⟩ := ef_box (P := Try.prog) (t := 26) (x := (.tmp 0)) hf rfl rfl w 0
  refine rV hf rfl he fun a hf => ?_
  have ge_b2 := ge_new hE eb5
  replace hE := hE.t0 hx4
  clear eb5 lb6
  refine rR 6 hf rfl fun a hf => rV hf rfl (ex_loadB hf rfl (by kernel_rfl) hB3 rfl) fun a hf => rV hf rfl (ex_len hf Try.underlying24 rfl) fun a hf => rR 7 hf rfl fun a hf => rV hf rfl (ex_loadB hf rfl (by kernel_rfl) hB3 rfl) fun a hf => rR 5 hf rfl fun a hf => rB hf rfl (fun c hc => ex_eqI hf rfl rfl hc) ?_ ?_
  clear hf a; intro h14 a hf
  refine rR 7 hf rfl fun a hf => rB hf rfl (fun c hc => ex_eqI hf rfl rfl hc) ?_ ?_
  clear hf a; intro h16 a hf
  refine rR 10 hf rfl fun a hf => ?_
  exact rT (rs := [.tmp 6]) hf rfl ⟨_, _, rfl, rfl, rfl⟩ ⟨ret_b (by simp only [qA, qB, qC, qD, qE, qF, ne_eq, Int.not_lt, Int.not_le, Decidable.not_not] at h14 h16; simp [suitsT, h14, h16] <;> omega), hE⟩
  clear hf a; intro h16 a hf
  refine rR 2 hf rfl fun a hf => rB hf rfl (fun c hc => ex_eqI hf rfl rfl hc) ?_ ?_
  clear hf a; intro h19 a hf
  refine rR 7 hf rfl fun a hf => ?_
  exact rT (rs := [.tmp 6]) hf rfl ⟨_, _, rfl, rfl, rfl⟩ ⟨ret_b (by simp only [qA, qB, qC, qD, qE, qF, ne_eq, Int.not_lt, Int.not_le, Decidable.not_not] at h14 h16 h19; simp [suitsT, h14, h16, h19] <;> omega), hE⟩
  clear hf a; intro h19 a hf
  refine rR 7 hf rfl fun a hf => ?_
  exact rT (rs := [.tmp 6]) hf rfl ⟨_, _, rfl, rfl, rfl⟩ ⟨ret_b (by simp only [qA, qB, qC, qD, qE, qF, ne_eq, Int.not_lt, Int.not_le, Decidable.not_not] at h14 h16 h19; simp [suitsT, h14, h16, h19] <;> omega), hE⟩
  clear hf a; intro h14 a hf
  refine rR 6 hf rfl fun a hf => rB hf rfl (fun c hc => ex_eqI hf rfl rfl hc) ?_ ?_
  clear hf a; intro h22 a hf
  refine rR 14 hf rfl fun a hf => rV hf rfl (ex_subI hf rfl rfl rfl (by omega)) fun a hf => rB hf rfl (fun c hc => ex_eqI hf rfl rfl hc) ?_ ?_
  clear hf a; intro h27 a hf
  refine rR 7 hf rfl fun a hf => ?_
  rcases Bool.eq_false_or_eq_true (isExprB kk) with hbe | hbe
  refine rC hf rfl rfl (by kernel_rfl) (bool_is (isExprR (k := kk)) hbe) ?_
  rintro _ w8 ⟨rfl, hx7⟩
  refine ⟨_, rfl, fun a hf => ?_⟩
  replace hB3 := hB3.c0 hx7
  replace hE := hE.t0 hx7
  refine rR 8 hf rfl fun a hf => ?_
  exact rT (rs := [.tmp 6]) hf rfl ⟨_, _, rfl, rfl, rfl⟩ ⟨ret_b (by simp only [qA, qB, qC, qD, qE, qF, ne_eq, Int.not_lt, Int.not_le, Decidable.not_not] at h14 h22 h27; simp [suitsT, h14, h22, h27, hbe] <;> omega), hE⟩
  refine rC hf rfl rfl (by kernel_rfl) (bool_is (isExprR (k := kk)) hbe) ?_
  rintro _ w9 ⟨rfl, hx7⟩
  refine ⟨_, rfl, fun a hf => ?_⟩
  replace hB3 := hB3.c0 hx7
  replace hE := hE.t0 hx7
  refine rR 8 hf rfl fun a hf => ?_
  exact rT (rs := [.tmp 6]) hf rfl ⟨_, _, rfl, rfl, rfl⟩ ⟨ret_b (by simp only [qA, qB, qC, qD, qE, qF, ne_eq, Int.not_lt, Int.not_le, Decidable.not_not] at h14 h22 h27; simp [suitsT, h14, h22, h27, hbe] <;> omega), hE⟩
  clear hf a; intro h27 a hf
  refine rR 7 hf rfl fun a hf => rV hf rfl (ex_subI hf rfl rfl rfl (by omega)) fun a hf => rB hf rfl (fun c hc => ex_eqI hf rfl rfl hc) ?_ ?_
  clear hf a; intro h33 a hf
  refine rR 7 hf rfl fun a hf => ?_
  rcases Bool.eq_false_or_eq_true (isTypeB kk) with hbt | hbt
  refine rC hf rfl rfl (by kernel_rfl) (bool_is (isTypeR (k := kk)) hbt) ?_
  rintro _ w11 ⟨rfl, hx10⟩
  refine ⟨_, rfl, fun a hf => ?_⟩
  replace hB3 := hB3.c0 hx10
  replace hE := hE.t0 hx10
  refine rR 8 hf rfl fun a hf => ?_
  exact rT (rs := [.tmp 6]) hf rfl ⟨_, _, rfl, rfl, rfl⟩ ⟨ret_b (by simp only [qA, qB, qC, qD, qE, qF, ne_eq, Int.not_lt, Int.not_le, Decidable.not_not] at h14 h22 h27 h33; simp [suitsT, h14, h22, h27, h33, hbt] <;> omega), hE⟩
  refine rC hf rfl rfl (by kernel_rfl) (bool_is (isTypeR (k := kk)) hbt) ?_
  rintro _ w12 ⟨rfl, hx10⟩
  refine ⟨_, rfl, fun a hf => ?_⟩
  replace hB3 := hB3.c0 hx10
  replace hE := hE.t0 hx10
  refine rR 8 hf rfl fun a hf => ?_
  exact rT (rs := [.tmp 6]) hf rfl ⟨_, _, rfl, rfl, rfl⟩ ⟨ret_b (by simp only [qA, qB, qC, qD, qE, qF, ne_eq, Int.not_lt, Int.not_le, Decidable.not_not] at h14 h22 h27 h33; simp [suitsT, h14, h22, h27, h33, hbt] <;> omega), hE⟩
  clear hf a; intro h33 a hf
  refine rR 10 hf rfl fun a hf => rB hf rfl (fun c hc => ex_eqI hf rfl rfl hc) ?_ ?_
  clear hf a; intro h37 a hf
  refine rR 6 hf rfl fun a hf => ?_
  exact rT (rs := [.tmp 6]) hf rfl ⟨_, _, rfl, rfl, rfl⟩ ⟨ret_b (by simp only [qA, qB, qC, qD, qE, qF, ne_eq, Int.not_lt, Int.not_le, Decidable.not_not] at h14 h22 h27 h33 h37; simp [suitsT, h14, h22, h27, h33, h37] <;> omega), hE⟩
  clear hf a; intro h37 a hf
  refine rR 6 hf rfl fun a hf => ?_
  exact rT (rs := [.tmp 6]) hf rfl ⟨_, _, rfl, rfl, rfl⟩ ⟨ret_b (by simp only [qA, qB, qC, qD, qE, qF, ne_eq, Int.not_lt, Int.not_le, Decidable.not_not] at h14 h22 h27 h33 h37; simp [suitsT, h14, h22, h27, h33, h37] <;> omega), hE⟩
  clear hf a; intro h22 a hf
  refine rR 7 hf rfl fun a hf => rB hf rfl (fun c hc => ex_eqI hf rfl rfl hc) ?_ ?_
  clear hf a; intro h39 a hf
  refine rR 10 hf rfl fun a hf => ?_
  rcases Bool.eq_false_or_eq_true (isTypeB kk) with hbt | hbt
  refine rC hf rfl rfl (by kernel_rfl) (bool_is (isTypeR (k := kk)) hbt) ?_
  rintro _ w14 ⟨rfl, hx13⟩
  refine ⟨_, rfl, fun a hf => ?_⟩
  replace hB3 := hB3.c0 hx13
  replace hE := hE.t0 hx13
  refine rR 6 hf rfl fun a hf => ?_
  exact rT (rs := [.tmp 6]) hf rfl ⟨_, _, rfl, rfl, rfl⟩ ⟨ret_b (by simp only [qA, qB, qC, qD, qE, qF, ne_eq, Int.not_lt, Int.not_le, Decidable.not_not] at h14 h22 h39; simp [suitsT, h14, h22, h39, hbt] <;> omega), hE⟩
  refine rC hf rfl rfl (by kernel_rfl) (bool_is (isTypeR (k := kk)) hbt) ?_
  rintro _ w15 ⟨rfl, hx13⟩
  refine ⟨_, rfl, fun a hf => ?_⟩
  replace hB3 := hB3.c0 hx13
  replace hE := hE.t0 hx13
  refine rR 6 hf rfl fun a hf => ?_
  exact rT (rs := [.tmp 6]) hf rfl ⟨_, _, rfl, rfl, rfl⟩ ⟨ret_b (by simp only [qA, qB, qC, qD, qE, qF, ne_eq, Int.not_lt, Int.not_le, Decidable.not_not] at h14 h22 h39; simp [suitsT, h14, h22, h39, hbt] <;> omega), hE⟩
  clear hf a; intro h39 a hf
  refine rR 6 hf rfl fun a hf => rB hf rfl (fun c hc => ex_eqI hf rfl rfl hc) ?_ ?_
  clear hf a; intro h40 a hf
  refine rR 10 hf rfl fun a hf => ?_
  rcases Bool.eq_false_or_eq_true (isTypeB kk) with hbt | hbt
  refine rC hf rfl rfl (by kernel_rfl) (bool_is (isTypeR (k := kk)) hbt) ?_
  rintro _ w17 ⟨rfl, hx16⟩
  refine ⟨_, rfl, fun a hf => ?_⟩
  replace hB3 := hB3.c0 hx16
  replace hE := hE.t0 hx16
  refine rR 6 hf rfl fun a hf => ?_
  exact rT (rs := [.tmp 6]) hf rfl ⟨_, _, rfl, rfl, rfl⟩ ⟨ret_b (by simp only [qA, qB, qC, qD, qE, qF, ne_eq, Int.not_lt, Int.not_le, Decidable.not_not] at h14 h22 h39 h40; simp [suitsT, h14, h22, h39, h40, hbt] <;> omega), hE⟩
  refine rC hf rfl rfl (by kernel_rfl) (bool_is (isTypeR (k := kk)) hbt) ?_
  rintro _ w18 ⟨rfl, hx16⟩
  refine ⟨_, rfl, fun a hf => ?_⟩
  replace hB3 := hB3.c0 hx16
  replace hE := hE.t0 hx16
  refine rR 6 hf rfl fun a hf => ?_
  exact rT (rs := [.tmp 6]) hf rfl ⟨_, _, rfl, rfl, rfl⟩ ⟨ret_b (by simp only [qA, qB, qC, qD, qE, qF, ne_eq, Int.not_lt, Int.not_le, Decidable.not_not] at h14 h22 h39 h40; simp [suitsT, h14, h22, h39, h40, hbt] <;> omega), hE⟩
  clear hf a; intro h40 a hf
  refine rR 5 hf rfl fun a hf => rB hf rfl (fun c hc => ex_eqI hf rfl rfl hc) ?_ ?_
  clear hf a; intro h41 a hf
  refine rR 7 hf rfl fun a hf => ?_
  rcases Bool.eq_false_or_eq_true (isTypeB kk) with hbt | hbt
  refine rC hf rfl rfl (by kernel_rfl) (bool_is (isTypeR (k := kk)) hbt) ?_
  rintro _ w20 ⟨rfl, hx19⟩
  refine ⟨_, rfl, fun a hf => ?_⟩
  replace hB3 := hB3.c0 hx19
  replace hE := hE.t0 hx19
  refine rR 6 hf rfl fun a hf => ?_
  exact rT (rs := [.tmp 6]) hf rfl ⟨_, _, rfl, rfl, rfl⟩ ⟨ret_b (by simp only [qA, qB, qC, qD, qE, qF, ne_eq, Int.not_lt, Int.not_le, Decidable.not_not] at h14 h22 h39 h40 h41; simp [suitsT, h14, h22, h39, h40, h41, hbt] <;> omega), hE⟩
  refine rC hf rfl rfl (by kernel_rfl) (bool_is (isTypeR (k := kk)) hbt) ?_
  rintro _ w21 ⟨rfl, hx19⟩
  refine ⟨_, rfl, fun a hf => ?_⟩
  replace hB3 := hB3.c0 hx19
  replace hE := hE.t0 hx19
  refine rR 6 hf rfl fun a hf => ?_
  exact rT (rs := [.tmp 6]) hf rfl ⟨_, _, rfl, rfl, rfl⟩ ⟨ret_b (by simp only [qA, qB, qC, qD, qE, qF, ne_eq, Int.not_lt, Int.not_le, Decidable.not_not] at h14 h22 h39 h40 h41; simp [suitsT, h14, h22, h39, h40, h41, hbt] <;> omega), hE⟩
  clear hf a; intro h41 a hf
  refine rR 6 hf rfl fun a hf => rB hf rfl (fun c hc => ex_eqI hf rfl rfl hc) ?_ ?_
  clear hf a; intro h45 a hf
  refine rR 7 hf rfl fun a hf => rB hf rfl (fun c hc => ex_eqI hf rfl rfl hc) ?_ ?_
  clear hf a; intro h47 a hf
  refine rR 6 hf rfl fun a hf => ?_
  exact rT (rs := [.tmp 6]) hf rfl ⟨_, _, rfl, rfl, rfl⟩ ⟨ret_b (by simp only [qA, qB, qC, qD, qE, qF, ne_eq, Int.not_lt, Int.not_le, Decidable.not_not] at h14 h22 h39 h40 h41 h45 h47; simp [suitsT, h14, h22, h39, h40, h41, h45, h47] <;> omega), hE⟩
  clear hf a; intro h47 a hf
  refine rR 6 hf rfl fun a hf => ?_
  exact rT (rs := [.tmp 6]) hf rfl ⟨_, _, rfl, rfl, rfl⟩ ⟨ret_b (by simp only [qA, qB, qC, qD, qE, qF, ne_eq, Int.not_lt, Int.not_le, Decidable.not_not] at h14 h22 h39 h40 h41 h45 h47; simp [suitsT, h14, h22, h39, h40, h41, h45, h47] <;> omega), hE⟩
  clear hf a; intro h45 a hf
  refine rR 6 hf rfl fun a hf => rB hf rfl (fun c hc => ex_eqI hf rfl rfl hc) ?_ ?_
  clear hf a; intro h49 a hf
  refine rR 7 hf rfl fun a hf => ?_
  rcases Bool.eq_false_or_eq_true (isUnitB kk) with hbu | hbu
  refine rC hf rfl rfl (by kernel_rfl) (bool_is (isUnitR (k := kk)) hbu) ?_
  rintro _ w23 ⟨rfl, hx22⟩
  refine ⟨_, rfl, fun a hf => ?_⟩
  replace hB3 := hB3.c0 hx22
  replace hE := hE.t0 hx22
  refine rR 14 hf rfl fun a hf => ?_
  exact rT (rs := [.tmp 6]) hf rfl ⟨_, _, rfl, rfl, rfl⟩ ⟨ret_b (by simp only [qA, qB, qC, qD, qE, qF, ne_eq, Int.not_lt, Int.not_le, Decidable.not_not] at h14 h22 h39 h40 h41 h45 h49; simp [suitsT, h14, h22, h39, h40, h41, h45, h49, hbu] <;> omega), hE⟩
  refine rC hf rfl rfl (by kernel_rfl) (bool_is (isUnitR (k := kk)) hbu) ?_
  rintro _ w24 ⟨rfl, hx22⟩
  refine ⟨_, rfl, fun a hf => ?_⟩
  replace hB3 := hB3.c0 hx22
  replace hE := hE.t0 hx22
  refine rR 2 hf rfl fun a hf => rB hf rfl (fun c hc => ex_eqI hf rfl rfl hc) ?_ ?_
  clear hf a; intro h54 a hf
  refine rR 2 hf rfl fun a hf => rB hf rfl (fun c hc => ex_eqI hf rfl rfl hc) ?_ ?_
  clear hf a; intro h57 a hf
  refine rR 8 hf rfl fun a hf => ?_
  exact rT (rs := [.tmp 6]) hf rfl ⟨_, _, rfl, rfl, rfl⟩ ⟨ret_b (by simp only [qA, qB, qC, qD, qE, qF, ne_eq, Int.not_lt, Int.not_le, Decidable.not_not] at h14 h22 h39 h40 h41 h45 h49 h54 h57; simp [suitsT, h14, h22, h39, h40, h41, h45, h49, hbu, h54, h57] <;> omega), hE⟩
  clear hf a; intro h57 a hf
  refine rR 8 hf rfl fun a hf => ?_
  exact rT (rs := [.tmp 6]) hf rfl ⟨_, _, rfl, rfl, rfl⟩ ⟨ret_b (by simp only [qA, qB, qC, qD, qE, qF, ne_eq, Int.not_lt, Int.not_le, Decidable.not_not] at h14 h22 h39 h40 h41 h45 h49 h54 h57; simp [suitsT, h14, h22, h39, h40, h41, h45, h49, hbu, h54, h57] <;> omega), hE⟩
  clear hf a; intro h54 a hf
  refine rR 11 hf rfl fun a hf => ?_
  exact rT (rs := [.tmp 6]) hf rfl ⟨_, _, rfl, rfl, rfl⟩ ⟨ret_b (by simp only [qA, qB, qC, qD, qE, qF, ne_eq, Int.not_lt, Int.not_le, Decidable.not_not] at h14 h22 h39 h40 h41 h45 h49 h54; simp [suitsT, h14, h22, h39, h40, h41, h45, h49, hbu, h54] <;> omega), hE⟩
  clear hf a; intro h49 a hf
  refine rR 10 hf rfl fun a hf => ?_
  rcases Bool.eq_false_or_eq_true (isExprB kk) with hbe | hbe
  refine rC hf rfl rfl (by kernel_rfl) (bool_is (isExprR (k := kk)) hbe) ?_
  rintro _ w26 ⟨rfl, hx25⟩
  refine ⟨_, rfl, fun a hf => ?_⟩
  replace hB3 := hB3.c0 hx25
  replace hE := hE.t0 hx25
  refine rR 4 hf rfl fun a hf => ?_
  exact rT (rs := [.tmp 6]) hf rfl ⟨_, _, rfl, rfl, rfl⟩ ⟨ret_b (by simp only [qA, qB, qC, qD, qE, qF, ne_eq, Int.not_lt, Int.not_le, Decidable.not_not] at h14 h22 h39 h40 h41 h45 h49; simp [suitsT, h14, h22, h39, h40, h41, h45, h49, hbe] <;> omega), hE⟩
  refine rC hf rfl rfl (by kernel_rfl) (bool_is (isExprR (k := kk)) hbe) ?_
  rintro _ w27 ⟨rfl, hx25⟩
  refine ⟨_, rfl, fun a hf => ?_⟩
  replace hB3 := hB3.c0 hx25
  replace hE := hE.t0 hx25
  refine rR 4 hf rfl fun a hf => ?_
  exact rT (rs := [.tmp 6]) hf rfl ⟨_, _, rfl, rfl, rfl⟩ ⟨ret_b (by simp only [qA, qB, qC, qD, qE, qF, ne_eq, Int.not_lt, Int.not_le, Decidable.not_not] at h14 h22 h39 h40 h41 h45 h49; simp [suitsT, h14, h22, h39, h40, h41, h45, h49, hbe] <;> omega), hE⟩
theorem four {x : World} {kb ko : Nat} {e0 e1 e2 e3 : Value} (h0 : x.cell? ⟨kb, ko, none⟩ = some e0) (h1 : x.cell? ⟨kb, ko + 1, none⟩ = some e1) (h2 : x.cell? ⟨kb, ko + 2, none⟩ = some e2) (h3 : x.cell? ⟨kb, ko + 3, none⟩ = some e3) : ∀ j, j < 4 → x.cell? ⟨kb, ko + j, none⟩ = ([e0, e1, e2, e3] : List Value)[j]? := by
  intro j hj
  rcases (by omega : j = 0 ∨ j = 1 ∨ j = 2 ∨ j = 3) with rfl | rfl | rfl | rfl
  · exact h0
  · exact h1
  · exact h2
  · exact h3
def ShapedROk (N : Nat) : Prop := ∀ (t : Tree) (S : Nat → Prop) (w : World) (c0 c1 c2 c3 : Value), tsize t ≤ N → tbulk t ≤ 1000000000 → TreeIs S w t [c0, c1, c2, c3] → Calls Try.prog 23 [.agg #[c0, c1, c2, c3]].toArray w fun e w' => e = .returned (.bool (shapedT t)) ∧ Chg [] w w'
theorem shapedR_step {N : Nat} (ih : ShapedROk N) : ShapedROk (N + 1) := by
  intro t S w c0 c1 c2 c3 hN hd hT
  obtain ⟨k, tx, ls, ks⟩ := t
  simp only [TreeIs] at hT
  obtain ⟨A, m0, B, n, hc, _, _, hb1, hb2, hrowL, cs, hkids, hrow⟩ := hT
  simp only [List.cons.injEq, and_true] at hc
  obtain ⟨rfl, rfl, rfl, rfl⟩ := hc
  simp only [tsize] at hN
  simp only [tbulk] at hd
  have hkl := kbulk_len ks
  have hll := lsum_len ls
  refine rE 45 Try.func23 rfl rfl rfl ?_
  intro a hf
  have hE := Chg.refl [] w
  refine rR 2 hf rfl ?_
  clear hf a; intro a hf
  obtain ⟨w1, b2, he, hB3, hx4, eb5, lb6⟩ := ef_box (P := Try.prog) (t := 26) (x := (.tmp 0)) hf rfl rfl w 0
  refine rV hf rfl he ?_
  clear he hf a; intro a hf
  have ge_b2 := ge_new hE eb5
  replace hE := hE.t0 hx4
  clear eb5 lb6
  refine rR 7 hf rfl ?_
  clear hf a; intro a hf
  refine rV hf rfl (ex_loadB hf rfl (by kernel_rfl) hB3 rfl) ?_
  clear hf a; intro a hf
  refine rR 1 hf rfl ?_
  clear hf a; intro a hf
  refine rV hf rfl (ex_loadB hf rfl (by kernel_rfl) hB3 rfl) ?_
  clear hf a; intro a hf
  refine rV hf rfl (ex_len hf Try.underlying24 rfl) ?_
  clear hf a; intro a hf
  refine rC hf rfl rfl (by kernel_rfl) (leadsR (by omega)) ?_
  rintro _ w8 ⟨rfl, hx7⟩
  refine ⟨_, rfl, ?_⟩
  clear hf a; intro a hf
  replace hB3 := hB3.c0 hx7
  replace hE := hE.t0 hx7
  refine rB hf rfl (fun c hc => ex_ltI hf rfl rfl hc) ?_ ?_
  clear hf a; intro h10 a hf
  refine rR 18 hf rfl ?_
  clear hf a; intro a hf
  exact rT (rs := [.tmp 2]) hf rfl ⟨_, _, rfl, rfl, rfl⟩ ⟨ret_b (by rw [shapedT, is_neg h10]; simp), hE⟩
  clear hf a; intro h10 a hf
  refine rR 2 hf rfl ?_
  clear hf a; intro a hf
  refine rV hf rfl (ex_loadB hf rfl (by kernel_rfl) hB3 rfl) ?_
  clear hf a; intro a hf
  refine rR 1 hf rfl ?_
  clear hf a; intro a hf
  refine rV hf rfl (ex_loadB hf rfl (by kernel_rfl) hB3 rfl) ?_
  clear hf a; intro a hf
  rcases Bool.eq_false_or_eq_true (wordedT k tx) with hbw | hbw
  refine rC hf rfl rfl (by kernel_rfl) (bool_is (wordedR (k := k) (x := tx) (by omega)) hbw) ?_
  rintro _ w10 ⟨rfl, hx9⟩
  refine ⟨_, rfl, ?_⟩
  clear hf a; intro a hf
  replace hB3 := hB3.c0 hx9
  replace hE := hE.t0 hx9
  refine rR 14 hf rfl ?_
  clear hf a; intro a hf
  refine rL (fun g a w' => ∃ i, Fr a 45 (fm [(1, .pointer (some ⟨b2, 0, none⟩)), (3, .int .i64 (i : Nat))]) ∧ Chg [] w w' ∧ Blk w' b2 26 [.int .i64 k, strV tx, .slice A ls.length m0, .slice B ks.length n] ∧ i ≤ ks.length ∧ g = ks.length - i ∧ kidsT k ks.length (ks.drop i) i = kidsT k ks.length ks 0) _ ⟨0, hf.pick ⟨rfl, rfl, trivial⟩, hE, hB3, Nat.zero_le _, rfl, rfl⟩ ?_
  obtain ⟨b1, eb1⟩ : ∃ x, b2 = x := ⟨_, rfl⟩
  rw [eb1]
  have ge_b1 : w.heap.size ≤ b1 := eb1 ▸ ge_b2
  clear eb1 hf a
  intro g0 a w' hI
  obtain ⟨i, hf, hE, hB1, hi, rfl, hm⟩ := hI
  by_cases hlt : i < ks.length
  obtain ⟨kb, ko, rfl, _, hkb, hcell⟩ := hrow.2 (by omega)
  obtain ⟨d0, d1, d2, d3, hT, hK⟩ := kid_cells hkids hkb hcell hlt hE
  have on_T := hT.one
  have htt := kbulk_at hlt
  have hts := tsize_at hlt
  have lt_kb := hE.lt hkb
  have hmm := kidsT_step (k := k) (n := ks.length) hlt
  have ef := hT.form
  subst ef
  have hK0 := hK 0 (by omega)
  rcases Bool.eq_false_or_eq_true (suitsT k ks.length i ks[i].kind) with hbs | hbs
  rcases Bool.eq_false_or_eq_true (shapedT ks[i]) with hbk | hbk
  refine rR 5 hf rfl ?_
  clear hf a; intro a hf
  refine rV hf rfl (ex_loadB hf rfl (by kernel_rfl) hB1 rfl) ?_
  clear hf a; intro a hf
  refine rV hf rfl (ex_len hf Try.underlying24 rfl) ?_
  clear hf a; intro a hf
  refine rV hf rfl (ex_ltI (c := true) hf rfl rfl (by simp; omega)) ?_
  clear hf a; intro a hf
  refine rR 8 hf rfl ?_
  clear hf a; intro a hf
  have s_hK0 := hK 0 (by decide)
  have s_hK1 := hK 1 (by decide)
  have s_hK2 := hK 2 (by decide)
  have s_hK3 := hK 3 (by decide)
  have s_hB1 := hB1
  refine rD (fun x => x.cell? ⟨b1, 0, none⟩ = w'.cell? ⟨b1, 0, none⟩ ∧ x.cell? ⟨b1, 1, none⟩ = w'.cell? ⟨b1, 1, none⟩ ∧ x.cell? ⟨b1, 2, none⟩ = w'.cell? ⟨b1, 2, none⟩ ∧ x.cell? ⟨b1, 3, none⟩ = w'.cell? ⟨b1, 3, none⟩ ∧ x.cell? ⟨kb, ko + i * 4, none⟩ = w'.cell? ⟨kb, ko + i * 4, none⟩ ∧ x.cell? ⟨kb, ko + i * 4 + 1, none⟩ = w'.cell? ⟨kb, ko + i * 4 + 1, none⟩ ∧ x.cell? ⟨kb, ko + i * 4 + 2, none⟩ = w'.cell? ⟨kb, ko + i * 4 + 2, none⟩ ∧ x.cell? ⟨kb, ko + i * 4 + 3, none⟩ = w'.cell? ⟨kb, ko + i * 4 + 3, none⟩) 19 19 rfl (by kernel_rfl) (by kernel_rfl) ?_
  intro w11 hx12 hsel
  replace hB1 := hB1.c0 hx12
  replace hT := hT.t0 hx12
  replace hK := fun j hj => (hx12.cell lt_kb nm0).trans (hK j hj)
  replace lt_kb := hx12.lt lt_kb
  replace hE := hE.t0 hx12
  have hS0 : w11.cell? ⟨b1, 0, none⟩ = w'.cell? ⟨b1, 0, none⟩ ∧ w11.cell? ⟨b1, 1, none⟩ = w'.cell? ⟨b1, 1, none⟩ ∧ w11.cell? ⟨b1, 2, none⟩ = w'.cell? ⟨b1, 2, none⟩ ∧ w11.cell? ⟨b1, 3, none⟩ = w'.cell? ⟨b1, 3, none⟩ ∧ w11.cell? ⟨kb, ko + i * 4, none⟩ = w'.cell? ⟨kb, ko + i * 4, none⟩ ∧ w11.cell? ⟨kb, ko + i * 4 + 1, none⟩ = w'.cell? ⟨kb, ko + i * 4 + 1, none⟩ ∧ w11.cell? ⟨kb, ko + i * 4 + 2, none⟩ = w'.cell? ⟨kb, ko + i * 4 + 2, none⟩ ∧ w11.cell? ⟨kb, ko + i * 4 + 3, none⟩ = w'.cell? ⟨kb, ko + i * 4 + 3, none⟩ := ⟨(hB1.cell 0).trans (s_hB1.cell 0).symm, (hB1.cell 1).trans (s_hB1.cell 1).symm, (hB1.cell 2).trans (s_hB1.cell 2).symm, (hB1.cell 3).trans (s_hB1.cell 3).symm, ((hK 0 (by decide)).trans s_hK0.symm), ((hK 1 (by decide)).trans s_hK1.symm), ((hK 2 (by decide)).trans s_hK2.symm), ((hK 3 (by decide)).trans s_hK3.symm)⟩
  refine dL 0 rfl rfl hsel (by kernel_rfl) hf rfl hS0 (fun x hS => ex_loadX4 hf rfl (by kernel_rfl) s_hB1 rfl hS.1 hS.2.1 hS.2.2.1 hS.2.2.2.1) ?_
  clear hf a; intro a hf
  refine dR [1, 2] hsel (by kernel_rfl) hf rfl rfl (.inl hS0) ?_
  clear hf a; intro a hf
  refine dL 3 rfl rfl hsel (by kernel_rfl) hf rfl hS0 (fun x hS => ex_load hf rfl (by kernel_rfl) (hS.2.2.2.1.trans ((s_hB1.cell 3).trans rfl))) ?_
  clear hf a; intro a hf
  refine dR [4] hsel (by kernel_rfl) hf rfl rfl (.inl hS0) ?_
  clear hf a; intro a hf
  refine dV 5 rfl rfl hsel (by kernel_rfl) hf rfl (.inl hS0) (fun x => ex_index (sz := 4) (k := i) (r := ko + i * 4) hf Try.underlying24 (by kernel_rfl) rfl rfl rfl hlt rfl) ?_
  clear hf a; intro a hf
  refine dR [6] hsel (by kernel_rfl) hf rfl rfl (.inl hS0) ?_
  clear hf a; intro a hf
  refine dL 7 rfl rfl hsel (by kernel_rfl) hf rfl hS0 (fun x hS => ex_load hf rfl (by kernel_rfl) (hS.2.2.2.2.1.trans s_hK0)) ?_
  clear hf a; intro a hf
  refine dl_c 8 (by kernel_rfl) rfl hf rfl rfl rfl (by kernel_rfl) (bool_is (kidR (k := k) (i := i) (kk := ks[i].kind) (by omega)) hbs) ?_
  rintro _ w14 ⟨rfl, hx13⟩
  refine ⟨_, rfl, ?_⟩
  clear hf a; intro a hf
  replace hB1 := hB1.c0 hx13
  replace hT := hT.t0 hx13
  replace hK := fun j hj => (hx13.cell lt_kb nm0).trans (hK j hj)
  replace lt_kb := hx13.lt lt_kb
  replace hE := hE.t0 hx13
  clear hS0
  have hS0 : w14.cell? ⟨b1, 0, none⟩ = w'.cell? ⟨b1, 0, none⟩ ∧ w14.cell? ⟨b1, 1, none⟩ = w'.cell? ⟨b1, 1, none⟩ ∧ w14.cell? ⟨b1, 2, none⟩ = w'.cell? ⟨b1, 2, none⟩ ∧ w14.cell? ⟨b1, 3, none⟩ = w'.cell? ⟨b1, 3, none⟩ ∧ w14.cell? ⟨kb, ko + i * 4, none⟩ = w'.cell? ⟨kb, ko + i * 4, none⟩ ∧ w14.cell? ⟨kb, ko + i * 4 + 1, none⟩ = w'.cell? ⟨kb, ko + i * 4 + 1, none⟩ ∧ w14.cell? ⟨kb, ko + i * 4 + 2, none⟩ = w'.cell? ⟨kb, ko + i * 4 + 2, none⟩ ∧ w14.cell? ⟨kb, ko + i * 4 + 3, none⟩ = w'.cell? ⟨kb, ko + i * 4 + 3, none⟩ := ⟨(hB1.cell 0).trans (s_hB1.cell 0).symm, (hB1.cell 1).trans (s_hB1.cell 1).symm, (hB1.cell 2).trans (s_hB1.cell 2).symm, (hB1.cell 3).trans (s_hB1.cell 3).symm, ((hK 0 (by decide)).trans s_hK0.symm), ((hK 1 (by decide)).trans s_hK1.symm), ((hK 2 (by decide)).trans s_hK2.symm), ((hK 3 (by decide)).trans s_hK3.symm)⟩
  refine ⟨.inl hS0, ?_⟩
  refine dR [9, 10, 11] hsel (by kernel_rfl) hf rfl rfl (.inl hS0) ?_
  clear hf a; intro a hf
  refine dL 12 rfl rfl hsel (by kernel_rfl) hf rfl hS0 (fun x hS => ex_load hf rfl (by kernel_rfl) (hS.2.2.2.1.trans ((s_hB1.cell 3).trans rfl))) ?_
  clear hf a; intro a hf
  refine dR [13] hsel (by kernel_rfl) hf rfl rfl (.inl hS0) ?_
  clear hf a; intro a hf
  refine dV 14 rfl rfl hsel (by kernel_rfl) hf rfl (.inl hS0) (fun x => ex_index (sz := 4) (k := i) (r := ko + i * 4) hf Try.underlying24 (by kernel_rfl) rfl rfl rfl hlt rfl) ?_
  clear hf a; intro a hf
  refine dL 15 rfl rfl hsel (by kernel_rfl) hf rfl hS0 (fun x hS => ex_loadN (cs := [.int .i64 ks[i].kind, d1, d2, d3]) (m := 4) hf rfl (by kernel_rfl) rfl (four (hS.2.2.2.2.1.trans s_hK0) (hS.2.2.2.2.2.1.trans s_hK1) (hS.2.2.2.2.2.2.1.trans s_hK2) (hS.2.2.2.2.2.2.2.trans s_hK3))) ?_
  clear hf a; intro a hf
  refine dl_c 16 (by kernel_rfl) rfl hf rfl rfl rfl (by kernel_rfl) (bool_is (ih _ _ _ _ _ _ _ (by omega) (by omega) hT) hbk) ?_
  rintro _ w16 ⟨rfl, hx15⟩
  refine ⟨_, rfl, ?_⟩
  clear hf a; intro a hf
  replace hB1 := hB1.c0 hx15
  replace hT := hT.t0 hx15
  replace hK := fun j hj => (hx15.cell lt_kb nm0).trans (hK j hj)
  replace lt_kb := hx15.lt lt_kb
  replace hE := hE.t0 hx15
  clear hS0
  have hS0 : w16.cell? ⟨b1, 0, none⟩ = w'.cell? ⟨b1, 0, none⟩ ∧ w16.cell? ⟨b1, 1, none⟩ = w'.cell? ⟨b1, 1, none⟩ ∧ w16.cell? ⟨b1, 2, none⟩ = w'.cell? ⟨b1, 2, none⟩ ∧ w16.cell? ⟨b1, 3, none⟩ = w'.cell? ⟨b1, 3, none⟩ ∧ w16.cell? ⟨kb, ko + i * 4, none⟩ = w'.cell? ⟨kb, ko + i * 4, none⟩ ∧ w16.cell? ⟨kb, ko + i * 4 + 1, none⟩ = w'.cell? ⟨kb, ko + i * 4 + 1, none⟩ ∧ w16.cell? ⟨kb, ko + i * 4 + 2, none⟩ = w'.cell? ⟨kb, ko + i * 4 + 2, none⟩ ∧ w16.cell? ⟨kb, ko + i * 4 + 3, none⟩ = w'.cell? ⟨kb, ko + i * 4 + 3, none⟩ := ⟨(hB1.cell 0).trans (s_hB1.cell 0).symm, (hB1.cell 1).trans (s_hB1.cell 1).symm, (hB1.cell 2).trans (s_hB1.cell 2).symm, (hB1.cell 3).trans (s_hB1.cell 3).symm, ((hK 0 (by decide)).trans s_hK0.symm), ((hK 1 (by decide)).trans s_hK1.symm), ((hK 2 (by decide)).trans s_hK2.symm), ((hK 3 (by decide)).trans s_hK3.symm)⟩
  refine ⟨.inl hS0, ?_⟩
  refine dR [17, 18] hsel (by kernel_rfl) hf rfl rfl (.inl hS0) ?_
  clear hf a; intro a hf
  refine rN (by kernel_rfl) ?_
  clear hS0 hsel
  refine rR 7 hf rfl ?_
  clear hf a; intro a hf
  refine rV hf rfl (ex_addI hf rfl rfl rfl (by omega)) ?_
  clear hf a; intro a hf
  refine rR 2 hf rfl ?_
  clear hf a; intro a hf
  exact rX ⟨_, (by omega : ks.length - (i + 1) < ks.length - i), i + 1, hf.pick ⟨rfl, rfl, trivial⟩, hE, hB1, by omega, rfl, by rw [← hm, hmm, hbs, hbk]; rfl⟩
  refine rR 5 hf rfl ?_
  clear hf a; intro a hf
  refine rV hf rfl (ex_loadB hf rfl (by kernel_rfl) hB1 rfl) ?_
  clear hf a; intro a hf
  refine rV hf rfl (ex_len hf Try.underlying24 rfl) ?_
  clear hf a; intro a hf
  refine rV hf rfl (ex_ltI (c := true) hf rfl rfl (by simp; omega)) ?_
  clear hf a; intro a hf
  refine rR 8 hf rfl ?_
  clear hf a; intro a hf
  have s_hK0 := hK 0 (by decide)
  have s_hK1 := hK 1 (by decide)
  have s_hK2 := hK 2 (by decide)
  have s_hK3 := hK 3 (by decide)
  have s_hB1 := hB1
  refine rD (fun x => x.cell? ⟨b1, 0, none⟩ = w'.cell? ⟨b1, 0, none⟩ ∧ x.cell? ⟨b1, 1, none⟩ = w'.cell? ⟨b1, 1, none⟩ ∧ x.cell? ⟨b1, 2, none⟩ = w'.cell? ⟨b1, 2, none⟩ ∧ x.cell? ⟨b1, 3, none⟩ = w'.cell? ⟨b1, 3, none⟩ ∧ x.cell? ⟨kb, ko + i * 4, none⟩ = w'.cell? ⟨kb, ko + i * 4, none⟩ ∧ x.cell? ⟨kb, ko + i * 4 + 1, none⟩ = w'.cell? ⟨kb, ko + i * 4 + 1, none⟩ ∧ x.cell? ⟨kb, ko + i * 4 + 2, none⟩ = w'.cell? ⟨kb, ko + i * 4 + 2, none⟩ ∧ x.cell? ⟨kb, ko + i * 4 + 3, none⟩ = w'.cell? ⟨kb, ko + i * 4 + 3, none⟩) 19 19 rfl (by kernel_rfl) (by kernel_rfl) ?_
  intro w17 hx18 hsel
  replace hB1 := hB1.c0 hx18
  replace hT := hT.t0 hx18
  replace hK := fun j hj => (hx18.cell lt_kb nm0).trans (hK j hj)
  replace lt_kb := hx18.lt lt_kb
  replace hE := hE.t0 hx18
  have hS0 : w17.cell? ⟨b1, 0, none⟩ = w'.cell? ⟨b1, 0, none⟩ ∧ w17.cell? ⟨b1, 1, none⟩ = w'.cell? ⟨b1, 1, none⟩ ∧ w17.cell? ⟨b1, 2, none⟩ = w'.cell? ⟨b1, 2, none⟩ ∧ w17.cell? ⟨b1, 3, none⟩ = w'.cell? ⟨b1, 3, none⟩ ∧ w17.cell? ⟨kb, ko + i * 4, none⟩ = w'.cell? ⟨kb, ko + i * 4, none⟩ ∧ w17.cell? ⟨kb, ko + i * 4 + 1, none⟩ = w'.cell? ⟨kb, ko + i * 4 + 1, none⟩ ∧ w17.cell? ⟨kb, ko + i * 4 + 2, none⟩ = w'.cell? ⟨kb, ko + i * 4 + 2, none⟩ ∧ w17.cell? ⟨kb, ko + i * 4 + 3, none⟩ = w'.cell? ⟨kb, ko + i * 4 + 3, none⟩ := ⟨(hB1.cell 0).trans (s_hB1.cell 0).symm, (hB1.cell 1).trans (s_hB1.cell 1).symm, (hB1.cell 2).trans (s_hB1.cell 2).symm, (hB1.cell 3).trans (s_hB1.cell 3).symm, ((hK 0 (by decide)).trans s_hK0.symm), ((hK 1 (by decide)).trans s_hK1.symm), ((hK 2 (by decide)).trans s_hK2.symm), ((hK 3 (by decide)).trans s_hK3.symm)⟩
  refine dL 0 rfl rfl hsel (by kernel_rfl) hf rfl hS0 (fun x hS => ex_loadX4 hf rfl (by kernel_rfl) s_hB1 rfl hS.1 hS.2.1 hS.2.2.1 hS.2.2.2.1) ?_
  clear hf a; intro a hf
  refine dR [1, 2] hsel (by kernel_rfl) hf rfl rfl (.inl hS0) ?_
  clear hf a; intro a hf
  refine dL 3 rfl rfl hsel (by kernel_rfl) hf rfl hS0 (fun x hS => ex_load hf rfl (by kernel_rfl) (hS.2.2.2.1.trans ((s_hB1.cell 3).trans rfl))) ?_
  clear hf a; intro a hf
  refine dR [4] hsel (by kernel_rfl) hf rfl rfl (.inl hS0) ?_
  clear hf a; intro a hf
  refine dV 5 rfl rfl hsel (by kernel_rfl) hf rfl (.inl hS0) (fun x => ex_index (sz := 4) (k := i) (r := ko + i * 4) hf Try.underlying24 (by kernel_rfl) rfl rfl rfl hlt rfl) ?_
  clear hf a; intro a hf
  refine dR [6] hsel (by kernel_rfl) hf rfl rfl (.inl hS0) ?_
  clear hf a; intro a hf
  refine dL 7 rfl rfl hsel (by kernel_rfl) hf rfl hS0 (fun x hS => ex_load hf rfl (by kernel_rfl) (hS.2.2.2.2.1.trans s_hK0)) ?_
  clear hf a; intro a hf
  refine dl_c 8 (by kernel_rfl) rfl hf rfl rfl rfl (by kernel_rfl) (bool_is (kidR (k := k) (i := i) (kk := ks[i].kind) (by omega)) hbs) ?_
  rintro _ w20 ⟨rfl, hx19⟩
  refine ⟨_, rfl, ?_⟩
  clear hf a; intro a hf
  replace hB1 := hB1.c0 hx19
  replace hT := hT.t0 hx19
  replace hK := fun j hj => (hx19.cell lt_kb nm0).trans (hK j hj)
  replace lt_kb := hx19.lt lt_kb
  replace hE := hE.t0 hx19
  clear hS0
  have hS0 : w20.cell? ⟨b1, 0, none⟩ = w'.cell? ⟨b1, 0, none⟩ ∧ w20.cell? ⟨b1, 1, none⟩ = w'.cell? ⟨b1, 1, none⟩ ∧ w20.cell? ⟨b1, 2, none⟩ = w'.cell? ⟨b1, 2, none⟩ ∧ w20.cell? ⟨b1, 3, none⟩ = w'.cell? ⟨b1, 3, none⟩ ∧ w20.cell? ⟨kb, ko + i * 4, none⟩ = w'.cell? ⟨kb, ko + i * 4, none⟩ ∧ w20.cell? ⟨kb, ko + i * 4 + 1, none⟩ = w'.cell? ⟨kb, ko + i * 4 + 1, none⟩ ∧ w20.cell? ⟨kb, ko + i * 4 + 2, none⟩ = w'.cell? ⟨kb, ko + i * 4 + 2, none⟩ ∧ w20.cell? ⟨kb, ko + i * 4 + 3, none⟩ = w'.cell? ⟨kb, ko + i * 4 + 3, none⟩ := ⟨(hB1.cell 0).trans (s_hB1.cell 0).symm, (hB1.cell 1).trans (s_hB1.cell 1).symm, (hB1.cell 2).trans (s_hB1.cell 2).symm, (hB1.cell 3).trans (s_hB1.cell 3).symm, ((hK 0 (by decide)).trans s_hK0.symm), ((hK 1 (by decide)).trans s_hK1.symm), ((hK 2 (by decide)).trans s_hK2.symm), ((hK 3 (by decide)).trans s_hK3.symm)⟩
  refine ⟨.inl hS0, ?_⟩
  refine dR [9, 10, 11] hsel (by kernel_rfl) hf rfl rfl (.inl hS0) ?_
  clear hf a; intro a hf
  refine dL 12 rfl rfl hsel (by kernel_rfl) hf rfl hS0 (fun x hS => ex_load hf rfl (by kernel_rfl) (hS.2.2.2.1.trans ((s_hB1.cell 3).trans rfl))) ?_
  clear hf a; intro a hf
  refine dR [13] hsel (by kernel_rfl) hf rfl rfl (.inl hS0) ?_
  clear hf a; intro a hf
  refine dV 14 rfl rfl hsel (by kernel_rfl) hf rfl (.inl hS0) (fun x => ex_index (sz := 4) (k := i) (r := ko + i * 4) hf Try.underlying24 (by kernel_rfl) rfl rfl rfl hlt rfl) ?_
  clear hf a; intro a hf
  refine dL 15 rfl rfl hsel (by kernel_rfl) hf rfl hS0 (fun x hS => ex_loadN (cs := [.int .i64 ks[i].kind, d1, d2, d3]) (m := 4) hf rfl (by kernel_rfl) rfl (four (hS.2.2.2.2.1.trans s_hK0) (hS.2.2.2.2.2.1.trans s_hK1) (hS.2.2.2.2.2.2.1.trans s_hK2) (hS.2.2.2.2.2.2.2.trans s_hK3))) ?_
  clear hf a; intro a hf
  refine dl_c 16 (by kernel_rfl) rfl hf rfl rfl rfl (by kernel_rfl) (bool_is (ih _ _ _ _ _ _ _ (by omega) (by omega) hT) hbk) ?_
  rintro _ w22 ⟨rfl, hx21⟩
  refine ⟨_, rfl, ?_⟩
  clear hf a; intro a hf
  replace hB1 := hB1.c0 hx21
  replace hT := hT.t0 hx21
  replace hK := fun j hj => (hx21.cell lt_kb nm0).trans (hK j hj)
  replace lt_kb := hx21.lt lt_kb
  replace hE := hE.t0 hx21
  clear hS0
  have hS0 : w22.cell? ⟨b1, 0, none⟩ = w'.cell? ⟨b1, 0, none⟩ ∧ w22.cell? ⟨b1, 1, none⟩ = w'.cell? ⟨b1, 1, none⟩ ∧ w22.cell? ⟨b1, 2, none⟩ = w'.cell? ⟨b1, 2, none⟩ ∧ w22.cell? ⟨b1, 3, none⟩ = w'.cell? ⟨b1, 3, none⟩ ∧ w22.cell? ⟨kb, ko + i * 4, none⟩ = w'.cell? ⟨kb, ko + i * 4, none⟩ ∧ w22.cell? ⟨kb, ko + i * 4 + 1, none⟩ = w'.cell? ⟨kb, ko + i * 4 + 1, none⟩ ∧ w22.cell? ⟨kb, ko + i * 4 + 2, none⟩ = w'.cell? ⟨kb, ko + i * 4 + 2, none⟩ ∧ w22.cell? ⟨kb, ko + i * 4 + 3, none⟩ = w'.cell? ⟨kb, ko + i * 4 + 3, none⟩ := ⟨(hB1.cell 0).trans (s_hB1.cell 0).symm, (hB1.cell 1).trans (s_hB1.cell 1).symm, (hB1.cell 2).trans (s_hB1.cell 2).symm, (hB1.cell 3).trans (s_hB1.cell 3).symm, ((hK 0 (by decide)).trans s_hK0.symm), ((hK 1 (by decide)).trans s_hK1.symm), ((hK 2 (by decide)).trans s_hK2.symm), ((hK 3 (by decide)).trans s_hK3.symm)⟩
  refine ⟨.inl hS0, ?_⟩
  refine dR [17, 18] hsel (by kernel_rfl) hf rfl rfl (.inl hS0) ?_
  clear hf a; intro a hf
  refine rN (by kernel_rfl) ?_
  clear hS0 hsel
  refine rR 10 hf rfl ?_
  clear hf a; intro a hf
  refine rOr ?_
  refine rR 2 hf rfl ?_
  clear hf a; intro a hf
  exact rT (rs := [.tmp 2]) hf rfl ⟨_, _, rfl, rfl, rfl⟩ ⟨ret_b (by rw [shapedT, ← hm, hmm, hbs, hbk]; simp), hE⟩
  refine rR 5 hf rfl ?_
  clear hf a; intro a hf
  refine rV hf rfl (ex_loadB hf rfl (by kernel_rfl) hB1 rfl) ?_
  clear hf a; intro a hf
  refine rV hf rfl (ex_len hf Try.underlying24 rfl) ?_
  clear hf a; intro a hf
  refine rV hf rfl (ex_ltI (c := true) hf rfl rfl (by simp; omega)) ?_
  clear hf a; intro a hf
  refine rR 8 hf rfl ?_
  clear hf a; intro a hf
  have s_hK0 := hK 0 (by decide)
  have s_hK1 := hK 1 (by decide)
  have s_hK2 := hK 2 (by decide)
  have s_hK3 := hK 3 (by decide)
  have s_hB1 := hB1
  refine rD (fun x => x.cell? ⟨b1, 0, none⟩ = w'.cell? ⟨b1, 0, none⟩ ∧ x.cell? ⟨b1, 1, none⟩ = w'.cell? ⟨b1, 1, none⟩ ∧ x.cell? ⟨b1, 2, none⟩ = w'.cell? ⟨b1, 2, none⟩ ∧ x.cell? ⟨b1, 3, none⟩ = w'.cell? ⟨b1, 3, none⟩ ∧ x.cell? ⟨kb, ko + i * 4, none⟩ = w'.cell? ⟨kb, ko + i * 4, none⟩ ∧ x.cell? ⟨kb, ko + i * 4 + 1, none⟩ = w'.cell? ⟨kb, ko + i * 4 + 1, none⟩ ∧ x.cell? ⟨kb, ko + i * 4 + 2, none⟩ = w'.cell? ⟨kb, ko + i * 4 + 2, none⟩ ∧ x.cell? ⟨kb, ko + i * 4 + 3, none⟩ = w'.cell? ⟨kb, ko + i * 4 + 3, none⟩) 19 19 rfl (by kernel_rfl) (by kernel_rfl) ?_
  intro w23 hx24 hsel
  replace hB1 := hB1.c0 hx24
  replace hT := hT.t0 hx24
  replace hK := fun j hj => (hx24.cell lt_kb nm0).trans (hK j hj)
  replace lt_kb := hx24.lt lt_kb
  replace hE := hE.t0 hx24
  have hS0 : w23.cell? ⟨b1, 0, none⟩ = w'.cell? ⟨b1, 0, none⟩ ∧ w23.cell? ⟨b1, 1, none⟩ = w'.cell? ⟨b1, 1, none⟩ ∧ w23.cell? ⟨b1, 2, none⟩ = w'.cell? ⟨b1, 2, none⟩ ∧ w23.cell? ⟨b1, 3, none⟩ = w'.cell? ⟨b1, 3, none⟩ ∧ w23.cell? ⟨kb, ko + i * 4, none⟩ = w'.cell? ⟨kb, ko + i * 4, none⟩ ∧ w23.cell? ⟨kb, ko + i * 4 + 1, none⟩ = w'.cell? ⟨kb, ko + i * 4 + 1, none⟩ ∧ w23.cell? ⟨kb, ko + i * 4 + 2, none⟩ = w'.cell? ⟨kb, ko + i * 4 + 2, none⟩ ∧ w23.cell? ⟨kb, ko + i * 4 + 3, none⟩ = w'.cell? ⟨kb, ko + i * 4 + 3, none⟩ := ⟨(hB1.cell 0).trans (s_hB1.cell 0).symm, (hB1.cell 1).trans (s_hB1.cell 1).symm, (hB1.cell 2).trans (s_hB1.cell 2).symm, (hB1.cell 3).trans (s_hB1.cell 3).symm, ((hK 0 (by decide)).trans s_hK0.symm), ((hK 1 (by decide)).trans s_hK1.symm), ((hK 2 (by decide)).trans s_hK2.symm), ((hK 3 (by decide)).trans s_hK3.symm)⟩
  refine dL 0 rfl rfl hsel (by kernel_rfl) hf rfl hS0 (fun x hS => ex_loadX4 hf rfl (by kernel_rfl) s_hB1 rfl hS.1 hS.2.1 hS.2.2.1 hS.2.2.2.1) ?_
  clear hf a; intro a hf
  refine dR [1, 2] hsel (by kernel_rfl) hf rfl rfl (.inl hS0) ?_
  clear hf a; intro a hf
  refine dL 3 rfl rfl hsel (by kernel_rfl) hf rfl hS0 (fun x hS => ex_load hf rfl (by kernel_rfl) (hS.2.2.2.1.trans ((s_hB1.cell 3).trans rfl))) ?_
  clear hf a; intro a hf
  refine dR [4] hsel (by kernel_rfl) hf rfl rfl (.inl hS0) ?_
  clear hf a; intro a hf
  refine dV 5 rfl rfl hsel (by kernel_rfl) hf rfl (.inl hS0) (fun x => ex_index (sz := 4) (k := i) (r := ko + i * 4) hf Try.underlying24 (by kernel_rfl) rfl rfl rfl hlt rfl) ?_
  clear hf a; intro a hf
  refine dR [6] hsel (by kernel_rfl) hf rfl rfl (.inl hS0) ?_
  clear hf a; intro a hf
  refine dL 7 rfl rfl hsel (by kernel_rfl) hf rfl hS0 (fun x hS => ex_load hf rfl (by kernel_rfl) (hS.2.2.2.2.1.trans s_hK0)) ?_
  clear hf a; intro a hf
  refine dl_c 8 (by kernel_rfl) rfl hf rfl rfl rfl (by kernel_rfl) (bool_is (kidR (k := k) (i := i) (kk := ks[i].kind) (by omega)) hbs) ?_
  rintro _ w26 ⟨rfl, hx25⟩
  refine ⟨_, rfl, ?_⟩
  clear hf a; intro a hf
  replace hB1 := hB1.c0 hx25
  replace hT := hT.t0 hx25
  replace hK := fun j hj => (hx25.cell lt_kb nm0).trans (hK j hj)
  replace lt_kb := hx25.lt lt_kb
  replace hE := hE.t0 hx25
  clear hS0
  have hS0 : w26.cell? ⟨b1, 0, none⟩ = w'.cell? ⟨b1, 0, none⟩ ∧ w26.cell? ⟨b1, 1, none⟩ = w'.cell? ⟨b1, 1, none⟩ ∧ w26.cell? ⟨b1, 2, none⟩ = w'.cell? ⟨b1, 2, none⟩ ∧ w26.cell? ⟨b1, 3, none⟩ = w'.cell? ⟨b1, 3, none⟩ ∧ w26.cell? ⟨kb, ko + i * 4, none⟩ = w'.cell? ⟨kb, ko + i * 4, none⟩ ∧ w26.cell? ⟨kb, ko + i * 4 + 1, none⟩ = w'.cell? ⟨kb, ko + i * 4 + 1, none⟩ ∧ w26.cell? ⟨kb, ko + i * 4 + 2, none⟩ = w'.cell? ⟨kb, ko + i * 4 + 2, none⟩ ∧ w26.cell? ⟨kb, ko + i * 4 + 3, none⟩ = w'.cell? ⟨kb, ko + i * 4 + 3, none⟩ := ⟨(hB1.cell 0).trans (s_hB1.cell 0).symm, (hB1.cell 1).trans (s_hB1.cell 1).symm, (hB1.cell 2).trans (s_hB1.cell 2).symm, (hB1.cell 3).trans (s_hB1.cell 3).symm, ((hK 0 (by decide)).trans s_hK0.symm), ((hK 1 (by decide)).trans s_hK1.symm), ((hK 2 (by decide)).trans s_hK2.symm), ((hK 3 (by decide)).trans s_hK3.symm)⟩
  refine ⟨.inl hS0, ?_⟩
  refine dR [9, 10, 11, 12, 13, 14, 15, 16, 17, 18] hsel (by kernel_rfl) hf rfl rfl (.inl hS0) ?_
  clear hf a; intro a hf
  refine rN (by kernel_rfl) ?_
  clear hS0 hsel
  refine rR 10 hf rfl ?_
  clear hf a; intro a hf
  refine rOr ?_
  refine rR 2 hf rfl ?_
  clear hf a; intro a hf
  exact rT (rs := [.tmp 2]) hf rfl ⟨_, _, rfl, rfl, rfl⟩ ⟨ret_b (by rw [shapedT, ← hm, hmm, hbs]; simp), hE⟩
  have hz : ks.drop i = [] := List.drop_of_length_le (by omega)
  rw [hz, kidsT] at hm
  refine rR 5 hf rfl ?_
  clear hf a; intro a hf
  refine rV hf rfl (ex_loadB hf rfl (by kernel_rfl) hB1 rfl) ?_
  clear hf a; intro a hf
  refine rV hf rfl (ex_len hf Try.underlying24 rfl) ?_
  clear hf a; intro a hf
  refine rV hf rfl (ex_ltI (c := false) hf rfl rfl (by simp; omega)) ?_
  clear hf a; intro a hf
  refine rR 5 hf rfl ?_
  clear hf a; intro a hf
  refine rO ?_
  refine rR 8 hf rfl ?_
  clear hf a; intro a hf
  exact rT (rs := [.tmp 2]) hf rfl ⟨_, _, rfl, rfl, rfl⟩ ⟨ret_b (by rw [shapedT, ← hm, hbw, not_neg h10]; rfl), hE⟩
  refine rC hf rfl rfl (by kernel_rfl) (bool_is (wordedR (k := k) (x := tx) (by omega)) hbw) ?_
  rintro _ w27 ⟨rfl, hx9⟩
  refine ⟨_, rfl, ?_⟩
  clear hf a; intro a hf
  replace hB3 := hB3.c0 hx9
  replace hE := hE.t0 hx9
  refine rR 12 hf rfl ?_
  clear hf a; intro a hf
  exact rT (rs := [.tmp 2]) hf rfl ⟨_, _, rfl, rfl, rfl⟩ ⟨ret_b (by rw [shapedT, hbw]; simp), hE⟩
theorem shapedR : ∀ N, ShapedROk N
  | 0 => fun t _ _ _ _ _ _ hN => by cases t; simp only [tsize] at hN; omega
  | N + 1 => shapedR_step (shapedR N)
end Go.Proofs.Ythpjpngfghcmcaa
