/- Contracts of the functions that the law reaches, part 3. -/
import Derived.Test.YtkkkpdbnnjoepaaGreatDoorTb2
set_option linter.unusedVariables false
set_option linter.unusedSimpArgs false
namespace Go.Proofs.YtkkkpdbnnjoepaaGreatDoor
open Go.RowKit Lx Sx
section
variable {α β : Type} [DecidableEq α]
def mlook (a : α) : List (α × β) → Option β
 | [] => none
 | p :: r => if p.1 = a then some p.2 else mlook a r
def mput (a : α) (b : β) : List (α × β) → List (α × β)
 | [] => [(a, b)]
 | p :: r => if p.1 = a then (a, b) :: r else p :: mput a b r
theorem pf (a c : α) (b : β) : ∀ l : List (α × β), mlook c (mput a b l) = if c = a then some b else mlook c l
 | [] => by
  simp only [mput, mlook]
  by_cases h : c = a
  ·rw [if_pos h, if_pos h.symm]
  ·rw [if_neg h, if_neg (fun e => h e.symm)]
 | p :: r => by
  simp only [mput]
  split
  ·rename_i hp
   simp only [mlook]
   by_cases h : c = a
   ·rw [if_pos h, if_pos h.symm]
   ·rw [if_neg h, if_neg (fun e => h e.symm), if_neg (fun e => h (by rw [← e, hp]))]
  ·rename_i hp
   simp only [mlook, pf a c b r]
   by_cases h : p.1 = c
   ·rw [if_pos h, if_pos h, if_neg (fun e => hp (by rw [h, e]))]
   ·rw [if_neg h, if_neg h]
def iv (a : α) : List (α × β) → List MapEntry → Nat → Option (Nat × Value)
 | p :: r, e :: es, i => if p.1 = a then some (i, e.val) else iv a r es (i + 1)
 | _, _, _ => none
end
structure KeyT (P : Program) (kt : TypeId) (α : Type) [DecidableEq α] (enc : α → V) where
 val : α → Value
 rel : ∀ a S w ρ x, VRel S w ρ (enc a) x ↔ x = val a
 chk : ∀ w em a, (Instr.checkKey em 10000 kt (val a)).run P w = .ok () w
 fnd : ∀ w a (β : Type) (l : List (α × β)) (es : List MapEntry), es.map (·.key) = l.map (fun p => val p.1) → (Instr.findKey kt (val a) es).run P w = .ok (iv a l es 0) w
 stay : ∀ w a, (Instr.keyThatStays (val a) (val a)).run P w = .ok (val a) w
section
variable {P : Program} {α β : Type} [DecidableEq α] {enc : α → V} {kt : TypeId}
theorem mV (val : α → Value) (a : α) : ∀ (l : List (α × β)) (es : List MapEntry) (i : Nat), es.map (·.key) = l.map (fun p => val p.1) →
  (iv a l es i = none ∧ mlook a l = none ∧ ∀ b, mput a b l = l ++ [(a, b)]) ∨ ∃ j e d, iv a l es i = some (i + j, e.val) ∧ es[j]? = some e ∧ e.key = val a ∧ l[j]? = some (a, d) ∧ mlook a l = some d ∧ ∀ b, mput a b l = l.set j (a, b)
 | [], [], i, h => .inl ⟨rfl, rfl, fun b => rfl⟩
 | [], e :: es, i, h => by simp at h
 | p :: r, [], i, h => by simp at h
 | p :: r, e :: es, i, h => by
  simp only [List.map_cons, List.cons.injEq] at h
  by_cases hp : p.1 = a
  ·refine .inr ⟨0, e, p.2, by simp only [iv, if_pos hp]; rfl, rfl, by rw [h.1, hp], by rw [← hp]; rfl, by simp only [mlook, if_pos hp], fun b => by simp only [mput, if_pos hp]; rfl⟩
  ·rcases mV val a r es (i + 1) h.2 with ⟨h1, h2, h3⟩ | ⟨j, e', d, h1, h2, h3, h4, h5, h6⟩
   ·exact .inl ⟨by simp only [iv, if_neg hp, h1], by simp only [mlook, if_neg hp, h2], fun b => by simp only [mput, if_neg hp, h3 b]; rfl⟩
   ·exact .inr ⟨j + 1, e', d, by simp only [iv, if_neg hp, h1, show i + 1 + j = i + (j + 1) by omega], by simpa using h2, h3, by simpa using h4, by simp only [mlook, if_neg hp, h5], fun b => by simp only [mput, if_neg hp, h6 b]; rfl⟩
theorem jW {val : α → Value} {w : World} (hs : ∀ a b, (Op.equal kt (val a) (val b)).run P w = .ok (decide (b = a)) w) (a : α) : ∀ (l : List (α × β)) (es : List MapEntry) (i : Nat), es.map (·.key) = l.map (fun p => val p.1) → (Instr.findAsking kt (val a) es i).run P w = .ok (iv a l es i) w
 | [], [], i, h => by simp [Instr.findAsking, iv]
 | [], e :: es, i, h => by simp at h
 | p :: r, [], i, h => by simp at h
 | p :: r, e :: es, i, h => by
  simp only [List.map_cons, List.cons.injEq] at h
  unfold Instr.findAsking
  by_cases hp : p.1 = a
  ·simp [h.1, hs, hp, iv]
  ·have := jW hs a r es (i + 1) h.2
   simp [h.1, hs, hp, iv, this]
theorem mP {w : World} {f0 f1 : Field} {a b c d : Value} {x y : Bool} (ht : P.underlying kt = some (.struct #[f0, f1])) (hs : P.stoodInHeld kt = false) (n0 : (f0.name != "_") = true) (n1 : (f1.name != "_") = true) (o0 : f0.offset = 0) (o1 : f1.offset = 1) (p0 : P.plainKey f0.type = true) (p1 : P.plainKey f1.type = true)
  (h0 : (Op.equalIn 9999 f0.type a c).run P w = .ok x w) (h1 : (Op.equalIn 9999 f1.type b d).run P w = .ok y w) : (Op.equal kt (.agg #[a, b]) (.agg #[c, d])).run P w = .ok (x && y) w := by
 have hf : P.fieldsOf kt = #[f0, f1] := by simp [Program.fieldsOf, ht]
 show (Op.equalIn (9999 + 1) kt (.agg #[a, b]) (.agg #[c, d])).run P w = _
 rw [run_equalIn_struct w 9999 kt _ _ (by rw [ht, hf]) hs, hf]
 have q0 := run_part_plain w p0 (xs := #[a, b]) (off := f0.offset) (v := a) (by rw [o0]; rfl)
 have q1 := run_part_plain w p0 (xs := #[c, d]) (off := f0.offset) (v := c) (by rw [o0]; rfl)
 have q2 := run_part_plain w p1 (xs := #[a, b]) (off := f1.offset) (v := b) (by rw [o1]; rfl)
 have q3 := run_part_plain w p1 (xs := #[c, d]) (off := f1.offset) (v := d) (by rw [o1]; rfl)
 have m0 : f0.name ≠ "_" := by simpa using n0
 have m1 : f1.name ≠ "_" := by simpa using n1
 cases x <;> cases y <;> simp [Op.eqFields, m0, m1, q0, q1, q2, q3, h0, h1, Result.andThen]
theorem uB {w : World} {f0 f1 : Field} {a b : Value} {em : Bool} (ht : P.underlying kt = some (.struct #[f0, f1])) (n0 : (f0.name != "_") = true) (n1 : (f1.name != "_") = true) (o0 : f0.offset = 0) (o1 : f1.offset = 1) (p0 : P.plainKey f0.type = true) (p1 : P.plainKey f1.type = true)
  (h0 : (Instr.checkKey em 9999 f0.type a).run P w = .ok () w) (h1 : (Instr.checkKey em 9999 f1.type b).run P w = .ok () w) : (Instr.checkKey em 10000 kt (.agg #[a, b])).run P w = .ok () w := by
 show (Instr.checkKey em (9999 + 1) kt (.agg #[a, b])).run P w = _
 have q0 := run_part_plain w p0 (xs := #[a, b]) (off := f0.offset) (v := a) (by rw [o0]; rfl)
 have q2 := run_part_plain w p1 (xs := #[a, b]) (off := f1.offset) (v := b) (by rw [o1]; rfl)
 have m0 : f0.name ≠ "_" := by simpa using n0
 have m1 : f1.name ≠ "_" := by simpa using n1
 unfold Instr.checkKey
 simp only [Sem.run_bind, run_underlying ht, Result.andThen_ok]
 rw [← Array.forIn_toList]
 simp [m0, m1, q0, q2, h0, h1, Result.andThen]
def Ch {γ : Type} [DecidableEq γ] {f0 f1 : Field} (g0 g1 : γ → Int) (hg : ∀ x y, g0 x = g0 y → g1 x = g1 y → x = y) (ht : P.underlying kt = some (.struct #[f0, f1])) (hs : P.stoodInHeld kt = false) (n0 : (f0.name != "_") = true) (n1 : (f1.name != "_") = true) (o0 : f0.offset = 0) (o1 : f1.offset = 1) (u0 : P.underlying f0.type = some (.int .i64)) (u1 : P.underlying f1.type = some (.int .i64)) : KeyT P kt γ (fun x => .agg [.int .i64 (g0 x), .int .i64 (g1 x)]) where
 val x := .agg #[.int .i64 (g0 x), .int .i64 (g1 x)]
 rel a S w ρ x := by
  simp only [VRel, LRel]
  constructor
  ·rintro ⟨xs, rfl, _, _, rfl, rfl, _, _, rfl, rfl, rfl⟩; rfl
  ·rintro rfl; exact ⟨_, rfl, _, _, rfl, rfl, _, _, rfl, rfl, rfl⟩
 chk w em a := uB ht n0 n1 o0 o1 (by simp [Program.plainKey, u0]) (by simp [Program.plainKey, u1])
  (by show (Instr.checkKey em (9998 + 1) f0.type _).run P w = _; unfold Instr.checkKey; simp [run_underlying u0])
  (by show (Instr.checkKey em (9998 + 1) f1.type _).run P w = _; unfold Instr.checkKey; simp [run_underlying u1])
 fnd w a β l es h := by
  rw [run_findKey_eq w (by simp [ht])]
  refine jW (val := fun x => Value.agg #[.int .i64 (g0 x), .int .i64 (g1 x)]) (fun x y => ?_) a l es 0 h
  rw [mP ht hs n0 n1 o0 o1 (by simp [Program.plainKey, u0]) (by simp [Program.plainKey, u1]) (run_equalIn_int w 9998 _ _ _ _ _ u0) (run_equalIn_int w 9998 _ _ _ _ _ u1)]
  congr 1
  by_cases e : y = x
  ·subst e; simp
  ·have : ¬ (g0 x = g0 y ∧ g1 x = g1 y) := fun h' => e (hg _ _ h'.1 h'.2).symm
   rw [decide_eq_false e]
   simpa using fun h0 h1 => this ⟨h0, h1⟩
 stay w a := by
  have : ∀ z : Int, Instr.sameBits 9999 (.int .i64 z) (.int .i64 z) = true := fun z => by unfold Instr.sameBits; simp
  have h2 : Instr.sameBits 10000 (.agg #[.int .i64 (g0 a), .int .i64 (g1 a)]) (.agg #[.int .i64 (g0 a), .int .i64 (g1 a)]) = true := by
   show Instr.sameBits (9999 + 1) _ _ = true
   unfold Instr.sameBits; simp [this]
  simp [Instr.keyThatStays, h2]
def Cc {γ : Type} [DecidableEq γ] {f0 f1 : Field} (g0 : γ → Int) (g1 : γ → List UInt8) (hg : ∀ x y, g0 x = g0 y → g1 x = g1 y → x = y) (ht : P.underlying kt = some (.struct #[f0, f1])) (hs : P.stoodInHeld kt = false) (n0 : (f0.name != "_") = true) (n1 : (f1.name != "_") = true) (o0 : f0.offset = 0) (o1 : f1.offset = 1) (u0 : P.underlying f0.type = some (.int .i64)) (u1 : P.underlying f1.type = some .string) : KeyT P kt γ (fun x => .agg [.int .i64 (g0 x), .str (g1 x)]) where
 val x := .agg #[.int .i64 (g0 x), .string ⟨(g1 x).toArray⟩]
 rel a S w ρ x := by
  simp only [VRel, LRel]
  constructor
  ·rintro ⟨xs, rfl, _, _, rfl, rfl, _, _, rfl, rfl, rfl⟩; rfl
  ·rintro rfl; exact ⟨_, rfl, _, _, rfl, rfl, _, _, rfl, rfl, rfl⟩
 chk w em a := uB ht n0 n1 o0 o1 (by simp [Program.plainKey, u0]) (by simp [Program.plainKey, u1])
  (by show (Instr.checkKey em (9998 + 1) f0.type _).run P w = _; unfold Instr.checkKey; simp [run_underlying u0])
  (by show (Instr.checkKey em (9998 + 1) f1.type _).run P w = _; unfold Instr.checkKey; simp [run_underlying u1])
 fnd w a β l es h := by
  rw [run_findKey_eq w (by simp [ht])]
  refine jW (val := fun x => Value.agg #[.int .i64 (g0 x), .string ⟨(g1 x).toArray⟩]) (fun x y => ?_) a l es 0 h
  rw [mP ht hs n0 n1 o0 o1 (by simp [Program.plainKey, u0]) (by simp [Program.plainKey, u1]) (run_equalIn_int w 9998 _ _ _ _ _ u0) (run_equalIn_string w 9998 _ _ _ u1)]
  congr 1
  have ey : ∀ l : List UInt8, (⟨l.toArray⟩ : ByteArray).toList = l := fun l => by simp
  rw [ey, ey]
  by_cases e : y = x
  ·subst e; simp
  ·have : ¬ (g0 x = g0 y ∧ g1 x = g1 y) := fun h' => e (hg _ _ h'.1 h'.2).symm
   rw [decide_eq_false e]
   simpa using fun h0 h1 => this ⟨h0, h1⟩
 stay w a := by
  have : ∀ z : Int, Instr.sameBits 9999 (.int .i64 z) (.int .i64 z) = true := fun z => by unfold Instr.sameBits; simp
  have h3 : ∀ z : ByteArray, Instr.sameBits 9999 (.string z) (.string z) = true := fun z => by unfold Instr.sameBits; rw [beq_toListBytes]; simp
  have h2 : Instr.sameBits 10000 (.agg #[.int .i64 (g0 a), .string ⟨(g1 a).toArray⟩]) (.agg #[.int .i64 (g0 a), .string ⟨(g1 a).toArray⟩]) = true := by
   show Instr.sameBits (9999 + 1) _ _ = true
   unfold Instr.sameBits; simp [this, h3]
  simp [Instr.keyThatStays, h2]
variable {S : Nat → Prop} {w w' : World} {ρ ρ' : Nat → Option Value} {h h' : Nat → Ob} {a : Act} {n : Nat} {ty : TypeId}
theorem re {t : TypeId} : Runs P a ty (.makeMap t none) w (.value (.map (some w.heap.size))) (w.alloc (.map #[] 0)) := fun _ _ _ _ => by
 simp only [execOp, Option.map_none]
 simp [run_makeMap]
theorem e_mkMap {t kt et : TypeId} {nid : Nat} (hr : HRel S w ρ h) (hf : h nid = .free) : Does P S w ρ h a ty (.makeMap t none) (some (.sl nid)) (aQ h nid (.mp kt et [] [])) (fun _ => False) := by
 have hc : Chg [] w (w.alloc (.map #[] 0)) := Chg.alloc w _
 refine ⟨_, _, bR ρ nid (.map (some w.heap.size)), re, eff_new hr hf hc ⟨w.heap.size, #[], 0, aB _ _ _, heap_alloc_new w _, by simp [LRel], by simp [LRel]⟩ (fun b hb => ?_), _, rfl, ?_⟩
 ·simp only [own] at hb
  rw [aB] at hb
  simp only [Option.some.injEq, Value.map.injEq] at hb
  omega
 ·simp only [VRel]; exact ⟨aB _ _ _, rfl⟩
def vj (c : Bool) (o : Option β) (encV : β → V) (zv : V) : V := match o with
 | some d => match c with | true => .tup [encV d, .bool true] | false => encV d
 | none => match c with | true => .tup [zv, .bool false] | false => zv
theorem yZ {id : Nat} {ks vs : List V} {et : TypeId} (hr : HRel S w ρ h) (ho : h id = .mp kt et ks vs) : ∃ b es clock, ρ id = some (.map (some b)) ∧ w.heap[b]? = some (.map es clock) ∧ LRel S w ρ0 ks (es.toList.map (·.key)) ∧ LRel S w ρ0 vs (es.toList.map (·.val)) := by
 have := hr.ob id
 rw [ho] at this
 exact this
theorem nT (D : KeyT P kt α enc) {f : β → α} : ∀ {l : List β} {xs : List Value}, LRel S w ρ0 (l.map fun p => enc (f p)) xs → xs = l.map fun p => D.val (f p)
 | [], xs, h => by simp only [List.map_nil, LRel] at h; simp [h]
 | p :: r, xs, h => by
  simp only [List.map_cons, LRel] at h
  obtain ⟨x, ys, rfl, h1, h2⟩ := h
  rw [(D.rel _ _ _ _ _).1 h1, nT D h2]; rfl
theorem rQ {f : β → V} : ∀ {l : List β} {xs : List Value} {j : Nat} {x : Value} {d : β}, LRel S w ρ0 (l.map f) xs → xs[j]? = some x → l[j]? = some d → VRel S w ρ0 (f d) x
 | [], xs, j, x, d, h, _, hd => by simp at hd
 | p :: r, xs, 0, x, d, h, hx, hd => by
  simp only [List.map_cons, LRel] at h
  obtain ⟨y, ys, rfl, h1, h2⟩ := h
  simp only [List.getElem?_cons_zero, Option.some.injEq] at hx hd
  subst hx hd; exact h1
 | p :: r, xs, j + 1, x, d, h, hx, hd => by
  simp only [List.map_cons, LRel] at h
  obtain ⟨y, ys, rfl, h1, h2⟩ := h
  exact rQ h2 (by simpa using hx) (by simpa using hd)
theorem tL (D : KeyT P kt α enc) {encV : β → V} {t et : TypeId} {x y : Operand} {id : Nat} {k : α} {l : List (α × β)} {c : Bool} {zv : V} {z : Value} (hr : HRel S w ρ h) (fr : Fr a n (fA a)) (hx : Opd S w ρ a x (.sl id)) (hy : Opd S w ρ a y (enc k)) (ho : h id = .mp kt et (l.map fun p => enc p.1) (l.map fun p => encV p.2)) (ht : P.underlying t = some (.map kt et)) (hz : (zeroValue et).run P w = .ok z w) (hzv : VRel S w ρ zv z) :
  Does P S w ρ h a ty (.lookup t x y c) (some (vj c (mlook k l) encV zv)) h (fun _ => False) := by
 obtain ⟨u, k1, k2⟩ := hx
 obtain ⟨q, k3, k4⟩ := hy
 simp only [VRel] at k2
 obtain ⟨b, es, ck, h1, h2, h3, h4⟩ := yZ hr ho
 rw [k2.1] at h1; cases h1
 rw [D.rel] at k4; subst k4
 have hks := nT D h3
 have hfd := D.fnd w k β l es.toList hks
 have key : ∀ v, (Instr.lookup t (.map (some b)) (D.val k) c).run P w = .ok v w → Runs P a ty (.lookup t x y c) w (.value v) w := fun v hv _ _ _ _ => by
  simp only [execOp, fr.eval k1, fr.eval k3]
  simp [hv]
 rcases mV D.val k l es.toList 0 hks with ⟨g1, g2, _⟩ | ⟨j, e, d, g1, g2, g3, g4, g5, _⟩
 ·rw [g1] at hfd
  refine ⟨_, w, ρ, key (if c then .tuple #[z, .bool false] else z) ?_, Eff.refl hr, _, rfl, ?_⟩
  ·simp [Instr.lookup, run_underlying ht, MapKept.run_getObj_map h2, D.chk, hfd, hz, Result.andThen]
  ·rw [g2]
   cases c with
   | true => simp only [vj, if_true, VRel]; exact ⟨[z, .bool false], rfl, z, _, rfl, hzv, _, _, rfl, rfl, rfl⟩
   | false => exact hzv
 ·rw [g1] at hfd
  have hv : VRel S w ρ (encV d) e.val := (rQ (f := fun p : α × β => encV p.2) h4 (by rw [List.getElem?_map, g2]; rfl) g4).up up0
  refine ⟨_, w, ρ, key (if c then .tuple #[e.val, .bool true] else e.val) ?_, Eff.refl hr, _, rfl, ?_⟩
  ·simp [Instr.lookup, run_underlying ht, MapKept.run_getObj_map h2, D.chk, hfd, Result.andThen]
  ·rw [g5]
   cases c with
   | true => simp only [vj, if_true, VRel]; exact ⟨[e.val, .bool true], rfl, e.val, _, rfl, hv, _, _, rfl, rfl, rfl⟩
   | false => exact hv
theorem AU (D : KeyT P kt α enc) {encV : β → V} {t et : TypeId} {x y z : Operand} {id : Nat} {k : α} {d : β} {l : List (α × β)} (hr : HRel S w ρ h) (fr : Fr a n (fA a)) (hx : Opd S w ρ a x (.sl id)) (hy : Opd S w ρ a y (enc k)) (hz : Opd S w ρ a z (encV d)) (hp : (encV d).pure = true) (ho : h id = .mp kt et (l.map fun p => enc p.1) (l.map fun p => encV p.2)) (ht : P.underlying t = some (.map kt et)) :
  Does P S w ρ h a ty (.mapUpdate t x y z) none (aQ h id (.mp kt et ((mput k d l).map fun p => enc p.1) ((mput k d l).map fun p => encV p.2))) (· = id) := by
 obtain ⟨u, k1, k2⟩ := hx
 obtain ⟨q, k3, k4⟩ := hy
 obtain ⟨v, k5, k6⟩ := hz
 simp only [VRel] at k2
 obtain ⟨b, es, ck, h1, h2, h3, h4⟩ := yZ hr ho
 rw [k2.1] at h1; cases h1
 rw [D.rel] at k4; subst k4
 have hks := nT D h3
 have hfd := D.fnd w k β l es.toList hks
 have hlt : b < w.heap.size := by
  rcases Nat.lt_or_ge b w.heap.size with h5 | h5
  ·exact h5
  ·rw [Array.getElem?_eq_none h5] at h2; cases h2
 have key : ∀ w', (Instr.mapUpdate t (.map (some b)) (D.val k) v).run P w = .ok () w' → Runs P a ty (.mapUpdate t x y z) w .skip w' := fun w' hv _ _ _ _ => by
  simp only [execOp, fr.eval k1, fr.eval k3, fr.eval k5]
  simp [hv]
 have hX : ∀ c, c ∈ [b] → own ρ id (h id) c := fun c hc => by simp only [List.mem_singleton] at hc; subst hc; rw [ho]; exact k2.1
 have hc : ∀ o, Chg [b] w { w with heap := w.heap.setIfInBounds b o } := fun o => ⟨rfl, rfl, rfl, by simp, fun c hc hcb => by
  simp only [List.mem_singleton] at hcb
  simp only [Array.getElem?_setIfInBounds]
  rw [if_neg (fun e => hcb e.symm)]⟩
 have hob : ∀ o, ({ w with heap := w.heap.setIfInBounds b o } : World).heap[b]? = some o := fun o => by simp [Array.getElem?_setIfInBounds, hlt]
 have up : ∀ o, Up S S w { w with heap := w.heap.setIfInBounds b o } ρ0 ρ0 := fun o => ⟨fun _ h => h, fun c hc' hcl => (hc o).block c hcl (fun hcb => by simp only [List.mem_singleton] at hcb; subst hcb; exact hr.sep id c (hX c (by simp)) hc'), fun _ _ h => h⟩
 have hown : ∀ ks vs c, own ρ id (.mp kt et ks vs) c → own ρ id (h id) c := fun ks vs c hb => by rw [ho]; exact hb
 have hv0 : VRel S w ρ0 (encV d) v := k6.pure hp
 rcases mV D.val k l es.toList 0 hks with ⟨g1, _, g3⟩ | ⟨j, e, d', g1, g2, g3, g4, _, g6⟩
 ·rw [g1] at hfd
  refine ⟨_, _, ρ, key { w with heap := w.heap.setIfInBounds b (.map (es.push ⟨D.val k, v, ck⟩) (ck + 1)) } ?_, nv hr (hc _) hX ⟨b, _, _, k2.1, hob _, ?_, ?_⟩ (hown _ _), rfl⟩
  ·simp [Instr.mapUpdate, run_underlying ht, MapKept.run_getObj_map h2, D.chk, hfd, MapKept.run_setObj_map _ h2, Result.andThen]
  ·rw [g3]
   simp only [List.map_append, List.map_cons, List.map_nil, Array.toList_push]
   exact (LRel.up (up _) h3).append ⟨_, _, rfl, (D.rel _ _ _ _ _).2 rfl, rfl⟩
  ·rw [g3]
   simp only [List.map_append, List.map_cons, List.map_nil, Array.toList_push]
   exact (LRel.up (up _) h4).append ⟨_, _, rfl, VRel.up (up _) hv0, rfl⟩
 ·rw [g1, Nat.zero_add] at hfd
  have hj : es[j]? = some e := by simpa using g2
  have hlist : (es.modify j (fun e' => { e' with key := D.val k, val := v })).toList = es.toList.set j { e with key := D.val k, val := v } := by rw [Array.toList_modify, ChangeMaps.modify_eq_set _ _ _ _ g2]
  refine ⟨_, _, ρ, key { w with heap := w.heap.setIfInBounds b (.map (es.modify j (fun e' => { e' with key := D.val k, val := v })) ck) } ?_, nv hr (hc _) hX ⟨b, _, _, k2.1, hob _, ?_, ?_⟩ (hown _ _), rfl⟩
  ·simp [Instr.mapUpdate, run_underlying ht, MapKept.run_getObj_map h2, D.chk, hfd, hj, g3, D.stay, MapKept.run_setObj_map _ h2, Result.andThen]
  ·rw [g6, hlist]
   simp only [List.map_set]
   exact (LRel.up (up _) h3).set ((D.rel _ _ _ _ _).2 rfl)
  ·rw [g6, hlist]
   simp only [List.map_set]
   exact (LRel.up (up _) h4).set (VRel.up (up _) hv0)
end
section
variable {P : Program} {T : Tab} {K : Ctx} {Q : Exit → Act → World → Prop} {p : EP} {s : List EI} {n : Nat} {F F1 : Fm} {H H1 : Hp} {α β : Type} [DecidableEq α] {enc : α → V} {kt : TypeId}
theorem dMM {t : TypeId} {ty : TypeId} (kt et : TypeId) : ∀ S w ρ a, HRel S w ρ H.get → FRel S w ρ a n F → Does P S w ρ H.get a ty (.makeMap t none) (some (.sl H.nx)) ((ED.new (.mp kt et [] [])).app H.get H.nx) (ED.new (.mp kt et [] [])).tch := fun S w ρ a hr hF =>
 e_mkMap hr H.get_free
theorem pF (D : KeyT P kt α enc) {encV : β → V} {t et : TypeId} {x y : Operand} {id : Nat} {k : α} {l : List (α × β)} {c : Bool} {zv v : V} {z : Value} {ty : TypeId} (hq : mlook k l = none) (ht : P.underlying t = some (.map kt et)) (hz : ∀ w, (zeroValue et).run P w = .ok z w) (hzv : zEq z zv = true) (hx : av F x = some (.sl id)) (hy : av F y = some (enc k)) (ho : H.get id = .mp kt et (l.map fun p => enc p.1) (l.map fun p => encV p.2)) (hv : (match c with | true => V.tup [zv, .bool false] | false => zv) = v) :
  ∀ S w ρ a, HRel S w ρ H.get → FRel S w ρ a n F → Does P S w ρ H.get a ty (.lookup t x y c) (some v) (ED.nop.app H.get H.nx) ED.nop.tch := fun S w ρ a hr hF => by
 have := tL (ty := ty) (c := c) (zv := zv) D hr hF.fr (aj hF hx) (aj hF hy) ho ht (hz w) (rJ hzv)
 rw [hq] at this
 subst hv
 exact this
theorem pQ (D : KeyT P kt α enc) {encV : β → V} {t et : TypeId} {x y : Operand} {id : Nat} {k : α} {l : List (α × β)} {c : Bool} {v : V} {z : Value} {ty : TypeId} {d : β} {zv : V} (hq : mlook k l = some d) (ht : P.underlying t = some (.map kt et)) (hz : ∀ w, (zeroValue et).run P w = .ok z w) (hzv : zEq z zv = true) (hx : av F x = some (.sl id)) (hy : av F y = some (enc k)) (ho : H.get id = .mp kt et (l.map fun p => enc p.1) (l.map fun p => encV p.2)) (hv : (match c with | true => V.tup [encV d, .bool true] | false => encV d) = v) :
  ∀ S w ρ a, HRel S w ρ H.get → FRel S w ρ a n F → Does P S w ρ H.get a ty (.lookup t x y c) (some v) (ED.nop.app H.get H.nx) ED.nop.tch := fun S w ρ a hr hF => by
 have := tL (ty := ty) (c := c) (zv := zv) D hr hF.fr (aj hF hx) (aj hF hy) ho ht (hz w) (rJ hzv)
 rw [hq] at this
 subst hv
 exact this
theorem yk (D : KeyT P kt α enc) {encV : β → V} {t et : TypeId} {x y z : Operand} {id : Nat} {k : α} {d : β} {l : List (α × β)} {v : V} {ty : TypeId} {ks vs : List V} (ht : P.underlying t = some (.map kt et)) (hx : av F x = some (.sl id)) (hy : av F y = some (enc k)) (hz : av F z = some v) (hv : v = encV d) (hp : v.pure = true) (ho : H.get id = .mp kt et (l.map fun p => enc p.1) (l.map fun p => encV p.2)) (hk : ((mput k d l).map fun p => enc p.1) = ks) (hvs : ((mput k d l).map fun p => encV p.2) = vs) :
  ∀ S w ρ a, HRel S w ρ H.get → FRel S w ρ a n F → Does P S w ρ H.get a ty (.mapUpdate t x y z) none ((ED.set id (.mp kt et ks vs)).app H.get H.nx) (ED.set id (.mp kt et ks vs)).tch := fun S w ρ a hr hF => by
 subst hv hk hvs
 exact AU D hr hF.fr (aj hF hx) (aj hF hy) (aj hF hz) hp ho ht
theorem okM {kt et : TypeId} {ks vs : List V} {id : Nat} {o' : Ob} (ho : H.get id = .mp kt et ks vs) : (ED.set id o').ok H.get := by exact ⟨by rw [ho]; simp, by rw [ho]; simp⟩
theorem gHM {kt et : TypeId} {ks vs : List V} (id : Nat) (ks' vs' : List V) (ho : H.get id = .mp kt et ks vs) (h1 : ks = ks') (h2 : vs = vs') (h3 : H.ap (.set id (.mp kt et ks' vs')) _root_.id = H1) (k : Go P K Q p s n F H1) : Go P K Q p s n F H := by
 subst h1 h2
 rw [Hp.ap_eq] at h3; subst h3
 have hg : (H.app (.set id (.mp kt et ks vs))).get = H.get := by
  rw [Hp.get_app (by exact ⟨by rw [ho]; simp, by rw [ho]; simp⟩)]
  exact sw ho
 intro S w ρ a hr hi hF
 exact k S w ρ a (by rw [id_eq, hg]; exact hr) (by rw [id_eq, hg]; exact hi) hF
theorem lkN : ay .nilp (.lk []) := fun S w ρ x h => by simp only [VRel, KRel] at h ⊢; exact h
theorem Bz : ay (.lk []) .nilp := fun S w ρ x h => by simp only [VRel, KRel] at h ⊢; exact h
theorem lkC {cs : List V} {r : List (List V)} {l : List V} (hl : l = cs ++ [.lk r]) : ay (.box l 0) (.lk (cs :: r)) := fun S w ρ x h => by
 subst hl
 simp only [VRel, KRel] at h ⊢
 obtain ⟨b, off, xs, rfl, h2, h3, h4, h5⟩ := h
 have hlen := h4.length
 rw [List.length_append, List.length_singleton] at hlen
 obtain ⟨ys, y, rfl⟩ : ∃ ys y, xs = ys ++ [y] := by
  rcases List.eq_nil_or_concat xs with e | ⟨ys, y, e⟩
  ·rw [e] at hlen; simp at hlen
  ·exact ⟨ys, y, by rw [e]; simp⟩
 have hy : ys.length = cs.length := by simpa using hlen
 have g1 := LRel.take (w := w) (S := S) (ρ := ρ0) cs.length h4
 have g2 := LRel.drop (w := w) (S := S) (ρ := ρ0) cs.length h4
 rw [List.take_append_of_le_length (Nat.le_refl _), List.take_length, List.take_append_of_le_length (by omega), ← hy, List.take_length] at g1
 rw [List.drop_append_of_le_length (Nat.le_refl _), List.drop_length, List.nil_append, List.drop_append_of_le_length (by omega), ← hy, List.drop_length, List.nil_append] at g2
 simp only [LRel] at g2
 obtain ⟨z, zs, e, hz, hzs⟩ := g2
 simp only [List.cons.injEq] at e
 obtain ⟨rfl, _⟩ := e
 refine ⟨b, off, ys, y, by simp, h2, h3, g1, by simpa only [VRel] using hz, hz.one rfl, fun j hj => h5 j (by simpa using hj)⟩
theorem Bf {cs : List V} {r : List (List V)} {l : List V} (hl : l = cs ++ [.lk r]) : ay (.lk (cs :: r)) (.box l 0) := fun S w ρ x h => by
 subst hl
 simp only [VRel, KRel] at h ⊢
 obtain ⟨b, off, xs, y, rfl, h2, h3, h4, h5, _, h7⟩ := h
 exact ⟨b, off, xs ++ [y], by simp, h2, h3, h4.append ⟨y, [], rfl, by simp only [VRel]; exact h5, rfl⟩, fun j hj => h7 j (by simpa using hj)⟩
theorem Bv {a b c d : Int} (h : (a == b && c == d) = true) : a = b ∧ c = d := by simpa using h
theorem Ay {a b c d : Int} (h : (a == b && c == d) = false) : ¬ (a = b ∧ c = d) := fun ⟨e1, e2⟩ => by subst e1 e2; simp at h
theorem sQ {neg : Bool} {f0 f1 : Field} {t u ty : TypeId} {x y : Operand} {a0 a1 b0 b1 : V} {x0 x1 y0 y1 : Value} {r0 r1 : Bool} (ht : P.underlying t = some (.struct #[f0, f1])) (hs : P.stoodInHeld t = false) (hm : P.eqGuardType P.depth t = false) (n0 : (f0.name != "_") = true) (n1 : (f1.name != "_") = true) (o0 : f0.offset = 0) (o1 : f1.offset = 1) (p0 : P.plainKey f0.type = true) (p1 : P.plainKey f1.type = true)
  (hx : av F x = some (.agg [a0, a1])) (hy : av F y = some (.agg [b0, b1])) (q0 : ∀ S w ρ z, VRel S w ρ a0 z → z = x0) (q1 : ∀ S w ρ z, VRel S w ρ a1 z → z = x1) (q2 : ∀ S w ρ z, VRel S w ρ b0 z → z = y0) (q3 : ∀ S w ρ z, VRel S w ρ b1 z → z = y1)
  (h0 : ∀ w, (Op.equalIn 9999 f0.type x0 y0).run P w = .ok r0 w) (h1 : ∀ w, (Op.equalIn 9999 f1.type x1 y1).run P w = .ok r1 w) :
  ∀ S w ρ a, HRel S w ρ H.get → FRel S w ρ a n F → Yld P S w ρ a ty (.binOp (if neg then .neq else .eql) t x y u) (.bool (if neg then !(r0 && r1) else (r0 && r1))) := fun S w ρ a hr hF => by
 obtain ⟨v, k1, k2⟩ := aj hF hx
 obtain ⟨v', k3, k4⟩ := aj hF hy
 simp only [VRel, LRel] at k2 k4
 obtain ⟨xs, rfl, z0, _, rfl, m0, z1, _, rfl, m1, rfl⟩ := k2
 obtain ⟨ys, rfl, z2, _, rfl, m2, z3, _, rfl, m3, rfl⟩ := k4
 rw [q0 _ _ _ _ m0, q1 _ _ _ _ m1] at k1
 rw [q2 _ _ _ _ m2, q3 _ _ _ _ m3] at k3
 refine ⟨.bool (if neg then !(r0 && r1) else (r0 && r1)), by simp only [VRel], fun w' _ _ _ _ _ => ?_⟩
 have he := fun w => mP (w := w) ht hs n0 n1 o0 o1 p0 p1 (h0 w) (h1 w)
 have he' : ∀ w, (Op.equalIn 10000 t (.agg #[x0, x1]) (.agg #[y0, y1])).run P w = .ok (r0 && r1) w := he
 simp only [execOp, hF.fr.eval k1, hF.fr.eval k3]
 cases neg
 ·simp [run_eqGuard_agg _ _ _ _ _ _ _ hm, run_eql_struct, he', Result.andThen]
 ·simp [run_eqGuard_agg _ _ _ _ _ _ _ hm, run_neq_struct, he', Result.andThen]
theorem qI {k : IntKind} {z : Int} : ∀ S w ρ x, VRel S w ρ (.int k z) x → x = Value.int k z := fun S w ρ x h => by simpa only [VRel] using h
theorem eI {t : TypeId} {a b : Int} (h : P.underlying t = some (.int .i64)) : ∀ w, (Op.equalIn 9999 t (.int .i64 a) (.int .i64 b)).run P w = .ok (a == b) w := fun w => run_equalIn_int w 9998 t _ _ a b h
theorem sa {w : World} {t e : TypeId} {neg : Bool} {x : Operand} {a : Act} {u ty : TypeId} {q : Option Addr} {f : Nat → Option Value} (hf : Fr a n f) (ht : P.underlying t = some (.pointer e)) (hx : aq f x = some (.pointer q)) : Runs P a ty (.binOp (if neg then .neq else .eql) t x (.const (.pointer none)) u) w (.value (.bool (if neg then q.isSome else q.isNone))) w := fun _ _ _ _ => by
 have hp : P.pointee t = e := by simp [Program.pointee, ht]
 have hu : P.underlying t = some (.pointer (P.pointee t)) := by rw [hp]; exact ht
 have he : (Op.equal t (.pointer q) (.pointer none)).run P w = .ok q.isNone w := run_equal_pointer_nil w t q hu
 have hc : a.eval (.const (.pointer none)) = .pointer none := rfl
 simp only [execOp, hf.eval hx, hc]
 cases neg
 ·have : (binOp .eql t (.pointer q) (.pointer none)).run P w = .ok (.bool q.isNone) w := by simp only [binOp]; simp [he]
  simp [eqGuard, this]
 ·have : (binOp .neq t (.pointer q) (.pointer none)).run P w = .ok (.bool !q.isNone) w := by simp only [binOp]; simp [he]
  cases q <;> simp_all [eqGuard]
section
variable {t e u ty : TypeId} {x : Operand}
theorem CK (ht : P.underlying t = some (.pointer e)) (hx : av F x = some .nilp) : ∀ S w ρ a, HRel S w ρ H.get → FRel S w ρ a n F → Yld P S w ρ a ty (.binOp .neq t x (.const (.pointer none)) u) (.bool false) := fun S w ρ a hr hF => by
 obtain ⟨y, h1, h2⟩ := aj hF hx
 simp only [VRel] at h2; subst h2
 exact ⟨.bool false, by simp only [VRel], fun w' _ => by have := sa (P := P) (w := w') (neg := true) (u := u) (ty := ty) hF.fr ht h1; simpa using this⟩
theorem CU {cs : List V} {o : Nat} (ht : P.underlying t = some (.pointer e)) (hx : av F x = some (.box cs o)) : ∀ S w ρ a, HRel S w ρ H.get → FRel S w ρ a n F → Yld P S w ρ a ty (.binOp .neq t x (.const (.pointer none)) u) (.bool true) := fun S w ρ a hr hF => by
 obtain ⟨y, h1, h2⟩ := aj hF hx
 simp only [VRel] at h2
 obtain ⟨b, off, xs, rfl, _⟩ := h2
 exact ⟨.bool true, by simp only [VRel], fun w' _ => by have := sa (P := P) (w := w') (neg := true) (u := u) (ty := ty) hF.fr ht h1; simpa using this⟩
end
end
section
variable {P : Program} {T : Tab} {n : Nat} {F : Fm} {H : Hp}
theorem yIP (hT : TabOk P T) {t e : TypeId} {x y : Operand} {len sz k o id r : Nat} {td tz : TD} {ty : TypeId} (ht : T.ty t = some tz) (hk : (match tz.kind with | .arr l e' => Nat.beq l len && Nat.beq e e' | _ => false) = true) (hte : T.ty e = some td) (hsz : td.size = sz) (hx : av F x = some (.ptr id o)) (hy : av F y = some (.int .i64 (k : Int))) (hlt : Nat.blt k len = true) (hl : o + k * sz = r) :
  ∀ S w ρ a, HRel S w ρ H.get → FRel S w ρ a n F → Yld P S w ρ a ty (.indexAddr t x y) (.ptr id r) := fun S w ρ a hr hF => by
 subst hl hsz
 obtain ⟨y0, h1, h2⟩ := aj hF hx
 simp only [VRel] at h2
 obtain ⟨b, h3, rfl⟩ := h2
 have harr : P.underlying t = some (.array len e) := by
  split at hk
  ·rename_i l e' he'
   simp only [Bool.and_eq_true] at hk
   have h3 := Nat.eq_of_beq_eq_true hk.1
   have h4 := Nat.eq_of_beq_eq_true hk.2
   subst h3 h4
   exact (hT.ty _ _ ht).arr he'
  ·cases hk
 exact ⟨_, by simp only [VRel]; exact ⟨b, h3, rfl⟩, fun w' _ => ux hF.fr harr (hT.ty _ _ hte).size h1 (aE (aj hF hy)) rfl (Nat.le_of_ble_eq_true hlt) rfl⟩
end
set_option maxRecDepth 100000
set_option maxHeartbeats 4000000
structure je where
 module : Int
 def_ : Int
abbrev je.c (x : je) : List V := [.int .i64 x.module, .int .i64 x.def_]
abbrev je.w (x : je) : V := .agg x.c
def oK (p0 : List Tree) (p1 p2 : Int) (r0 : Bool) : Prop := qS 35 [.row 4 (kidsV p0), .int .i64 p1, .int .i64 p2] (.bool r0)
section
variable {P : Program} {T : Tab} {K : Ctx} {Q : Exit → Act → World → Prop} {s : List EI} {n : Nat} {F F1 : Fm} {H H1 : Hp} {all : Array Oper} {rest : List Oper} {L : List Nat} {m fuel : Nat} {listed : Array Bool} {p : EP}
def eqL (H : Hp) : List (Nat × Ob) → Prop
 | [] => True
 | (j, o) :: r => H.get j = o ∧ eqL H r
theorem rt : ∀ {l : List (Nat × Ob)}, eqL H l → ∀ i, am l i = H.get i ∨ am l i = .gone
 | [], _, i => .inr rfl
 | (j, o) :: r, h, i => by
  simp only [eqL] at h
  by_cases hj : j = i
  ·subst hj
   left
   simp only [am, nbT]
   exact h.1.symm
  ·simp only [am, nbF hj]
   exact rt h.2 i
theorem gHn (H' : Hp) (hn : H'.nx = H.nx) (h : eqL H H'.es) (k : Go P K Q p s n F H') : Go P K Q p s n F H := fun S w ρ a hr hi hF => by
 have hh : ∀ i, H'.get i = H.get i ∨ H'.get i = .gone := fun i => by
  unfold Hp.get
  rw [hn]
  cases hb : Nat.blt i H.nx
  ·exact .inl rfl
  ·simp only []
   have := rt h i
   unfold Hp.get at this
   rw [hb] at this
   exact this
 exact k S w ρ a (hr.drop hh) (hi.drop hh) hF
theorem BF {f : Nat → Option Value} {a : Act} {w : World} {ty : TypeId} {t e : TypeId} {x y : Operand} {len sz : Nat} {cs : List Value} {k : Nat} (h : Fr a n f) (ht : P.underlying t = some (.array len e)) (hz : eZ P e = some sz) (hx : aq f x = some (.agg cs.toArray)) (hy : aq f y = some (.int .i64 (k : Int))) (hlt : k < len) :
  Runs P a ty (.index t x y) w (.value (.agg ((cs.drop (k * sz)).take sz).toArray)) w := fun _ _ _ _ => by
 have hA : (isAgg e).run P w = .ok true w ∧ (sizeOf e).run P w = .ok sz w := by
  unfold eZ at hz
  cases hu : P.underlying e with
  | none => rw [hu] at hz; cases hz
  | some d =>
   rw [hu] at hz
   cases d <;> first | cases hz | (obtain ⟨i, hi, hs⟩ := Option.map_eq_some_iff.1 hz; simp [isAgg, run_underlying hu, sizeOf, typeInfo, hi, hs])
 simp only [execOp, h.eval hx, h.eval hy]
 simp [Instr.index, asIntOf, run_underlying ht, part, hA.1, hA.2, hlt]
theorem uY (hT : TabOk P T) {t e : TypeId} {x y : Operand} {len sz k : Nat} {cs cs' : List V} {tz : TD} {ty : TypeId} (ht : T.ty t = some tz) (hk : (match tz.kind with | .arr l e' => Nat.beq l len && Nat.beq e e' | _ => false) = true) (he : eZ P e = some sz) (hx : av F x = some (.agg cs)) (hy : av F y = some (.int .i64 (k : Int))) (hlt : k < len) (hc : (cs.drop (k * sz)).take sz = cs') :
  ∀ S w ρ a, HRel S w ρ H.get → FRel S w ρ a n F → Yld P S w ρ a ty (.index t x y) (.agg cs') := fun S w ρ a hr hF => by
 subst hc
 obtain ⟨y0, h1, h2⟩ := aj hF hx
 simp only [VRel] at h2
 obtain ⟨xs, rfl, h3⟩ := h2
 have harr : P.underlying t = some (.array len e) := by
  split at hk
  ·rename_i l e' he'
   simp only [Bool.and_eq_true] at hk
   have h3 := Nat.eq_of_beq_eq_true hk.1
   have h4 := Nat.eq_of_beq_eq_true hk.2
   subst h3 h4
   exact (hT.ty _ _ ht).arr he'
  ·cases hk
 exact ⟨_, by simp only [VRel]; exact ⟨_, rfl, (h3.drop (k * sz)).take sz⟩, fun w' _ => BF hF.fr harr he h1 (aE (aj hF hy)) hlt⟩
theorem CG {fid : FuncId} {t : Tmp} {args : List Operand} {tys : Array TypeId} {vs caps us : List V} {v : V} {d : Option Tmp} {ty : TypeId} {ps : String} {af : Array Edge} {g : Option (Nat × Bool)} (i : Nat) (hS : kl P fid us v) (he : aU P fid = true) (hi : all[i]? = some ⟨d, .call { callee := .value (.tmp t), args := args.toArray, argTypes := tys }, ty, ps, af, g⟩) (hrd : Region.ready .any all listed = [i]) (hw : aH F all g = some true) (hf : av F (.tmp t) = some (.clo fid caps)) (hv : da F args = some vs) (hs : an (vs ++ caps) us) (hL : bk H.get L = true) (h1 : F.puto d (some v) id = F1)
  (k : Go P K Q (.drw all L m fuel (listed.setIfInBounds i true)) s n F1 H) : Go P K Q (.drw all L m (fuel + 1) listed) s n F H := fun S w ρ a hr hiv hF hsel => by
 rw [Fm.puto_eq] at h1; subst h1
 refine ic (S := S) hrd ?_
 obtain ⟨xs, h1, h2⟩ := gQ hF hv
 obtain ⟨y, h3, h4⟩ := aj hF hf
 simp only [VRel] at h4
 obtain ⟨ys, rfl, h5⟩ := h4
 have hc := oY (K := K) (H := H) hS hs L hL S w ρ (xs ++ ys) hr hiv (h2.append h5)
 unfold wpOp
 simp only [hi]
 rw [if_pos (bf hF hw)]
 refine .inl ?_
 have hx : (execOp a.eval ⟨d, .call { callee := .value (.tmp t), args := args.toArray, argTypes := tys }, ty, ps, af, g⟩).run P w = .ok (.enter fid (xs ++ ys).toArray) w := by
  have e : args.toArray.map a.eval = xs.toArray := by rw [← hF.fr.vals h1]; simp
  have e2 : a.eval (.tmp t) = .func (.func fid) #[] ys.toArray := hF.fr.eval h3
  simp only [execOp, resolve, e, e2]
  simp [Deferred.ofValue, invoke, eM he]
 unfold Oper.wp
 rw [hx, Oper.upon_enter]
 refine hc.mono fun e w1 hR => ?_
 obtain ⟨x, S', ρ', v', H', rfl, ⟨rfl, rfl⟩, hr', hi', hu, hvr, hls⟩ := hR
 have hk := k S' w1 ρ' _ hr' hi' (bm (hF.up hu) d hvr) hsel
 exact gD hu (fun b hb => hu.blk b hb (hr.slt b hb)) (.inl hls) hk
theorem mv {S : Nat → Prop} {w : World} {ρ : Nat → Option Value} : ∀ {l : List Int} {xs : List Value}, CRel S w ρ 1 (l.map (V.int .i64)) xs ↔ xs = l.map fun z => Value.int .i64 z
 | [], xs => by simp [CRel]
 | s :: r, xs => by
  simp only [List.map_cons, CRel]
  constructor
  ·rintro ⟨y, ys, rfl, _, h2, h3⟩
   simp only [VRel] at h2; subst h2
   rw [mv.1 h3]; rfl
  ·rintro rfl
   exact ⟨Value.int .i64 s, r.map fun z => Value.int .i64 z, rfl, ⟨rfl, rfl⟩, by simp only [VRel], mv.2 rfl⟩
theorem Bg {fid : FuncId} {i0 i1 s0 s1 s2 : Nat} {e0 e1 e : TypeId} {l0 l2 : List V} {r : List Int} (hS : aV [] P fid [.row s1 [.row s0 l0, .row s2 l2]] ⟨0, []⟩ (fun u G => u = .sl 0 ∧ G = ⟨1, [(0, .row e 1 (r.map (V.int .i64)))]⟩)) (ho1 : H.get i1 = .row e1 s1 [.sl i0, .row s2 l2]) (ho0 : H.get i0 = .row e0 s0 l0) (hne : Nat.beq i1 i0 = false) (hp : pureL l0 = true) (hL : bk H.get L = true) :
  CallR P K fid [.sl i1] H L (fun v' H'' => v' = .sl H.nx ∧ H'' = H.app (.new (.row e 1 (r.map (V.int .i64))))) := fun S w ρ xs hr hi hx => by
 have hne' : i1 ≠ i0 := Nat.ne_of_beq_eq_false hne
 simp only [LRel] at hx
 obtain ⟨x1, _, rfl, hx1, rfl⟩ := hx
 obtain ⟨f1, f2⟩ := cq (id := i0) hr
 obtain ⟨S1, hS1⟩ : ∃ S1 : Nat → Prop, S1 = fun b => S b ∨ own ρ i0 (H.get i0) b := ⟨_, rfl⟩
 have fz : ∀ x, VRel S w ρ (.sl i0) x → VRel S1 w ρ (.row s0 l0) x := fun x hx => by rw [hS1]; exact jJ hr ho0 hp hx
 rw [← hS1] at f1 f2
 have o1 : aQ H.get i0 .gone i1 = .row e1 s1 [.sl i0, .row s2 l2] := by rw [bg _ _ hne', ho1]
 obtain ⟨v, ys, q1, q2, q3⟩ := eK hr ho1
 have q3' : CRel S1 w ρ s1 [.row s0 l0, .row s2 l2] ys := by
  simp only [CRel] at q3 ⊢
  obtain ⟨a1, b1, rfl, c1, d1, a2, b2, rfl, c2, d2, rfl⟩ := q3
  exact ⟨a1, _, rfl, c1, fz _ d1, a2, _, rfl, c2, d2.up f2, rfl⟩
 have hr2 : HRel S1 w ρ (aQ (aQ H.get i0 .gone) i1 (.row e1 s1 [.row s0 l0, .row s2 l2])) := by
  have how : ∀ i b, own ρ i (aQ (aQ H.get i0 .gone) i1 (.row e1 s1 [.row s0 l0, .row s2 l2]) i) b → own ρ i (aQ H.get i0 .gone i) b := fun i b hb => by
   by_cases hii : i = i1
   ·subst hii
    rw [aO] at hb
    rw [o1]; exact hb
   ·rw [bg _ _ hii] at hb; exact hb
  refine ⟨fun i => ?_, fun i b hb => f1.sep i b (how i b hb), fun i j b h1 h2 => f1.dis i j b (how i b h1) (how j b h2), f1.slt⟩
  by_cases hii : i = i1
  ·subst hii
   rw [aO]
   exact ⟨v, ys, q1, q2, q3'⟩
  ·rw [bg _ _ hii]; exact f1.ob i
 have o2 : aQ (aQ H.get i0 .gone) i1 (.row e1 s1 [.row s0 l0, .row s2 l2]) i1 = .row e1 s1 [.row s0 l0, .row s2 l2] := aO _ _ _
 obtain ⟨g1, g2⟩ := cq (id := i1) hr2
 have hx2 := jJ hr2 o2 (by rfl) (x := x1) (by simpa only [VRel] using hx1)
 have hr0 : HRel (fun b => S1 b ∨ own ρ i1 (aQ (aQ H.get i0 .gone) i1 (.row e1 s1 [.row s0 l0, .row s2 l2]) i1) b) w ρ0 (⟨0, []⟩ : Hp).get := ⟨fun i => by rw [dZ]; rfl, fun i b hb => by rw [dZ] at hb; exact hb.elim, fun i j b hb _ => by rw [dZ] at hb; exact hb.elim, g1.slt⟩
 refine (hS _ w ρ0 [x1] hr0 ⟨x1, [], rfl, hx2.pure rfl, rfl⟩).mono fun e' w' hR => ?_
 obtain ⟨x, S', ρ', u, H', rfl, ⟨rfl, rfl⟩, hr', hi', hv⟩ := hR
 have hno : ∀ b, ¬ ∃ id, own ρ0 id ((⟨0, []⟩ : Hp).get id) b := fun b ⟨id, hb⟩ => by rw [dZ] at hb; exact hb
 have hc : Chg [] w w' := ⟨hi'.chg.os, hi'.chg.tape, hi'.chg.output, hi'.chg.size, fun b hb _ => hi'.chg.block b hb (hno b)⟩
 have oo : (⟨1, [(0, .row e 1 (r.map (V.int .i64)))]⟩ : Hp).get 0 = .row e 1 (r.map (V.int .i64)) := rfl
 obtain ⟨v', zs, k1, k2, k3⟩ := eK hr' oo
 simp only [VRel] at hv
 rw [hv.1] at k1
 injection k1 with k1; subst k1
 have he : Eff S w w' ρ (bR ρ H.nx x) H.get (aQ H.get H.nx (.row e 1 (r.map (V.int .i64)))) (fun _ => False) :=
  eff_new hr H.get_free hc ⟨x, zs, aB _ _ _, k2, mv.2 (mv.1 k3)⟩ (fun b hb => by
   obtain ⟨q, a1, a2⟩ := hb
   rw [aB] at a1
   injection a1 with a1; subst a1
   rcases hi'.ow 0 b (by rw [oo]; exact ⟨x, hv.1, a2⟩) with h | h
   ·exact absurd h (hno b)
   ·exact h)
 have hg : (H.app (.new (.row e 1 (r.map (V.int .i64))))).get = aQ H.get H.nx (.row e 1 (r.map (V.int .i64))) := Hp.get_app trivial
 refine ⟨x, S, bR ρ H.nx x, .sl H.nx, _, rfl, ⟨rfl, rfl⟩, by rw [hg]; exact he.hr, by rw [hg]; exact hi.eff he, he.up, by simp only [VRel]; exact ⟨aB _ _ _, hv.2⟩, fun id hid y b hy hb => ?_⟩
 exact hc.block b (cD (hr.ob id) (fK hr hL id hid y b hy hb)) (by simp)
theorem CT {fid : FuncId} {args : List Operand} {tys : Array TypeId} {i0 s0 s1 s2 : Nat} {e0 e1 e : TypeId} {l0 l2 : List V} {r : List Int} {d : Option Tmp} {ty : TypeId} {ps : String} {af : Array Edge} {g : Option (Nat × Bool)} (i1 : Nat) (hS : aV [] P fid [.row s1 [.row s0 l0, .row s2 l2]] ⟨0, []⟩ (fun u G => u = .sl 0 ∧ G = ⟨1, [(0, .row e 1 (r.map (V.int .i64)))]⟩)) (he : aU P fid = true) (hw : aH F all g = some true) (hv : da F args = some [.sl i1]) (ho1 : H.get i1 = .row e1 s1 [.sl i0, .row s2 l2]) (ho0 : H.get i0 = .row e0 s0 l0) (hne : Nat.beq i1 i0 = false) (hp : pureL l0 = true) (h1 : F.puto d (some (.sl H.nx)) id = F1) (h2 : H.ap (.new (.row e 1 (r.map (V.int .i64)))) id = H1)
  (kk : Go P K Q (.ops all rest) s n F1 H1) : Go P K Q (.ops all (⟨d, .call { callee := .value (.func fid), args := args.toArray, argTypes := tys }, ty, ps, af, g⟩ :: rest)) s n F H := by
 rw [Fm.puto_eq] at h1; rw [Hp.ap_eq] at h2; subst h1 h2
 exact go_opC (o := ⟨d, .call { callee := .value (.func fid), args := args.toArray, argTypes := tys }, ty, ps, af, g⟩) he rfl hw hv (Bg hS ho1 ho0 hne hp (L := []) rfl) fun v' H'' ⟨a1, a2⟩ => by subst a1 a2; exact kk
end
structure ae where
 At : GPlace
 Kind : Int
abbrev ae.c (x : ae) : List V := [.int .i64 x.At.Module, .row 1 (List.map (V.int .i64) x.At.Path), .int .i64 x.Kind]
abbrev ae.w (x : ae) : V := .agg x.c
theorem vH (σ : List Nat) (l) : renL σ (List.map ae.w l) = List.map ae.w l := si σ ae.w (fun _ => rfl) l
def jk (p0 : Int) (r0 : Bool) : Prop := qS 40 [.int .i64 p0] (.bool r0)
def ff (p0 p1 r0 : Int) : Prop := qS 23 [.int .i64 p0, .int .i64 p1] (.int .i64 r0)
def kx (p0 p1 : List Int) (r0 : Int) : Prop := qS 24 [.row 1 (List.map (V.int .i64) p0), .row 1 (List.map (V.int .i64) p1)] (.int .i64 r0)
def dh (p0 p1 : ae) (r0 : Int) : Prop := qS 22 [.agg (ae.c p0), .agg (ae.c p1)] (.int .i64 r0)
def bv (p0 : List ae) (p1 p2 : Int) (m0 : List ae) : Prop := aV [0] Tryz.prog 64 [.sl 0, .int .i64 p1, .int .i64 p2, .clo 22 []] ⟨1, [(0, .row 42 3 (List.map ae.w p0))]⟩ (fun u G => u = .tup [] ∧ G = ⟨1, [(0, .row 42 3 (List.map ae.w m0))]⟩)
def gw (p0 : List ae) (p1 : Int) (m0 : List ae) : Prop := aV [0] Tryz.prog 39 [.sl 0, .int .i64 p1, .clo 22 []] ⟨1, [(0, .row 42 3 (List.map ae.w p0))]⟩ (fun u G => u = .tup [] ∧ G = ⟨1, [(0, .row 42 3 (List.map ae.w m0))]⟩)
def aW (p0 m0 : List ae) : Prop := aV [0] Tryz.prog 21 [.sl 0, .clo 22 []] ⟨1, [(0, .row 42 3 (List.map ae.w p0))]⟩ (fun u G => u = .tup [] ∧ G = ⟨1, [(0, .row 42 3 (List.map ae.w m0))]⟩)
theorem qW (m : Nat) (p0 : Int) (r0 : Bool) (h : (p0 != p0) = r0) : jk p0 r0 := by
 refine ⟨rfl, rfl, ?_⟩
 refine al 6 [] Tryz.func40 rfl rfl rfl (aA rfl) fun K hK => ?_
 refine gR 14 rfl ?_
 subst h
 exact go_end ah (rs := [.tmp 2]) rfl rfl rfl
theorem pN (m : Nat) (p0 p1 r0 : Int) (h : ∃ b, jk p0 b ∧ ∃ a, jk p1 a ∧ ((b = true) → ((a = true) → 0 = r0) ∧ ((a = false) → (-1) = r0)) ∧ ((b = false) → ((a = true) → 1 = r0) ∧ ((a = false) → ((p0 < p1) → (-1) = r0) ∧ ((¬ p0 < p1) → ((p1 < p0) → 1 = r0) ∧ ((¬ p1 < p0) → 0 = r0))))) : ff p0 p1 r0 := by
 refine ⟨rfl, rfl, ?_⟩
 refine al 20 [] Tryz.func23 rfl rfl rfl (aA rfl) fun K hK => ?_
 refine gR 8 rfl ?_
 obtain ⟨b, hs3, h⟩ := h
 refine gC0 hs3 (by kernel_rfl) rfl rfl .rfl rfl <| gR 6 rfl ?_
 obtain ⟨a, hs4, h⟩ := h
 refine gC0 hs4 (by kernel_rfl) rfl rfl .rfl rfl <| gR 9 rfl <| gB 11 rfl rfl rfl ?_ ?_ <;> intro hd
 refine gT 5 rfl hd rfl ?_
 refine gT 8 rfl hd rfl ?_
 replace h := h.1 hd
 refine gR 7 rfl <| gB 12 rfl rfl rfl ?_ ?_ <;> intro hd
 refine gT 6 rfl hd rfl ?_
 refine gT 10 rfl hd rfl ?_
 replace h := h.1 hd
 refine gR 9 rfl ?_
 subst h
 exact go_end ah (rs := [.tmp 4]) rfl rfl rfl
 refine gF 6 rfl hd rfl ?_
 refine gF 10 rfl hd rfl ?_
 replace h := h.2 hd
 refine gR 10 rfl ?_
 subst h
 exact go_end ah (rs := [.tmp 4]) rfl rfl rfl
 refine gF 5 rfl hd rfl ?_
 refine gF 8 rfl hd rfl ?_
 replace h := h.2 hd
 refine gR 9 rfl <| gB 13 rfl rfl rfl ?_ ?_ <;> intro hd
 refine gT 6 rfl hd rfl ?_
 refine gT 10 rfl hd rfl ?_
 replace h := h.1 hd
 refine gR 8 rfl ?_
 subst h
 exact go_end ah (rs := [.tmp 4]) rfl rfl rfl
 refine gF 6 rfl hd rfl ?_
 refine gF 10 rfl hd rfl ?_
 replace h := h.2 hd
 refine gR 11 rfl <| qBd 16 rfl rfl rfl h (fun h => ?_) fun h => ?_
 refine gR 8 rfl ?_
 subst h
 exact go_end ah (rs := [.tmp 4]) rfl rfl rfl
 refine gR 11 rfl <| qBd 19 rfl rfl rfl h (fun h => ?_) fun h => ?_
 refine gR 8 rfl ?_
 subst h
 exact go_end ah (rs := [.tmp 4]) rfl rfl rfl
 refine gR 9 rfl ?_
 subst h
 exact go_end ah (rs := [.tmp 4]) rfl rfl rfl
def gv (m : Nat) (p0 p1 : List Int) (a : Nat) (r0 : Int) : Prop := ∀ (K : Ctx) (j1 : Nat), aG K [] → m ≤ j1 → qLG K Tryz.f24 (fun u _ => u = .int .i64 r0) (xC (cA (cB (ai Tryz.f24)))) [.loop (xC (cA (cB (ai Tryz.f24)))) j1, .blk 0, .seq (xA (ai Tryz.f24))] 36 (mkF 36 0 [(0, .row 1 (List.map (V.int .i64) p0)), (1, .row 1 (List.map (V.int .i64) p1)), (9, .row 1 (List.map (V.int .i64) p0)), (10, .int .i64 (p0.length : Int)), (11, .int .i64 (a : Int))]) ⟨0, []⟩
theorem nM (m : Nat) (p0 p1 : List Int) (r0 : Int) (h : gv m p0 p1 0 r0) : kx p0 p1 r0 := by
 refine ⟨rfl, rfl, ?_⟩
 refine al 36 [] Tryz.func24 rfl rfl rfl (aA rfl) fun K hK => ?_
 exact gR 10 rfl <| gV 10 (.int .i64 (p0.length : Int)) rfl (aM (aF (V.int .i64) _)) rfl <| gLB 9 rfl (aF (V.int .i64) _) fun hl11 => gR 4 rfl <| go_loop m <| gJ (h K _ hK (by omega)) [] [] rfl hK pq5 trivial rfl
theorem na (m : Nat) (p0 p1 : List Int) (a : Nat) (r0 : Int) (h : ((a < p0.length) → ∃ c, p0[a]? = some c ∧ ((p1.length ≤ a) → 1 = r0) ∧ ((¬ p1.length ≤ a) → ∃ d, p1[a]? = some d ∧ ∃ b, ff c d b ∧ ((b ≠ 0) → b = r0) ∧ ((b = 0) → a + 1 ≤ 9223372036854775807 ∧ gv m p0 p1 (a + 1) r0))) ∧ ((¬ a < p0.length) → ((p0.length < p1.length) → (-1) = r0) ∧ ((¬ p0.length < p1.length) → 0 = r0))) : gv (m + 1) p0 p1 a r0 := by
 intro K j1 hK hj1
 obtain ⟨j1, rfl⟩ : ∃ j, j1 = j + 1 := ⟨j1 - 1, by omega⟩
 refine gR 6 rfl <| gB 12 rfl rfl rfl ?_ ?_ <;> intro hd
 replace hd := (dO hd)
 replace h := h.1 hd
 refine gR 8 rfl ?_
 obtain ⟨c, hxn1_1, h⟩ := h
 refine gY (bx (mapget (f := (V.int .i64)) hxn1_1) ah rfl rfl rfl rfl) rfl rfl <| gR 11 rfl <| gV 18 (.int .i64 (p1.length : Int)) rfl (aM (aF (V.int .i64) _)) rfl <| gLB 17 rfl (aF (V.int .i64) _) fun hl12 => gR 3 rfl <| gB 19 rfl rfl rfl ?_ ?_ <;> intro hd
 replace hd := (Dd hd)
 replace h := h.1 hd
 refine gR 10 rfl <| go_xloopR <| gR 2 rfl ?_
 subst h
 exact go_end ah (rs := [.tmp 4]) rfl rfl rfl
 replace hd := (De hd)
 replace h := h.2 hd
 refine gR 7 rfl ?_
 obtain ⟨d, hxn1_2, h⟩ := h
 refine gY (bx (mapget (f := (V.int .i64)) hxn1_2) ah rfl rfl rfl rfl) rfl rfl <| gR 8 rfl ?_
 obtain ⟨b, hs13, h⟩ := h
 refine gC0 hs13 (by kernel_rfl) rfl rfl .rfl rfl <| gR 9 rfl <| gB 28 rfl rfl rfl ?_ ?_ <;> intro hd
 replace hd := (ec hd)
 replace h := h.1 hd
 refine gR 10 rfl <| go_xloopR <| gR 2 rfl ?_
 subst h
 exact go_end ah (rs := [.tmp 4]) rfl rfl rfl
 replace hd := (cP hd)
 replace h := h.2 hd
 refine gR 5 rfl ?_
 obtain ⟨hb, h⟩ := h
 exact gR 1 rfl <| gV 30 (.int .i64 ((a + 1 : Nat) : Int)) rfl (au (by omega) (by omega)) rfl <| gR 2 rfl <| go_xloop <| gJ (h K _ hK (by omega)) [] [] rfl hK pq5 trivial rfl
 replace hd := (dQ hd)
 replace h := h.2 hd
 refine gR 3 rfl <| go_xloopE <| gR 7 rfl <| gV 32 (.int .i64 (p0.length : Int)) rfl (aM (aF (V.int .i64) _)) rfl <| gLB 31 rfl (aF (V.int .i64) _) fun hl14 => gR 2 rfl <| gV 34 (.int .i64 (p1.length : Int)) rfl (aM (aF (V.int .i64) _)) rfl <| gLB 33 rfl (aF (V.int .i64) _) fun hl15 => gR 3 rfl <| gB 35 rfl rfl rfl ?_ ?_ <;> intro hd
 replace hd := (dO hd)
 replace h := h.1 hd
 refine gR 8 rfl ?_
 subst h
 exact go_end ah (rs := [.tmp 4]) rfl rfl rfl
 replace hd := (dQ hd)
 replace h := h.2 hd
 refine gR 9 rfl ?_
 subst h
 exact go_end ah (rs := [.tmp 4]) rfl rfl rfl
theorem mG (m : Nat) (p0 p1 : ae) (r0 : Int) (h : ∃ a, ff p0.At.Module p1.At.Module a ∧ ((a ≠ 0) → a = r0) ∧ ((a = 0) → ∃ b, kx p0.At.Path p1.At.Path b ∧ ((b ≠ 0) → b = r0) ∧ ((b = 0) → ∃ c, ff p0.Kind p1.Kind c ∧ c = r0))) : dh p0 p1 r0 := by
 refine ⟨rfl, rfl, ?_⟩
 refine al 32 [] Tryz.func22 rfl rfl rfl (aA rfl) fun K hK => ?_
 refine gR 3 rfl <| gFP 0 rfl rfl rfl rfl <| gR 1 rfl <| gFP 1 rfl rfl rfl rfl <| gR 12 rfl ?_
 obtain ⟨a, hs4, h⟩ := h
 refine gC0 hs4 (by kernel_rfl) rfl rfl .rfl rfl <| gR 9 rfl <| qBh 15 rfl rfl rfl h ec cP (fun h => ?_) fun h => ?_
 refine gR 9 rfl ?_
 subst h
 exact go_end ah (rs := [.tmp 4]) rfl rfl rfl
 refine gR 12 rfl ?_
 obtain ⟨b, hs5, h⟩ := h
 refine gC0 hs5 (by kernel_rfl) rfl rfl .rfl rfl <| gR 9 rfl <| qBh 25 rfl rfl rfl h ec cP (fun h => ?_) fun h => ?_
 refine gR 9 rfl ?_
 subst h
 exact go_end ah (rs := [.tmp 4]) rfl rfl rfl
 refine gR 9 rfl ?_
 obtain ⟨c, hs6, h⟩ := h
 refine gC0 hs6 (by kernel_rfl) rfl rfl .rfl rfl <| gR 4 rfl ?_
 subst h
 exact go_end ah (rs := [.tmp 4]) rfl rfl rfl
def aZ (m : Nat) (p1 p2 a : Int) (b m0 : List ae) : Prop := ∀ (K : Ctx) (j1 : Nat), aG K [0] → m ≤ j1 → qLG K Tryz.f64 (fun u G => u = .tup [] ∧ G = ⟨1, [(0, .row 42 3 (List.map ae.w m0))]⟩) (xC (ai Tryz.f64)) [.loop (xC (ai Tryz.f64)) j1, .blk 0] 53 (mkF 53 0 [(0, .sl 0), (1, .int .i64 p1), (2, .int .i64 p2), (3, .clo 22 []), (8, .int .i64 a)]) ⟨1, [(0, .row 42 3 (List.map ae.w b))]⟩
def ci (m : Nat) (p1 p2 : Int) (a : List ae) (b c : Int) (m0 : List ae) : Prop := ∀ (K : Ctx) (j1 j2 : Nat), aG K [0] → m ≤ j1 → m ≤ j2 → qLG K Tryz.f64 (fun u G => u = .tup [] ∧ G = ⟨1, [(0, .row 42 3 (List.map ae.w m0))]⟩) (xC (cK (cA (cB (xC (ai Tryz.f64)))))) [.loop (xC (cK (cA (cB (xC (ai Tryz.f64)))))) j1, .blk 2, .blk 1, .seq (xA (xC (ai Tryz.f64))), .loop (xC (ai Tryz.f64)) j2, .blk 0] 53 (mkF 53 0 [(0, .sl 0), (1, .int .i64 p1), (2, .int .i64 p2), (3, .clo 22 []), (8, .int .i64 c), (9, .int .i64 b)]) ⟨1, [(0, .row 42 3 (List.map ae.w a))]⟩
theorem iz (m : Nat) (p0 : List ae) (p1 p2 : Int) (m0 : List ae) (h : InI (p1 + 1) ∧ aZ m p1 p2 (p1 + 1) p0 m0) : bv p0 p1 p2 m0 := by
 refine al 53 [0] Tryz.func64 rfl rfl rfl (aA rfl) fun K hK => ?_
 refine gR 3 rfl ?_
 obtain ⟨hb, h⟩ := h
 exact gR 1 rfl <| gV 11 (.int .i64 (p1 + 1)) rfl (au hb rfl) rfl <| gR 4 rfl <| go_loop m <| gJ (h K _ hK (by omega)) [0] [0] rfl hK pq5 ⟨⟨_, rfl, rfl, rfl, (vH _ p0).symm⟩, trivial⟩ rfl
theorem dN (m : Nat) (p1 p2 b : Int) (a m0 : List ae) (h : ((b < p2) → ci m p1 p2 a b b m0) ∧ ((¬ b < p2) → a = m0)) : aZ (m + 1) p1 p2 b a m0 := by
 intro K j1 hK hj1
 obtain ⟨j1, rfl⟩ : ∃ j, j1 = j + 1 := ⟨j1 - 1, by omega⟩
 refine gR 8 rfl <| gB 14 rfl rfl rfl ?_ ?_ <;> intro hd
 replace hd := (of_decide_eq_true hd)
 replace h := h.1 hd
 exact gR 12 rfl <| go_loop m <| gJ (h K _ _ hK (by omega) (by omega)) [0] [0] rfl hK pq6 ⟨⟨_, rfl, rfl, rfl, (vH _ a).symm⟩, trivial⟩ rfl
 replace hd := (of_decide_eq_false hd)
 replace h := h.2 hd
 refine gR 3 rfl <| go_xloopE <| gR 1 rfl ?_
 subst h
 exact go_sub (F' := (mkF 53 0 [])) (H' := ⟨1, [(0, .row 42 3 (List.map ae.w a))]⟩) [0] [0] rfl hK trivial ⟨⟨_, rfl, rfl, rfl, (vH _ a).symm⟩, trivial⟩ rfl <| go_endD [] ah (rs := []) rfl rfl ⟨rfl, rfl⟩
theorem ig (m : Nat) (p1 p2 : Int) (b : List ae) (a g : Int) (m0 : List ae) (h : ((p1 < a) → ∃ k, a = ((k : Nat) : Int) ∧ ∃ q, b[k]? = some q ∧ InI (a - 1) ∧ ∃ l, (a - 1) = ((l : Nat) : Int) ∧ ∃ r, b[l]? = some r ∧ ∃ n, dh q r n ∧ ((n < 0) → InI (a - 1) ∧ InI (a - 1) ∧ ∃ o, (a - 1) = ((o : Nat) : Int) ∧ ∃ e, b[o]? = some e ∧ ∃ p, a = ((p : Nat) : Int) ∧ ∃ i, b[p]? = some i ∧ ∃ c, a = ((c : Nat) : Int) ∧ ∃ s, b[c]? = some s ∧ ∃ d, (a - 1) = ((d : Nat) : Int) ∧ ∃ t, (b.set c e)[d]? = some t ∧ InI (a - 1) ∧ ci m p1 p2 ((b.set c e).set d i) (a - 1) g m0) ∧ ((¬ n < 0) → InI (g + 1) ∧ aZ m p1 p2 (g + 1) b m0)) ∧ ((¬ p1 < a) → InI (g + 1) ∧ aZ m p1 p2 (g + 1) b m0)) : ci (m + 1) p1 p2 b a g m0 := by
 intro K j1 j2 hK hj1 hj2
 obtain ⟨j1, rfl⟩ : ∃ j, j1 = j + 1 := ⟨j1 - 1, by omega⟩
 obtain ⟨j2, rfl⟩ : ∃ j, j2 = j + 1 := ⟨j2 - 1, by omega⟩
 refine gR 2 rfl <| gDs [0] 14 17 rfl (by kernel_rfl) (by kernel_rfl) <| gDr [(0, 2), (1, 0), (2, 0), (3, 0)] (by kernel_rfl) rfl rfl <| gB 21 rfl rfl rfl ?_ ?_ <;> intro hd
 refine gT 20 rfl hd rfl ?_
 replace hd := (of_decide_eq_true hd)
 replace h := h.1 hd
 refine gDr [(4, 2), (5, 2), (6, 2)] (by kernel_rfl) rfl rfl ?_
 obtain ⟨k, y, h⟩ := h
 refine gV 24 (.int .i64 ((k : Nat) : Int)) rfl (cy y) rfl ?_
 obtain ⟨q, hxx2_2, h⟩ := h
 refine gYd 7 rfl (by kernel_rfl) (yIO ah rfl rfl rfl rfl (by have := (mapget (f := ae.w) hxx2_2); exact (List.getElem?_eq_some_iff.1 this).1)) rfl rfl ?_
 refine xH 8 rfl (by kernel_rfl) rfl ah rfl rfl rfl (mapget (f := ae.w) hxx2_2) rfl rfl ?_
 refine gDr [(9, 2), (10, 0)] (by kernel_rfl) rfl rfl ?_
 obtain ⟨hb, h⟩ := h
 refine gDr [(11, 0)] (by kernel_rfl) rfl rfl <| gV 29 (.int .i64 (a - 1)) rfl (au hb rfl) rfl ?_
 obtain ⟨l, z, h⟩ := h
 refine gV 29 (.int .i64 ((l : Nat) : Int)) rfl (cy z) rfl ?_
 obtain ⟨r, hxx2_4, h⟩ := h
 refine nh 12 rfl (by kernel_rfl) (yIO ah rfl rfl rfl rfl (by have := (mapget (f := ae.w) hxx2_4); exact (List.getElem?_eq_some_iff.1 this).1)) rfl rfl ?_
 refine eE 13 (.nop) rfl (by kernel_rfl) (dLe ah rfl rfl rfl (mapget (f := ae.w) hxx2_4) rfl) trivial rfl (by kernel_rfl) rfl rfl ?_
 obtain ⟨n, hs4, h⟩ := h
 refine CG 14 hs4 (by kernel_rfl) rfl (by kernel_rfl) rfl rfl rfl .rfl rfl rfl ?_
 refine gDr [(15, 1), (16, 1)] (by kernel_rfl) rfl rfl <| gDe (by kernel_rfl) <| gR 1 rfl <| gB 34 rfl rfl rfl ?_ ?_ <;> intro hd
 replace hd := (of_decide_eq_true hd)
 replace h := h.1 hd
 refine gR 5 rfl <| gDs [0] 15 18 rfl (by kernel_rfl) (by kernel_rfl) <| gDr [(0, 2), (1, 2), (2, 2), (3, 2)] (by kernel_rfl) rfl rfl ?_
 obtain ⟨hb, h⟩ := h
 refine gDr [(4, 2)] (by kernel_rfl) rfl rfl <| gV 41 (.int .i64 (a - 1)) rfl (au hb rfl) rfl <| gDr [(5, 2), (6, 2)] (by kernel_rfl) rfl rfl ?_
 obtain ⟨hb, h⟩ := h
 refine gDr [(7, 2)] (by kernel_rfl) rfl rfl <| gV 44 (.int .i64 (a - 1)) rfl (au hb rfl) rfl ?_
 obtain ⟨o, α, h⟩ := h
 refine gV 44 (.int .i64 ((o : Nat) : Int)) rfl (cy α) rfl ?_
 obtain ⟨e, hxx2_7, h⟩ := h
 refine gYd 8 rfl (by kernel_rfl) (yIO ah rfl rfl rfl rfl (by have := (mapget (f := ae.w) hxx2_7); exact (List.getElem?_eq_some_iff.1 this).1)) rfl rfl ?_
 refine xH 9 rfl (by kernel_rfl) rfl ah rfl rfl rfl (mapget (f := ae.w) hxx2_7) rfl rfl ?_
 refine gDr [(10, 2), (11, 0)] (by kernel_rfl) rfl rfl ?_
 obtain ⟨p, β, h⟩ := h
 refine gV 48 (.int .i64 ((p : Nat) : Int)) rfl (cy β) rfl ?_
 obtain ⟨i, hxx2_9, h⟩ := h
 refine nh 12 rfl (by kernel_rfl) (yIO ah rfl rfl rfl rfl (by have := (mapget (f := ae.w) hxx2_9); exact (List.getElem?_eq_some_iff.1 this).1)) rfl rfl ?_
 refine eE 13 (.nop) rfl (by kernel_rfl) (dLe ah rfl rfl rfl (mapget (f := ae.w) hxx2_9) rfl) trivial rfl (by kernel_rfl) rfl rfl ?_
 obtain ⟨c, v, h⟩ := h
 refine gV 38 (.int .i64 ((c : Nat) : Int)) rfl (cy v) rfl ?_
 obtain ⟨s, hxx2_11, h⟩ := h
 refine nh 14 rfl (by kernel_rfl) (yIO ah rfl rfl rfl rfl (by have := (mapget (f := ae.w) hxx2_11); exact (List.getElem?_eq_some_iff.1 this).1)) rfl rfl ?_
 refine eE 15 (.set 0 (.row 42 3 (List.map ae.w (b.set c e)))) rfl (by kernel_rfl) (dSe ah rfl rfl rfl rfl (mapget (f := ae.w) hxx2_11) rfl (AJ ae.w b c e)) (okS rfl) rfl (by kernel_rfl) rfl rfl ?_
 obtain ⟨d, x, h⟩ := h
 refine gV 41 (.int .i64 ((d : Nat) : Int)) rfl (cy x) rfl ?_
 obtain ⟨t, hxx2_13, h⟩ := h
 refine nh 16 rfl (by kernel_rfl) (yIO ah rfl rfl rfl rfl (by have := (mapget (f := ae.w) hxx2_13); exact (List.getElem?_eq_some_iff.1 this).1)) rfl rfl ?_
 refine eE 17 (.set 0 (.row 42 3 (List.map ae.w ((b.set c e).set d i)))) rfl (by kernel_rfl) (dSe ah rfl rfl rfl rfl (mapget (f := ae.w) hxx2_13) rfl (AJ ae.w (b.set c e) d i)) (okS rfl) rfl (by kernel_rfl) rfl rfl ?_
 refine gDe (by kernel_rfl) <| gR 4 rfl ?_
 obtain ⟨hb, h⟩ := h
 exact gR 1 rfl <| gV 36 (.int .i64 (a - 1)) rfl (au hb rfl) rfl <| gR 2 rfl <| go_xloop <| gJ (h K _ _ hK (by omega) (by omega)) [0] [0] rfl hK pq6 ⟨⟨_, rfl, rfl, rfl, (vH _ ((b.set c e).set d i)).symm⟩, trivial⟩ rfl
 replace hd := (of_decide_eq_false hd)
 replace h := h.2 hd
 refine gR 3 rfl <| go_xloopE <| gR 5 rfl ?_
 obtain ⟨hb, h⟩ := h
 exact gR 1 rfl <| gV 16 (.int .i64 (g + 1)) rfl (au hb rfl) rfl <| gR 2 rfl <| go_xloop <| gJ (h K _ hK (by omega)) [0] [0] rfl hK pq5 ⟨⟨_, rfl, rfl, rfl, (vH _ b).symm⟩, trivial⟩ rfl
 refine gF 20 rfl hd rfl ?_
 replace hd := (of_decide_eq_false hd)
 replace h := h.2 hd
 refine gDr [(4, 2), (5, 2), (6, 2), (7, 2), (8, 2), (9, 2), (10, 0), (11, 0), (12, 0), (13, 0), (14, 0), (15, 0), (16, 1)] (by kernel_rfl) rfl rfl <| gDe (by kernel_rfl) <| gR 4 rfl <| go_xloopE <| gR 5 rfl ?_
 obtain ⟨hb, h⟩ := h
 exact gR 1 rfl <| gV 16 (.int .i64 (g + 1)) rfl (au hb rfl) rfl <| gR 2 rfl <| go_xloop <| gJ (h K _ hK (by omega)) [0] [0] rfl hK pq5 ⟨⟨_, rfl, rfl, rfl, (vH _ b).symm⟩, trivial⟩ rfl
def dP (m : Nat) (p1 : Int) (a : List ae) (b c : Nat) (m0 : List ae) : Prop := ∀ (K : Ctx) (j1 : Nat), aG K [0] → m ≤ j1 → qLG K Tryz.f39 (fun u G => u = .tup [] ∧ G = ⟨1, [(0, .row 42 3 (List.map ae.w m0))]⟩) (xB (xD (ai Tryz.f39))) [.loop (xB (xD (ai Tryz.f39))) j1, .blk 0, .seq (xF (ai Tryz.f39))] 63 (mkF 63 0 [(0, .sl 0), (1, .int .i64 p1), (2, .clo 22 []), (6, .int .i64 20), (7, .int .i64 (b : Int)), (8, .int .i64 (c : Int))]) ⟨1, [(0, .row 42 3 (List.map ae.w a))]⟩
def gi (m : Nat) (p1 : Int) (a : List ae) (b : Int) (m0 : List ae) : Prop := ∀ (K : Ctx) (j1 : Nat), aG K [0] → m ≤ j1 → qLG K Tryz.f39 (fun u G => u = .tup [] ∧ G = ⟨1, [(0, .row 42 3 (List.map ae.w m0))]⟩) (xB (xG (ai Tryz.f39))) [.loop (xB (xG (ai Tryz.f39))) j1, .blk 2] 63 (mkF 63 0 [(0, .sl 0), (1, .int .i64 p1), (2, .clo 22 []), (6, .int .i64 b)]) ⟨1, [(0, .row 42 3 (List.map ae.w a))]⟩
def kG (m : Nat) (p1 : Int) (a : List ae) (b c d : Int) (m0 : List ae) : Prop := ∀ (K : Ctx) (j1 j2 : Nat), aG K [0] → m ≤ j1 → m ≤ j2 → qLG K Tryz.f39 (fun u G => u = .tup [] ∧ G = ⟨1, [(0, .row 42 3 (List.map ae.w m0))]⟩) (xB (cA (cB (cK (cB (xB (xG (ai Tryz.f39)))))))) [.loop (xB (cA (cB (cK (cB (xB (xG (ai Tryz.f39)))))))) j1, .blk 4, .seq (xA (cK (cB (xB (xG (ai Tryz.f39)))))), .blk 3, .loop (xB (xG (ai Tryz.f39))) j2, .blk 2] 63 (mkF 63 0 [(0, .sl 0), (1, .int .i64 p1), (2, .clo 22 []), (6, .int .i64 d), (7, .int .i64 b), (8, .int .i64 c)]) ⟨1, [(0, .row 42 3 (List.map ae.w a))]⟩
theorem kE (m : Nat) (p0 : List ae) (p1 : Int) (m0 : List ae) (h : dP m p1 p0 0 20 m0) : gw p0 p1 m0 := by
 refine al 63 [0] Tryz.func39 rfl rfl rfl (aA rfl) fun K hK => ?_
 exact gR 14 rfl <| go_loop m <| gJ (h K _ hK (by omega)) [0] [0] rfl hK pq6 ⟨⟨_, rfl, rfl, rfl, (vH _ p0).symm⟩, trivial⟩ rfl
theorem kg (m : Nat) (p1 : Int) (d : List ae) (e a : Nat) (m0 : List ae) (h : (((a : Int) ≤ p1) → ∃ b, bv d (e : Int) (a : Int) b ∧ a + 20 ≤ 9223372036854775807 ∧ dP m p1 b a (a + 20) m0) ∧ ((¬ (a : Int) ≤ p1) → ∃ c, bv d (e : Int) p1 c ∧ gi m p1 c 20 m0)) : dP (m + 1) p1 d e a m0 := by
 intro K j1 hK hj1
 obtain ⟨j1, rfl⟩ : ∃ j, j1 = j + 1 := ⟨j1 - 1, by omega⟩
 refine gR 8 rfl <| gB 13 rfl rfl rfl ?_ ?_ <;> intro hd
 replace hd := (of_decide_eq_true hd)
 replace h := h.1 hd
 refine gR 10 rfl ?_
 obtain ⟨b, hs13, h⟩ := h
 refine gCZ hs13 [0] ⟨⟨_, rfl, ⟨rfl, rfl, (vH _ d).symm⟩⟩, trivial⟩ ?_
 refine gHR 0 (List.map ae.w b) rfl (vH _ b) rfl <| gR 11 rfl ?_
 obtain ⟨hb, h⟩ := h
 exact gR 1 rfl <| gV 22 (.int .i64 ((a + 20 : Nat) : Int)) rfl (au (by omega) (by omega)) rfl <| gR 3 rfl <| go_xloop <| gJ (h K _ hK (by omega)) [0] [0] rfl hK pq6 ⟨⟨_, rfl, rfl, rfl, (vH _ b).symm⟩, trivial⟩ rfl
 replace hd := (of_decide_eq_false hd)
 replace h := h.2 hd
 refine gR 3 rfl <| go_xloopE <| gR 8 rfl ?_
 obtain ⟨c, hs14, h⟩ := h
 refine gCZ hs14 [0] ⟨⟨_, rfl, ⟨rfl, rfl, (vH _ d).symm⟩⟩, trivial⟩ ?_
 exact gHR 0 (List.map ae.w c) rfl (vH _ c) rfl <| gR 3 rfl <| go_loop m <| gJ (h K _ hK (by omega)) [0] [0] rfl hK pq4 ⟨⟨_, rfl, rfl, rfl, (vH _ c).symm⟩, trivial⟩ rfl
theorem ky (m : Nat) (p1 : Int) (a : List ae) (b : Int) (m0 : List ae) (h : ((b < p1) → InI (2 * b) ∧ kG m p1 a 0 (2 * b) b m0) ∧ ((¬ b < p1) → a = m0)) : gi (m + 1) p1 a b m0 := by
 intro K j1 hK hj1
 obtain ⟨j1, rfl⟩ : ∃ j, j1 = j + 1 := ⟨j1 - 1, by omega⟩
 refine gR 8 rfl <| gB 30 rfl rfl rfl ?_ ?_ <;> intro hd
 replace hd := (of_decide_eq_true hd)
 replace h := h.1 hd
 refine gR 7 rfl ?_
 obtain ⟨hb, h⟩ := h
 exact gY (Dc rfl rfl hb) rfl rfl <| gR 6 rfl <| go_loop m <| gJ (h K _ _ hK (by omega) (by omega)) [0] [0] rfl hK pq6 ⟨⟨_, rfl, rfl, rfl, (vH _ a).symm⟩, trivial⟩ rfl
 replace hd := (of_decide_eq_false hd)
 replace h := h.2 hd
 refine gR 3 rfl <| go_xloopE <| gR 1 rfl ?_
 subst h
 exact go_sub (F' := (mkF 63 0 [])) (H' := ⟨1, [(0, .row 42 3 (List.map ae.w a))]⟩) [0] [0] rfl hK trivial ⟨⟨_, rfl, rfl, rfl, (vH _ a).symm⟩, trivial⟩ rfl <| go_endD [] ah (rs := []) rfl rfl ⟨rfl, rfl⟩
theorem jX (m : Nat) (p0 m0 : List ae) (h : ∃ a, gw p0 (p0.length : Int) a ∧ a = m0) : aW p0 m0 := by
 refine al 9 [0] Tryz.func21 rfl rfl rfl (aA rfl) fun K hK => ?_
 refine gR 4 rfl <| gV 6 (.int .i64 (p0.length : Int)) rfl (aM (aF ae.w _)) rfl <| gLO 0 rfl (aF ae.w _) fun hl3 => gR 1 rfl ?_
 obtain ⟨a, hs4, h⟩ := h
 refine gCZ hs4 [0] ⟨⟨_, rfl, ⟨rfl, rfl, (vH _ p0).symm⟩⟩, trivial⟩ ?_
 refine gHR 0 (List.map ae.w a) rfl (vH _ a) rfl <| gR 1 rfl ?_
 subst h
 exact go_sub (F' := (mkF 9 0 [])) (H' := ⟨1, [(0, .row 42 3 (List.map ae.w a))]⟩) [0] [0] rfl hK trivial ⟨⟨_, rfl, rfl, rfl, (vH _ a).symm⟩, trivial⟩ rfl <| go_endD [] ah (rs := []) rfl rfl ⟨rfl, rfl⟩
structure ac where
 simple : Int
 lists : Int
abbrev ac.c (x : ac) : List V := [.int .i64 x.simple, .int .i64 x.lists]
abbrev ac.w (x : ac) : V := .agg x.c
structure aa where
 params : (List ac)
 result : ac
abbrev aa.c (x : aa) : List V := [.row 2 (List.map ac.w x.params), .int .i64 x.result.simple, .int .i64 x.result.lists]
abbrev aa.w (x : aa) : V := .agg x.c
structure ak where
 name : (List UInt8)
 typ : ac
abbrev ak.c (x : ak) : List V := [.str x.name, .int .i64 x.typ.simple, .int .i64 x.typ.lists]
abbrev ak.w (x : ak) : V := .agg x.c
abbrev vA (a0 : List Tree) (a1 : V) (a2 : Int) (a3 : Int) (a4 : List Int) (a5 : Int) (a6 : Int) : Ob := .var 63 [.row 4 (kidsV a0), a1, .sl 1, .sl 2, .int .i64 a2, .sl 3, .sl 4, .int .i64 a3, .row 1 (List.map (V.int .i64) a4), .int .i64 a5, .int .i64 a6]
abbrev vC (a0 : Int) (a1 : List UInt8) (a2 : List (List UInt8)) (a3 : List Tree) : Ob := .var 29 [.int .i64 a0, .str a1, .row 1 (List.map V.str a2), .row 4 (kidsV a3)]
abbrev vE (a0 : List Tree) (a1 : V) (a2 : Int) (a3 : Int) (a4 : List Int) (a5 : Int) (a6 : Int) : Ob := .var 63 [.row 4 (kidsV a0), a1, .sl 1, .sl 2, .int .i64 a2, .sl 9, .sl 10, .int .i64 a3, .row 1 (List.map (V.int .i64) a4), .int .i64 a5, .int .i64 a6]
abbrev vB (a0 : Int) (a1 : Int) : Ob := .var 61 [.int .i64 a0, .int .i64 a1]
def my (p1 : Int) (r0 : List Int) : Prop := aV [] Tryz.prog 88 [.nils, .int .i64 p1] ⟨0, []⟩ (fun u G => u = .sl 0 ∧ G = ⟨1, [(0, .row 3 1 (List.map (V.int .i64) r0))]⟩)
def cx (β : List Tree) (q : List GTarget) (n : (List ((Int × (List UInt8)) × ac))) (a : (List ((Int × Int) × aa))) (s : Int) (z : List Int) (t : List ae) (d : Int) (k : List Int) (e i p1 : Int) (p2 : Tree) (r0 : ac) (γ : List Tree) (r : List GTarget) (o : (List ((Int × (List UInt8)) × ac))) (b : (List ((Int × Int) × aa))) (v : Int) (α : List Int) (y : List ae) (f : Int) (l : List Int) (g j : Int) : Prop := aV [] Tryz.prog 57 [.ptr 0 0, .int .i64 p1, .agg (ao p2)] ⟨5, [(4, .row 42 3 (List.map ae.w t)), (3, .row 3 1 (List.map (V.int .i64) z)), (2, .mp 84 81 (List.map (fun p => (fun x => V.agg [(V.int .i64 x.1), (V.int .i64 x.2)]) p.1) a) (List.map (fun p => aa.w p.2) a)), (1, .mp 137 61 (List.map (fun p => (fun x => V.agg [(V.int .i64 x.1), (V.str x.2)]) p.1) n) (List.map (fun p => ac.w p.2) n)), (0, vA β (.row 5 (List.map GTarget.w q)) s d k e i)]⟩ (fun u G => u = .agg (ac.c r0) ∧ G = ⟨6, [(4, .row 42 3 (List.map ae.w y)), (3, .row 3 1 (List.map (V.int .i64) α)), (2, .mp 84 81 (List.map (fun p => (fun x => V.agg [(V.int .i64 x.1), (V.int .i64 x.2)]) p.1) b) (List.map (fun p => aa.w p.2) b)), (1, .mp 137 61 (List.map (fun p => (fun x => V.agg [(V.int .i64 x.1), (V.str x.2)]) p.1) o) (List.map (fun p => ac.w p.2) o)), (0, vA γ (.row 5 (List.map GTarget.w r)) v f l g j)]⟩)
def ew (β : List Tree) (q : List GTarget) (n : (List ((Int × (List UInt8)) × ac))) (a : (List ((Int × Int) × aa))) (s : Int) (z : List Int) (t : List ae) (d : Int) (k : List Int) (e i p1 : Int) (p2 : Tree) (r0 : aa) (γ : List Tree) (r : List GTarget) (o : (List ((Int × (List UInt8)) × ac))) (b : (List ((Int × Int) × aa))) (v : Int) (α : List Int) (y : List ae) (f : Int) (l : List Int) (g j : Int) : Prop := aV [] Tryz.prog 32 [.ptr 0 0, .int .i64 p1, .agg (ao p2)] ⟨5, [(4, .row 42 3 (List.map ae.w t)), (3, .row 3 1 (List.map (V.int .i64) z)), (2, .mp 84 81 (List.map (fun p => (fun x => V.agg [(V.int .i64 x.1), (V.int .i64 x.2)]) p.1) a) (List.map (fun p => aa.w p.2) a)), (1, .mp 137 61 (List.map (fun p => (fun x => V.agg [(V.int .i64 x.1), (V.str x.2)]) p.1) n) (List.map (fun p => ac.w p.2) n)), (0, vA β (.row 5 (List.map GTarget.w q)) s d k e i)]⟩ (fun u G => u = .agg (aa.c r0) ∧ G = ⟨6, [(4, .row 42 3 (List.map ae.w y)), (3, .row 3 1 (List.map (V.int .i64) α)), (2, .mp 84 81 (List.map (fun p => (fun x => V.agg [(V.int .i64 x.1), (V.int .i64 x.2)]) p.1) b) (List.map (fun p => aa.w p.2) b)), (1, .mp 137 61 (List.map (fun p => (fun x => V.agg [(V.int .i64 x.1), (V.str x.2)]) p.1) o) (List.map (fun p => ac.w p.2) o)), (0, vA γ (.row 5 (List.map GTarget.w r)) v f l g j)]⟩)
def cc (β : List Tree) (q : List GTarget) (n : (List ((Int × (List UInt8)) × ac))) (a : (List ((Int × Int) × aa))) (s : Int) (z : List Int) (t : List ae) (d : Int) (k : List Int) (e i : Int) (p1 : Tree) (p2 : aa) (γ : List Tree) (r : List GTarget) (o : (List ((Int × (List UInt8)) × ac))) (b : (List ((Int × Int) × aa))) (v : Int) (α : List Int) (y : List ae) (f : Int) (l : List Int) (g j : Int) : Prop := aV [] Tryz.prog 34 [.ptr 0 0, .agg (ao p1), .agg (aa.c p2)] ⟨5, [(4, .row 42 3 (List.map ae.w t)), (3, .row 3 1 (List.map (V.int .i64) z)), (2, .mp 84 81 (List.map (fun p => (fun x => V.agg [(V.int .i64 x.1), (V.int .i64 x.2)]) p.1) a) (List.map (fun p => aa.w p.2) a)), (1, .mp 137 61 (List.map (fun p => (fun x => V.agg [(V.int .i64 x.1), (V.str x.2)]) p.1) n) (List.map (fun p => ac.w p.2) n)), (0, vA β (.row 5 (List.map GTarget.w q)) s d k e i)]⟩ (fun u G => u = .tup [] ∧ G = ⟨5, [(4, .row 42 3 (List.map ae.w y)), (3, .row 3 1 (List.map (V.int .i64) α)), (2, .mp 84 81 (List.map (fun p => (fun x => V.agg [(V.int .i64 x.1), (V.int .i64 x.2)]) p.1) b) (List.map (fun p => aa.w p.2) b)), (1, .mp 137 61 (List.map (fun p => (fun x => V.agg [(V.int .i64 x.1), (V.str x.2)]) p.1) o) (List.map (fun p => ac.w p.2) o)), (0, vA γ (.row 5 (List.map GTarget.w r)) v f l g j)]⟩)
def aD (β : List Tree) (q : List GTarget) (n : (List ((Int × (List UInt8)) × ac))) (a : (List ((Int × Int) × aa))) (s : Int) (z : List Int) (t : List ae) (d : Int) (k : List Int) (e i : Int) (p1 : Tree) (p2 : Int) (p3 : List ak) (r0 : ac) (γ : List Tree) (r : List GTarget) (o : (List ((Int × (List UInt8)) × ac))) (b : (List ((Int × Int) × aa))) (v : Int) (α : List Int) (y : List ae) (f : Int) (l : List Int) (g j : Int) : Prop := aV [] Tryz.prog 59 [.ptr 0 0, .agg (ao p1), .int .i64 p2, .lk (List.map ak.c p3)] ⟨5, [(4, .row 42 3 (List.map ae.w t)), (3, .row 3 1 (List.map (V.int .i64) z)), (2, .mp 84 81 (List.map (fun p => (fun x => V.agg [(V.int .i64 x.1), (V.int .i64 x.2)]) p.1) a) (List.map (fun p => aa.w p.2) a)), (1, .mp 137 61 (List.map (fun p => (fun x => V.agg [(V.int .i64 x.1), (V.str x.2)]) p.1) n) (List.map (fun p => ac.w p.2) n)), (0, vA β (.row 5 (List.map GTarget.w q)) s d k e i)]⟩ (fun u G => u = .agg (ac.c r0) ∧ G = ⟨6, [(4, .row 42 3 (List.map ae.w y)), (3, .row 3 1 (List.map (V.int .i64) α)), (2, .mp 84 81 (List.map (fun p => (fun x => V.agg [(V.int .i64 x.1), (V.int .i64 x.2)]) p.1) b) (List.map (fun p => aa.w p.2) b)), (1, .mp 137 61 (List.map (fun p => (fun x => V.agg [(V.int .i64 x.1), (V.str x.2)]) p.1) o) (List.map (fun p => ac.w p.2) o)), (0, vA γ (.row 5 (List.map GTarget.w r)) v f l g j)]⟩)
def cR (β : List Tree) (q : List GTarget) (n : (List ((Int × (List UInt8)) × ac))) (a : (List ((Int × Int) × aa))) (s : Int) (z : List Int) (t : List ae) (d : Int) (k : List Int) (e i : Int) (p1 : Tree) (p2 : List ak) (r0 : ac) (γ : List Tree) (r : List GTarget) (o : (List ((Int × (List UInt8)) × ac))) (b : (List ((Int × Int) × aa))) (v : Int) (α : List Int) (y : List ae) (f : Int) (l : List Int) (g j : Int) : Prop := aV [] Tryz.prog 86 [.ptr 0 0, .agg (ao p1), .lk (List.map ak.c p2)] ⟨5, [(4, .row 42 3 (List.map ae.w t)), (3, .row 3 1 (List.map (V.int .i64) z)), (2, .mp 84 81 (List.map (fun p => (fun x => V.agg [(V.int .i64 x.1), (V.int .i64 x.2)]) p.1) a) (List.map (fun p => aa.w p.2) a)), (1, .mp 137 61 (List.map (fun p => (fun x => V.agg [(V.int .i64 x.1), (V.str x.2)]) p.1) n) (List.map (fun p => ac.w p.2) n)), (0, vA β (.row 5 (List.map GTarget.w q)) s d k e i)]⟩ (fun u G => u = .agg (ac.c r0) ∧ G = ⟨6, [(4, .row 42 3 (List.map ae.w y)), (3, .row 3 1 (List.map (V.int .i64) α)), (2, .mp 84 81 (List.map (fun p => (fun x => V.agg [(V.int .i64 x.1), (V.int .i64 x.2)]) p.1) b) (List.map (fun p => aa.w p.2) b)), (1, .mp 137 61 (List.map (fun p => (fun x => V.agg [(V.int .i64 x.1), (V.str x.2)]) p.1) o) (List.map (fun p => ac.w p.2) o)), (0, vA γ (.row 5 (List.map GTarget.w r)) v f l g j)]⟩)
def eL (β : List Tree) (q : List GTarget) (n : (List ((Int × (List UInt8)) × ac))) (a : (List ((Int × Int) × aa))) (s : Int) (z : List Int) (t : List ae) (d : Int) (k : List Int) (e i : Int) (p1 : Tree) (p2 : List ak) (r0 : ac) (γ : List Tree) (r : List GTarget) (o : (List ((Int × (List UInt8)) × ac))) (b : (List ((Int × Int) × aa))) (v : Int) (α : List Int) (y : List ae) (f : Int) (l : List Int) (g j : Int) : Prop := aV [] Tryz.prog 101 [.ptr 0 0, .agg (ao p1), .lk (List.map ak.c p2)] ⟨5, [(4, .row 42 3 (List.map ae.w t)), (3, .row 3 1 (List.map (V.int .i64) z)), (2, .mp 84 81 (List.map (fun p => (fun x => V.agg [(V.int .i64 x.1), (V.int .i64 x.2)]) p.1) a) (List.map (fun p => aa.w p.2) a)), (1, .mp 137 61 (List.map (fun p => (fun x => V.agg [(V.int .i64 x.1), (V.str x.2)]) p.1) n) (List.map (fun p => ac.w p.2) n)), (0, vA β (.row 5 (List.map GTarget.w q)) s d k e i)]⟩ (fun u G => u = .agg (ac.c r0) ∧ G = ⟨6, [(4, .row 42 3 (List.map ae.w y)), (3, .row 3 1 (List.map (V.int .i64) α)), (2, .mp 84 81 (List.map (fun p => (fun x => V.agg [(V.int .i64 x.1), (V.int .i64 x.2)]) p.1) b) (List.map (fun p => aa.w p.2) b)), (1, .mp 137 61 (List.map (fun p => (fun x => V.agg [(V.int .i64 x.1), (V.str x.2)]) p.1) o) (List.map (fun p => ac.w p.2) o)), (0, vA γ (.row 5 (List.map GTarget.w r)) v f l g j)]⟩)
def ib (β : List Tree) (q : List GTarget) (n : (List ((Int × (List UInt8)) × ac))) (a : (List ((Int × Int) × aa))) (s : Int) (z : List Int) (t : List ae) (d : Int) (k : List Int) (e i : Int) (p1 : Tree) (p2 : List ak) (r0 : ac) (γ : List Tree) (r : List GTarget) (o : (List ((Int × (List UInt8)) × ac))) (b : (List ((Int × Int) × aa))) (v : Int) (α : List Int) (y : List ae) (f : Int) (l : List Int) (g j : Int) : Prop := aV [] Tryz.prog 102 [.ptr 0 0, .agg (ao p1), .lk (List.map ak.c p2)] ⟨5, [(4, .row 42 3 (List.map ae.w t)), (3, .row 3 1 (List.map (V.int .i64) z)), (2, .mp 84 81 (List.map (fun p => (fun x => V.agg [(V.int .i64 x.1), (V.int .i64 x.2)]) p.1) a) (List.map (fun p => aa.w p.2) a)), (1, .mp 137 61 (List.map (fun p => (fun x => V.agg [(V.int .i64 x.1), (V.str x.2)]) p.1) n) (List.map (fun p => ac.w p.2) n)), (0, vA β (.row 5 (List.map GTarget.w q)) s d k e i)]⟩ (fun u G => u = .agg (ac.c r0) ∧ G = ⟨6, [(4, .row 42 3 (List.map ae.w y)), (3, .row 3 1 (List.map (V.int .i64) α)), (2, .mp 84 81 (List.map (fun p => (fun x => V.agg [(V.int .i64 x.1), (V.int .i64 x.2)]) p.1) b) (List.map (fun p => aa.w p.2) b)), (1, .mp 137 61 (List.map (fun p => (fun x => V.agg [(V.int .i64 x.1), (V.str x.2)]) p.1) o) (List.map (fun p => ac.w p.2) o)), (0, vA γ (.row 5 (List.map GTarget.w r)) v f l g j)]⟩)
def dj (β : List Tree) (q : List GTarget) (n : (List ((Int × (List UInt8)) × ac))) (a : (List ((Int × Int) × aa))) (s : Int) (z : List Int) (t : List ae) (d : Int) (k : List Int) (e i : Int) (p1 : Tree) (p2 : List ak) (r0 : ac) (γ : List Tree) (r : List GTarget) (o : (List ((Int × (List UInt8)) × ac))) (b : (List ((Int × Int) × aa))) (v : Int) (α : List Int) (y : List ae) (f : Int) (l : List Int) (g j : Int) : Prop := aV [] Tryz.prog 103 [.ptr 0 0, .agg (ao p1), .lk (List.map ak.c p2)] ⟨5, [(4, .row 42 3 (List.map ae.w t)), (3, .row 3 1 (List.map (V.int .i64) z)), (2, .mp 84 81 (List.map (fun p => (fun x => V.agg [(V.int .i64 x.1), (V.int .i64 x.2)]) p.1) a) (List.map (fun p => aa.w p.2) a)), (1, .mp 137 61 (List.map (fun p => (fun x => V.agg [(V.int .i64 x.1), (V.str x.2)]) p.1) n) (List.map (fun p => ac.w p.2) n)), (0, vA β (.row 5 (List.map GTarget.w q)) s d k e i)]⟩ (fun u G => u = .agg (ac.c r0) ∧ G = ⟨6, [(4, .row 42 3 (List.map ae.w y)), (3, .row 3 1 (List.map (V.int .i64) α)), (2, .mp 84 81 (List.map (fun p => (fun x => V.agg [(V.int .i64 x.1), (V.int .i64 x.2)]) p.1) b) (List.map (fun p => aa.w p.2) b)), (1, .mp 137 61 (List.map (fun p => (fun x => V.agg [(V.int .i64 x.1), (V.str x.2)]) p.1) o) (List.map (fun p => ac.w p.2) o)), (0, vA γ (.row 5 (List.map GTarget.w r)) v f l g j)]⟩)
def de (β : List Tree) (q : List GTarget) (n : (List ((Int × (List UInt8)) × ac))) (a : (List ((Int × Int) × aa))) (s : Int) (z : List Int) (t : List ae) (d : Int) (k : List Int) (e i : Int) (p1 : Tree) (p2 : List ak) (r0 : ac) (γ : List Tree) (r : List GTarget) (o : (List ((Int × (List UInt8)) × ac))) (b : (List ((Int × Int) × aa))) (v : Int) (α : List Int) (y : List ae) (f : Int) (l : List Int) (g j : Int) : Prop := aV [] Tryz.prog 104 [.ptr 0 0, .agg (ao p1), .lk (List.map ak.c p2)] ⟨5, [(4, .row 42 3 (List.map ae.w t)), (3, .row 3 1 (List.map (V.int .i64) z)), (2, .mp 84 81 (List.map (fun p => (fun x => V.agg [(V.int .i64 x.1), (V.int .i64 x.2)]) p.1) a) (List.map (fun p => aa.w p.2) a)), (1, .mp 137 61 (List.map (fun p => (fun x => V.agg [(V.int .i64 x.1), (V.str x.2)]) p.1) n) (List.map (fun p => ac.w p.2) n)), (0, vA β (.row 5 (List.map GTarget.w q)) s d k e i)]⟩ (fun u G => u = .agg (ac.c r0) ∧ G = ⟨6, [(4, .row 42 3 (List.map ae.w y)), (3, .row 3 1 (List.map (V.int .i64) α)), (2, .mp 84 81 (List.map (fun p => (fun x => V.agg [(V.int .i64 x.1), (V.int .i64 x.2)]) p.1) b) (List.map (fun p => aa.w p.2) b)), (1, .mp 137 61 (List.map (fun p => (fun x => V.agg [(V.int .i64 x.1), (V.str x.2)]) p.1) o) (List.map (fun p => ac.w p.2) o)), (0, vA γ (.row 5 (List.map GTarget.w r)) v f l g j)]⟩)
def eY (β : List Tree) (q : List GTarget) (n : (List ((Int × (List UInt8)) × ac))) (a : (List ((Int × Int) × aa))) (s : Int) (z : List Int) (t : List ae) (d : Int) (k : List Int) (e i : Int) (p1 : (ac × ac)) (r0 : ac) (γ : List Tree) (r : List GTarget) (o : (List ((Int × (List UInt8)) × ac))) (b : (List ((Int × Int) × aa))) (v : Int) (α : List Int) (y : List ae) (f : Int) (l : List Int) (g j : Int) : Prop := aV [] Tryz.prog 112 [.ptr 0 0, .agg [.int .i64 p1.1.simple, .int .i64 p1.1.lists, .int .i64 p1.2.simple, .int .i64 p1.2.lists]] ⟨5, [(4, .row 42 3 (List.map ae.w t)), (3, .row 3 1 (List.map (V.int .i64) z)), (2, .mp 84 81 (List.map (fun p => (fun x => V.agg [(V.int .i64 x.1), (V.int .i64 x.2)]) p.1) a) (List.map (fun p => aa.w p.2) a)), (1, .mp 137 61 (List.map (fun p => (fun x => V.agg [(V.int .i64 x.1), (V.str x.2)]) p.1) n) (List.map (fun p => ac.w p.2) n)), (0, vA β (.row 5 (List.map GTarget.w q)) s d k e i)]⟩ (fun u G => u = .agg (ac.c r0) ∧ G = ⟨6, [(4, .row 42 3 (List.map ae.w y)), (3, .row 3 1 (List.map (V.int .i64) α)), (2, .mp 84 81 (List.map (fun p => (fun x => V.agg [(V.int .i64 x.1), (V.int .i64 x.2)]) p.1) b) (List.map (fun p => aa.w p.2) b)), (1, .mp 137 61 (List.map (fun p => (fun x => V.agg [(V.int .i64 x.1), (V.str x.2)]) p.1) o) (List.map (fun p => ac.w p.2) o)), (0, vA γ (.row 5 (List.map GTarget.w r)) v f l g j)]⟩)
def aS (p0 p1 : ac) (r0 : Bool) : Prop := qS 58 [.agg (ac.c p0), .agg (ac.c p1)] (.bool r0)
def eV (p0 : List Tree) (r0 : Bool) : Prop := qS 17 [.row 4 (kidsV p0)] (.bool r0)
def iQ (p0 r0 : Tree) (r1 : Int) : Prop := qS 84 [.agg (ao p0)] (.tup [.agg (ao r0), .int .i64 r1])
def iB (p0 : (List (List Int))) (r0 : List Int) : Prop := aV [] Tryz.prog 62 [.row 1 (List.map (fun l => V.row 1 (List.map (V.int .i64) l)) p0)] ⟨0, []⟩ (fun u G => u = .sl 0 ∧ G = ⟨1, [(0, .row 3 1 (List.map (V.int .i64) r0))]⟩)
def gP (p0 p1 : List Int) (r0 : Bool) : Prop := aV [0] Tryz.prog 87 [.sl 0, .row 1 (List.map (V.int .i64) p1)] ⟨1, [(0, .row 3 1 (List.map (V.int .i64) p0))]⟩ (fun u G => u = .bool r0 ∧ G = ⟨1, [(0, .row 3 1 (List.map (V.int .i64) p0))]⟩)
def lw (p0 : Tree) (p1 : List Int) (r0 : Tree) (r1 : Bool) : Prop := qS 29 [.agg (ao p0), .row 1 (List.map (V.int .i64) p1)] (.tup [.agg (ao r0), .bool r1])
def ar (α : List Tree) (o : List GTarget) (l : (List ((Int × (List UInt8)) × ac))) (a : (List ((Int × Int) × aa))) (r : Int) (y : List Int) (s : List ae) (c : Int) (j : List Int) (d g p1 : Int) (p2 : List Int) (β : List Tree) (q : List GTarget) (n : (List ((Int × (List UInt8)) × ac))) (b : (List ((Int × Int) × aa))) (t : Int) (z : List Int) (v : List ae) (e : Int) (k : List Int) (f i : Int) : Prop := aV [] Tryz.prog 36 [.ptr 0 0, .int .i64 p1, .row 1 (List.map (V.int .i64) p2)] ⟨5, [(4, .row 42 3 (List.map ae.w s)), (3, .row 3 1 (List.map (V.int .i64) y)), (2, .mp 84 81 (List.map (fun p => (fun x => V.agg [(V.int .i64 x.1), (V.int .i64 x.2)]) p.1) a) (List.map (fun p => aa.w p.2) a)), (1, .mp 137 61 (List.map (fun p => (fun x => V.agg [(V.int .i64 x.1), (V.str x.2)]) p.1) l) (List.map (fun p => ac.w p.2) l)), (0, vA α (.row 5 (List.map GTarget.w o)) r c j d g)]⟩ (fun u G => u = .tup [] ∧ G = ⟨5, [(4, .row 42 3 (List.map ae.w v)), (3, .row 3 1 (List.map (V.int .i64) z)), (2, .mp 84 81 (List.map (fun p => (fun x => V.agg [(V.int .i64 x.1), (V.int .i64 x.2)]) p.1) b) (List.map (fun p => aa.w p.2) b)), (1, .mp 137 61 (List.map (fun p => (fun x => V.agg [(V.int .i64 x.1), (V.str x.2)]) p.1) n) (List.map (fun p => ac.w p.2) n)), (0, vA β (.row 5 (List.map GTarget.w q)) t e k f i)]⟩)
def dm (β : List Tree) (q : List GTarget) (n : (List ((Int × (List UInt8)) × ac))) (a : (List ((Int × Int) × aa))) (s : Int) (z : List Int) (t : List ae) (d : Int) (k : List Int) (e i : Int) (r0 : GTarget) (γ : List Tree) (r : List GTarget) (o : (List ((Int × (List UInt8)) × ac))) (b : (List ((Int × Int) × aa))) (v : Int) (α : List Int) (y : List ae) (f : Int) (l : List Int) (g j : Int) : Prop := aV [] Tryz.prog 63 [.ptr 0 0] ⟨5, [(4, .row 42 3 (List.map ae.w t)), (3, .row 3 1 (List.map (V.int .i64) z)), (2, .mp 84 81 (List.map (fun p => (fun x => V.agg [(V.int .i64 x.1), (V.int .i64 x.2)]) p.1) a) (List.map (fun p => aa.w p.2) a)), (1, .mp 137 61 (List.map (fun p => (fun x => V.agg [(V.int .i64 x.1), (V.str x.2)]) p.1) n) (List.map (fun p => ac.w p.2) n)), (0, vA β (.row 5 (List.map GTarget.w q)) s d k e i)]⟩ (fun u G => u = .agg (GTarget.c r0) ∧ G = ⟨6, [(4, .row 42 3 (List.map ae.w y)), (3, .row 3 1 (List.map (V.int .i64) α)), (2, .mp 84 81 (List.map (fun p => (fun x => V.agg [(V.int .i64 x.1), (V.int .i64 x.2)]) p.1) b) (List.map (fun p => aa.w p.2) b)), (1, .mp 137 61 (List.map (fun p => (fun x => V.agg [(V.int .i64 x.1), (V.str x.2)]) p.1) o) (List.map (fun p => ac.w p.2) o)), (0, vA γ (.row 5 (List.map GTarget.w r)) v f l g j)]⟩)
def ba (α : List Tree) (o : List GTarget) (l : (List ((Int × (List UInt8)) × ac))) (a : (List ((Int × Int) × aa))) (r : Int) (y : List Int) (s : List ae) (c : Int) (j : List Int) (d g p1 : Int) (β : List Tree) (q : List GTarget) (n : (List ((Int × (List UInt8)) × ac))) (b : (List ((Int × Int) × aa))) (t : Int) (z : List Int) (v : List ae) (e : Int) (k : List Int) (f i : Int) : Prop := aV [] Tryz.prog 33 [.ptr 0 0, .int .i64 p1] ⟨5, [(4, .row 42 3 (List.map ae.w s)), (3, .row 3 1 (List.map (V.int .i64) y)), (2, .mp 84 81 (List.map (fun p => (fun x => V.agg [(V.int .i64 x.1), (V.int .i64 x.2)]) p.1) a) (List.map (fun p => aa.w p.2) a)), (1, .mp 137 61 (List.map (fun p => (fun x => V.agg [(V.int .i64 x.1), (V.str x.2)]) p.1) l) (List.map (fun p => ac.w p.2) l)), (0, vA α (.row 5 (List.map GTarget.w o)) r c j d g)]⟩ (fun u G => u = .tup [] ∧ G = ⟨5, [(4, .row 42 3 (List.map ae.w v)), (3, .row 3 1 (List.map (V.int .i64) z)), (2, .mp 84 81 (List.map (fun p => (fun x => V.agg [(V.int .i64 x.1), (V.int .i64 x.2)]) p.1) b) (List.map (fun p => aa.w p.2) b)), (1, .mp 137 61 (List.map (fun p => (fun x => V.agg [(V.int .i64 x.1), (V.str x.2)]) p.1) n) (List.map (fun p => ac.w p.2) n)), (0, vA β (.row 5 (List.map GTarget.w q)) t e k f i)]⟩)
def az (α : List Tree) (o : List GTarget) (l : (List ((Int × (List UInt8)) × ac))) (a : (List ((Int × Int) × aa))) (r : Int) (y : List Int) (s : List ae) (c : Int) (j : List Int) (d g : Int) (β : List Tree) (q : List GTarget) (n : (List ((Int × (List UInt8)) × ac))) (b : (List ((Int × Int) × aa))) (t : Int) (z : List Int) (v : List ae) (e : Int) (k : List Int) (f i : Int) : Prop := aV [] Tryz.prog 38 [.ptr 0 0] ⟨5, [(4, .row 42 3 (List.map ae.w s)), (3, .row 3 1 (List.map (V.int .i64) y)), (2, .mp 84 81 (List.map (fun p => (fun x => V.agg [(V.int .i64 x.1), (V.int .i64 x.2)]) p.1) a) (List.map (fun p => aa.w p.2) a)), (1, .mp 137 61 (List.map (fun p => (fun x => V.agg [(V.int .i64 x.1), (V.str x.2)]) p.1) l) (List.map (fun p => ac.w p.2) l)), (0, vA α (.row 5 (List.map GTarget.w o)) r c j d g)]⟩ (fun u G => u = .tup [] ∧ G = ⟨5, [(4, .row 42 3 (List.map ae.w v)), (3, .row 3 1 (List.map (V.int .i64) z)), (2, .mp 84 81 (List.map (fun p => (fun x => V.agg [(V.int .i64 x.1), (V.int .i64 x.2)]) p.1) b) (List.map (fun p => aa.w p.2) b)), (1, .mp 137 61 (List.map (fun p => (fun x => V.agg [(V.int .i64 x.1), (V.str x.2)]) p.1) n) (List.map (fun p => ac.w p.2) n)), (0, vA β (.row 5 (List.map GTarget.w q)) t e k f i)]⟩)
def bh (α : List Tree) (o : List GTarget) (l : (List ((Int × (List UInt8)) × ac))) (a : (List ((Int × Int) × aa))) (r : Int) (y : List Int) (s : List ae) (c : Int) (j : List Int) (d g : Int) (p1 : Tree) (p2 : Int) (β : List Tree) (q : List GTarget) (n : (List ((Int × (List UInt8)) × ac))) (b : (List ((Int × Int) × aa))) (t : Int) (z : List Int) (v : List ae) (e : Int) (k : List Int) (f i : Int) : Prop := aV [] Tryz.prog 37 [.ptr 0 0, .agg (ao p1), .int .i64 p2] ⟨5, [(4, .row 42 3 (List.map ae.w s)), (3, .row 3 1 (List.map (V.int .i64) y)), (2, .mp 84 81 (List.map (fun p => (fun x => V.agg [(V.int .i64 x.1), (V.int .i64 x.2)]) p.1) a) (List.map (fun p => aa.w p.2) a)), (1, .mp 137 61 (List.map (fun p => (fun x => V.agg [(V.int .i64 x.1), (V.str x.2)]) p.1) l) (List.map (fun p => ac.w p.2) l)), (0, vA α (.row 5 (List.map GTarget.w o)) r c j d g)]⟩ (fun u G => u = .tup [] ∧ G = ⟨5, [(4, .row 42 3 (List.map ae.w v)), (3, .row 3 1 (List.map (V.int .i64) z)), (2, .mp 84 81 (List.map (fun p => (fun x => V.agg [(V.int .i64 x.1), (V.int .i64 x.2)]) p.1) b) (List.map (fun p => aa.w p.2) b)), (1, .mp 137 61 (List.map (fun p => (fun x => V.agg [(V.int .i64 x.1), (V.str x.2)]) p.1) n) (List.map (fun p => ac.w p.2) n)), (0, vA β (.row 5 (List.map GTarget.w q)) t e k f i)]⟩)
def dl (β : List Tree) (q : List GTarget) (n : (List ((Int × (List UInt8)) × ac))) (a : (List ((Int × Int) × aa))) (s : Int) (z : List Int) (t : List ae) (d : Int) (k : List Int) (e i : Int) (p1 : Tree) (p2 : List ak) (r0 : ac) (γ : List Tree) (r : List GTarget) (o : (List ((Int × (List UInt8)) × ac))) (b : (List ((Int × Int) × aa))) (v : Int) (α : List Int) (y : List ae) (f : Int) (l : List Int) (g j : Int) : Prop := aV [] Tryz.prog 100 [.ptr 0 0, .agg (ao p1), .lk (List.map ak.c p2)] ⟨5, [(4, .row 42 3 (List.map ae.w t)), (3, .row 3 1 (List.map (V.int .i64) z)), (2, .mp 84 81 (List.map (fun p => (fun x => V.agg [(V.int .i64 x.1), (V.int .i64 x.2)]) p.1) a) (List.map (fun p => aa.w p.2) a)), (1, .mp 137 61 (List.map (fun p => (fun x => V.agg [(V.int .i64 x.1), (V.str x.2)]) p.1) n) (List.map (fun p => ac.w p.2) n)), (0, vA β (.row 5 (List.map GTarget.w q)) s d k e i)]⟩ (fun u G => u = .agg (ac.c r0) ∧ G = ⟨6, [(4, .row 42 3 (List.map ae.w y)), (3, .row 3 1 (List.map (V.int .i64) α)), (2, .mp 84 81 (List.map (fun p => (fun x => V.agg [(V.int .i64 x.1), (V.int .i64 x.2)]) p.1) b) (List.map (fun p => aa.w p.2) b)), (1, .mp 137 61 (List.map (fun p => (fun x => V.agg [(V.int .i64 x.1), (V.str x.2)]) p.1) o) (List.map (fun p => ac.w p.2) o)), (0, vA γ (.row 5 (List.map GTarget.w r)) v f l g j)]⟩)
theorem oF (m : Nat) (p0 p1 : ac) (r0 : Bool) (h : ((p0.simple ≠ 0) → ((p1.simple ≠ 0) → (!(p0.simple == p1.simple && p0.lists == p1.lists)) = r0) ∧ ((p1.simple = 0) → false = r0)) ∧ ((p0.simple = 0) → false = r0)) : aS p0 p1 r0 := by
 refine ⟨rfl, rfl, ?_⟩
 refine al 18 [] Tryz.func58 rfl rfl rfl (aA rfl) fun K hK => ?_
 refine gR 3 rfl <| gFP 0 rfl rfl rfl rfl <| gR 1 rfl <| gFP 1 rfl rfl rfl rfl <| gR 9 rfl <| qBhZ 8 7 rfl rfl rfl rfl h ec cP (fun h => ?_) fun h => ?_
 refine gR 5 rfl <| qBhZ 13 12 rfl rfl rfl rfl h ec cP (fun h => ?_) fun h => ?_
 refine gR 2 rfl <| gY (v := .bool (!(p0.simple == p1.simple && p0.lists == p1.lists))) (sQ (neg := true) Tryz.underlying61 (by kernel_rfl) (by kernel_rfl) (by decide) (by decide) rfl rfl (by kernel_rfl) (by kernel_rfl) rfl rfl qI qI qI qI (eI Tryz.underlying3) (eI Tryz.underlying3)) rfl rfl <| gR 5 rfl ?_
 subst h
 exact go_end ah (rs := [.tmp 4]) rfl rfl rfl
 refine gR 8 rfl ?_
 subst h
 exact go_end ah (rs := [.tmp 4]) rfl rfl rfl
 refine gR 13 rfl ?_
 subst h
 exact go_end ah (rs := [.tmp 4]) rfl rfl rfl
def ej (m : Nat) (p0 : List Tree) (a : Nat) (r0 : Bool) : Prop := ∀ (K : Ctx) (j1 : Nat), aG K [] → m ≤ j1 → qLG K Tryz.f17 (fun u _ => u = .bool r0) (xC (cA (cB (ai Tryz.f17)))) [.loop (xC (cA (cB (ai Tryz.f17)))) j1, .blk 0, .seq (xA (ai Tryz.f17))] 20 (mkF 20 0 [(5, .row 4 (kidsV p0)), (6, .int .i64 (p0.length : Int)), (7, .int .i64 (a : Int))]) ⟨0, []⟩
theorem nK (m : Nat) (p0 : List Tree) (r0 : Bool) (h : ej m p0 0 r0) : eV p0 r0 := by
 refine ⟨rfl, rfl, ?_⟩
 refine al 20 [] Tryz.func17 rfl rfl rfl (aA rfl) fun K hK => ?_
 exact gR 10 rfl <| gV 6 (.int .i64 (p0.length : Int)) rfl (aM (aK _)) rfl <| gLB 5 rfl (aK _) fun hl5 => gR 4 rfl <| go_loop m <| gJ (h K _ hK (by omega)) [] [] rfl hK pq3 trivial rfl
theorem jt (m : Nat) (p0 : List Tree) (a : Nat) (r0 : Bool) (h : ((a < p0.length) → ∃ b, p0[a]? = some b ∧ ((b.kind ≠ 1) → false = r0) ∧ ((b.kind = 1) → ∃ c, dY b c ∧ ((c = false) → false = r0) ∧ ((c = true) → a + 1 ≤ 9223372036854775807 ∧ ej m p0 (a + 1) r0))) ∧ ((¬ a < p0.length) → true = r0)) : ej (m + 1) p0 a r0 := by
 intro K j1 hK hj1
 obtain ⟨j1, rfl⟩ : ∃ j, j1 = j + 1 := ⟨j1 - 1, by omega⟩
 refine gR 6 rfl <| gB 8 rfl rfl rfl ?_ ?_ <;> intro hd
 replace hd := (dO hd)
 replace h := h.1 hd
 refine gR 7 rfl ?_
 obtain ⟨b, hxt1_1, h⟩ := h
 refine gY (bx (aL hxt1_1) ah rfl rfl rfl rfl) rfl rfl <| gR 11 rfl <| gB 14 rfl rfl rfl ?_ ?_ <;> intro hd
 refine gT 13 rfl hd rfl ?_
 replace hd := (ec hd)
 replace h := h.1 hd
 refine gR 15 rfl <| go_xloopR <| gR 2 rfl ?_
 subst h
 exact go_end ah (rs := [.tmp 2]) rfl rfl rfl
 refine gF 13 rfl hd rfl ?_
 replace hd := (cP hd)
 replace h := h.2 hd
 refine gR 1 rfl ?_
 obtain ⟨c, hs6, h⟩ := h
 refine gC0 hs6 (by kernel_rfl) rfl rfl .rfl rfl <| gR 4 rfl <| gB 18 rfl rfl rfl ?_ ?_ <;> intro hd
 replace hd := (gL hd)
 replace h := h.1 hd
 refine gR 9 rfl <| go_xloopR <| gR 2 rfl ?_
 subst h
 exact go_end ah (rs := [.tmp 2]) rfl rfl rfl
 replace hd := (gK hd)
 replace h := h.2 hd
 refine gR 5 rfl ?_
 obtain ⟨hb, h⟩ := h
 exact gR 1 rfl <| gV 19 (.int .i64 ((a + 1 : Nat) : Int)) rfl (au (by omega) (by omega)) rfl <| gR 2 rfl <| go_xloop <| gJ (h K _ hK (by omega)) [] [] rfl hK pq3 trivial rfl
 replace hd := (dQ hd)
 replace h := h.2 hd
 refine gR 3 rfl <| go_xloopE <| gR 8 rfl ?_
 subst h
 exact go_end ah (rs := [.tmp 2]) rfl rfl rfl
def fu (m : Nat) (a : Tree) (b : Nat) (r0 : Tree) (r1 : Int) : Prop := ∀ (K : Ctx) (j1 : Nat), aG K [] → m ≤ j1 → qLG K Tryz.f84 (fun u _ => u = .tup [.agg (ao r0), .int .i64 r1]) (xB (xD (ai Tryz.f84))) [.loop (xB (xD (ai Tryz.f84))) j1, .blk 0, .seq (xF (ai Tryz.f84))] 16 (mkF 16 0 [(1, .ptr 0 0), (2, .ptr 1 0), (4, .int .i64 (b : Int))]) ⟨2, [(1, .var 29 [.int .i64 0, .str [], .nils, .nils]), (0, .var 29 (ao a))]⟩
theorem pi (m : Nat) (p0 r0 : Tree) (r1 : Int) (h : fu m p0 0 r0 r1) : iQ p0 r0 r1 := by
 refine ⟨rfl, rfl, ?_⟩
 refine al 16 [] Tryz.func84 rfl rfl rfl (aA rfl) fun K hK => ?_
 exact gR 14 rfl <| go_loop m <| gJ (h K _ hK (by omega)) [0, 1] [] rfl hK pq3 (pqo2 rfl rfl rfl rfl) rfl
theorem ka (m : Nat) (a : Tree) (b : Nat) (r0 : Tree) (r1 : Int) (h : ((a.kind = 8) → ∃ c, a.kids[0]? = some c ∧ b + 1 ≤ 9223372036854775807 ∧ fu m c (b + 1) r0 r1) ∧ ((a.kind ≠ 8) → a = r0 ∧ (b : Int) = r1)) : fu (m + 1) a b r0 r1 := by
 intro K j1 hK hj1
 obtain ⟨j1, rfl⟩ : ∃ j, j1 = j + 1 := ⟨j1 - 1, by omega⟩
 refine gR 8 rfl <| gB 7 rfl rfl rfl ?_ ?_ <;> intro hd
 replace hd := (eq_of_beq hd)
 replace h := h.1 hd
 refine gR 8 rfl ?_
 obtain ⟨c, hxt1_1, h⟩ := h
 refine gY (bx (aL hxt1_1) ah rfl rfl rfl rfl) rfl rfl <| gR 6 rfl ?_
 obtain ⟨hb, h⟩ := h
 exact gR 1 rfl <| gV 13 (.int .i64 ((b + 1 : Nat) : Int)) rfl (au (by omega) (by omega)) rfl <| gR 3 rfl <| go_xloop <| gJ (h K _ hK (by omega)) [0, 1] [] rfl hK pq3 (pqo2 rfl rfl rfl rfl) rfl
 replace hd := (ne_of_beq_false hd)
 replace h := h.2 hd
 refine gR 3 rfl <| go_xloopE <| gR 11 rfl ?_
 obtain ⟨rfl, rfl⟩ := h
 exact go_sub (F' := (mkF 16 0 [(2, .ptr 0 0), (3, .int .i64 (b : Int))])) (H' := ⟨1, [(0, vC a.kind a.text a.leads a.kids)]⟩) [1] [] rfl hK pq2 (pqo1 rfl rfl) rfl <| go_end ah (rs := [.cell 2 29, .tmp 3]) rfl rfl rfl
def gX (m : Nat) (p0 : (List (List Int))) (a b : Nat) (r0 : List Int) : Prop := ∀ (K : Ctx) (j1 : Nat), aG K [] → m ≤ j1 → qLG K Tryz.f62 (fun u G => u = .sl 0 ∧ G = ⟨1, [(0, .row 3 1 (List.map (V.int .i64) r0))]⟩) (xE (ai Tryz.f62)) [.loop (xE (ai Tryz.f62)) j1, .blk 0, .seq (xF (ai Tryz.f62))] 36 (mkF 36 0 [(0, .row 1 (List.map (fun l => V.row 1 (List.map (V.int .i64) l)) p0)), (3, .int .i64 (a : Int)), (9, .row 1 (List.map (fun l => V.row 1 (List.map (V.int .i64) l)) p0)), (10, .int .i64 (p0.length : Int)), (11, .int .i64 (b : Int))]) ⟨0, []⟩
def hI (m : Nat) (p0 : (List (List Int))) (a : List Int) (b : Nat) (r0 : List Int) : Prop := ∀ (K : Ctx) (j1 : Nat), aG K [] → m ≤ j1 → qLG K Tryz.f62 (fun u G => u = .sl 0 ∧ G = ⟨1, [(0, .row 3 1 (List.map (V.int .i64) r0))]⟩) (xE (xA (ai Tryz.f62))) [.loop (xE (xA (ai Tryz.f62))) j1, .blk 2, .seq (xA (xF (ai Tryz.f62)))] 36 (mkF 36 0 [(6, .sl 0), (25, .row 1 (List.map (fun l => V.row 1 (List.map (V.int .i64) l)) p0)), (26, .int .i64 (p0.length : Int)), (27, .int .i64 (b : Int))]) ⟨1, [(0, .row 3 1 (List.map (V.int .i64) a))]⟩
theorem nY (m : Nat) (p0 : (List (List Int))) (r0 : List Int) (h : gX m p0 0 0 r0) : iB p0 r0 := by
 refine al 36 [] Tryz.func62 rfl rfl rfl (aA rfl) fun K hK => ?_
 exact gR 15 rfl <| gV 10 (.int .i64 (p0.length : Int)) rfl (aM (aF (fun l => V.row 1 (List.map (V.int .i64) l)) _)) rfl <| gLB 9 rfl (aF (fun l => V.row 1 (List.map (V.int .i64) l)) _) fun hl9 => gR 4 rfl <| go_loop m <| gJ (h K _ hK (by omega)) [] [] rfl hK pq5 trivial rfl
theorem gr (m : Nat) (p0 : (List (List Int))) (b c : Nat) (r0 : List Int) (h : ((c < p0.length) → ∃ a, p0[c]? = some a ∧ b + a.length ≤ 9223372036854775807 ∧ ((((b + a.length : Nat) : Int) < 0) → False) ∧ ((¬ ((b + a.length : Nat) : Int) < 0) → c + 1 ≤ 9223372036854775807 ∧ gX m p0 (b + a.length) (c + 1) r0)) ∧ ((¬ c < p0.length) → ∃ d, my (b : Int) d ∧ hI m p0 d 0 r0)) : gX (m + 1) p0 b c r0 := by
 intro K j1 hK hj1
 obtain ⟨j1, rfl⟩ : ∃ j, j1 = j + 1 := ⟨j1 - 1, by omega⟩
 refine gR 6 rfl <| gB 12 rfl rfl rfl ?_ ?_ <;> intro hd
 replace hd := (dO hd)
 replace h := h.1 hd
 refine gR 7 rfl ?_
 obtain ⟨a, hxx1_1, h⟩ := h
 refine gY (bx (mapget (f := (fun l => V.row 1 (List.map (V.int .i64) l))) hxx1_1) ah rfl rfl rfl rfl) rfl rfl <| gR 9 rfl <| gV 17 (.int .i64 (a.length : Int)) rfl (aM (aF (V.int .i64) _)) rfl <| gLB 16 rfl (aF (V.int .i64) _) fun hl10 => ?_
 obtain ⟨hb, h⟩ := h
 refine gR 1 rfl <| gV 18 (.int .i64 ((b + a.length : Nat) : Int)) rfl (au (by omega) (by omega)) rfl <| gR 9 rfl <| gB 20 rfl rfl rfl ?_ ?_ <;> intro hd
 replace hd := (of_decide_eq_true hd)
 replace h := h.1 hd
 exact h.elim
 replace hd := (of_decide_eq_false hd)
 replace h := h.2 hd
 refine gR 5 rfl ?_
 obtain ⟨hb, h⟩ := h
 exact gR 1 rfl <| gV 22 (.int .i64 ((c + 1 : Nat) : Int)) rfl (au (by omega) (by omega)) rfl <| gR 2 rfl <| go_xloop <| gJ (h K _ hK (by omega)) [] [] rfl hK pq5 trivial rfl
 replace hd := (dQ hd)
 replace h := h.2 hd
 refine gR 3 rfl <| go_xloopE <| gR 5 rfl ?_
 obtain ⟨d, hs11, h⟩ := h
 refine gC hs11 [] (by kernel_rfl) rfl rfl .rfl trivial rfl ?_
 rintro _ _ ⟨rfl, rfl⟩
 exact gHR 0 (List.map (V.int .i64) d) rfl (vF _ d) rfl <| gR 8 rfl <| gV 26 (.int .i64 (p0.length : Int)) rfl (aM (aF (fun l => V.row 1 (List.map (V.int .i64) l)) _)) rfl <| gLB 25 rfl (aF (fun l => V.row 1 (List.map (V.int .i64) l)) _) fun hl12 => gR 4 rfl <| go_loop m <| gJ (h K _ hK (by omega)) [0] [] rfl hK pq4 ⟨⟨_, rfl, rfl, rfl, (vF _ d).symm⟩, trivial⟩ rfl
theorem gn (m : Nat) (p0 : (List (List Int))) (a : List Int) (b : Nat) (r0 : List Int) (h : ((b < p0.length) → ∃ c, p0[b]? = some c ∧ (a ++ c).length ≤ 1000000000 ∧ b + 1 ≤ 9223372036854775807 ∧ hI m p0 (a ++ c) (b + 1) r0) ∧ ((¬ b < p0.length) → a = r0)) : hI (m + 1) p0 a b r0 := by
 intro K j1 hK hj1
 obtain ⟨j1, rfl⟩ : ∃ j, j1 = j + 1 := ⟨j1 - 1, by omega⟩
 refine gR 6 rfl <| gB 28 rfl rfl rfl ?_ ?_ <;> intro hd
 replace hd := (dO hd)
 replace h := h.1 hd
 refine gR 7 rfl ?_
 obtain ⟨c, hxx2_1, h⟩ := h
 refine gY (bx (mapget (f := (fun l => V.row 1 (List.map (V.int .i64) l))) hxx2_1) ah rfl rfl rfl rfl) rfl rfl <| gR 7 rfl ?_
 obtain ⟨hb, h⟩ := h
 refine gDo (.repl 0 (.row 3 1 (List.map (V.int .i64) (a ++ c)))) (nb ah rfl rfl rfl rfl rfl (List.map_append (f := (V.int .i64)) (l₁ := a) (l₂ := c)).symm (by rw [aF]; exact hb)) (okR rfl) rfl rfl rfl <| gR 5 rfl ?_
 obtain ⟨hb, h⟩ := h
 exact gR 1 rfl <| gV 34 (.int .i64 ((b + 1 : Nat) : Int)) rfl (au (by omega) (by omega)) rfl <| gR 2 rfl <| go_xloop <| gJ (h K _ hK (by omega)) [1] [] rfl hK pq4 ⟨⟨_, rfl, rfl, rfl, (vF _ (a ++ c)).symm⟩, trivial⟩ rfl
 replace hd := (dQ hd)
 replace h := h.2 hd
 refine gR 3 rfl <| go_xloopE <| gR 9 rfl ?_
 subst h
 exact go_sub (F' := (mkF 36 0 [(2, .sl 0)])) (H' := ⟨1, [(0, .row 3 1 (List.map (V.int .i64) a))]⟩) [0] [] rfl hK pq1 ⟨⟨_, rfl, rfl, rfl, (vF _ a).symm⟩, trivial⟩ rfl <| go_endD [] ah (rs := [.tmp 2]) rfl rfl ⟨rfl, rfl⟩
def eh (m : Nat) (p0 p1 : List Int) (a : Nat) (r0 : Bool) : Prop := ∀ (K : Ctx) (j1 : Nat), aG K [0] → m ≤ j1 → qLG K Tryz.f87 (fun u G => u = .bool r0 ∧ G = ⟨1, [(0, .row 3 1 (List.map (V.int .i64) p0))]⟩) (xE (ai Tryz.f87)) [.loop (xE (ai Tryz.f87)) j1, .blk 0, .seq (xF (ai Tryz.f87))] 26 (mkF 26 0 [(0, .sl 0), (1, .row 1 (List.map (V.int .i64) p1)), (12, .int .i64 (p0.length : Int)), (13, .int .i64 (a : Int))]) ⟨1, [(0, .row 3 1 (List.map (V.int .i64) p0))]⟩
theorem jE (m : Nat) (p0 p1 : List Int) (r0 : Bool) (h : ((p0.length ≠ p1.length) → false = r0) ∧ ((p0.length = p1.length) → eh m p0 p1 0 r0)) : gP p0 p1 r0 := by
 refine al 26 [0] Tryz.func87 rfl rfl rfl (aA rfl) fun K hK => ?_
 refine gR 10 rfl <| gV 7 (.int .i64 (p0.length : Int)) rfl (aM (aF (V.int .i64) _)) rfl <| gLO 0 rfl (aF (V.int .i64) _) fun hl5 => gR 2 rfl <| gV 9 (.int .i64 (p1.length : Int)) rfl (aM (aF (V.int .i64) _)) rfl <| gLB 8 rfl (aF (V.int .i64) _) fun hl6 => gR 3 rfl <| gB 10 rfl rfl rfl ?_ ?_ <;> intro hd
 replace hd := (yG hd)
 replace h := h.1 hd
 refine gR 8 rfl ?_
 subst h
 exact go_sub (F' := (mkF 26 0 [(4, .bool false)])) (H' := ⟨1, [(0, .row 3 1 (List.map (V.int .i64) p0))]⟩) [0] [0] rfl hK pq1 ⟨⟨_, rfl, rfl, rfl, (vF _ p0).symm⟩, trivial⟩ rfl <| go_endD [] ah (rs := [.tmp 4]) rfl rfl ⟨rfl, rfl⟩
 replace hd := (yh hd)
 replace h := h.2 hd
 exact gR 8 rfl <| gV 12 (.int .i64 (p0.length : Int)) rfl (aM (aF (V.int .i64) _)) rfl <| gR 4 rfl <| go_loop m <| gJ (h K _ hK (by omega)) [0] [0] rfl hK pq4 ⟨⟨_, rfl, rfl, rfl, (vF _ p0).symm⟩, trivial⟩ rfl
theorem jr (m : Nat) (p0 p1 : List Int) (a : Nat) (r0 : Bool) (h : ((a < p0.length) → ∃ b, p0[a]? = some b ∧ ∃ c, p1[a]? = some c ∧ ((b ≠ c) → false = r0) ∧ ((b = c) → a + 1 ≤ 9223372036854775807 ∧ eh m p0 p1 (a + 1) r0)) ∧ ((¬ a < p0.length) → true = r0)) : eh (m + 1) p0 p1 a r0 := by
 intro K j1 hK hj1
 obtain ⟨j1, rfl⟩ : ∃ j, j1 = j + 1 := ⟨j1 - 1, by omega⟩
 refine gR 6 rfl <| gB 14 rfl rfl rfl ?_ ?_ <;> intro hd
 replace hd := (dO hd)
 replace h := h.1 hd
 refine gR 12 rfl <| gDs [0] 8 9 rfl (by kernel_rfl) (by kernel_rfl) <| gDr [(0, 2), (1, 2)] (by kernel_rfl) rfl rfl ?_
 obtain ⟨b, hxn1_1, h⟩ := h
 refine gYd 2 rfl (by kernel_rfl) (yIO ah rfl rfl rfl rfl (by have := (mapget (f := (V.int .i64)) hxn1_1); exact (List.getElem?_eq_some_iff.1 this).1)) rfl rfl ?_
 refine xH 3 rfl (by kernel_rfl) rfl ah rfl rfl rfl (mapget (f := (V.int .i64)) hxn1_1) rfl rfl ?_
 refine gDr [(4, 2), (5, 0)] (by kernel_rfl) rfl rfl ?_
 obtain ⟨c, hxn1_2, h⟩ := h
 refine nh 6 rfl (by kernel_rfl) (bx (mapget (f := (V.int .i64)) hxn1_2) ah rfl rfl rfl rfl) rfl rfl ?_
 refine gDr [(7, 0), (8, 1)] (by kernel_rfl) rfl rfl <| gDe (by kernel_rfl) <| gR 1 rfl <| gB 24 rfl rfl rfl ?_ ?_ <;> intro hd
 replace hd := (ec hd)
 replace h := h.1 hd
 refine gR 9 rfl <| go_xloopR <| gR 2 rfl ?_
 subst h
 exact go_sub (F' := (mkF 26 0 [(4, .bool false)])) (H' := ⟨1, [(0, .row 3 1 (List.map (V.int .i64) p0))]⟩) [0] [0] rfl hK pq1 ⟨⟨_, rfl, rfl, rfl, (vF _ p0).symm⟩, trivial⟩ rfl <| go_endD [] ah (rs := [.tmp 4]) rfl rfl ⟨rfl, rfl⟩
 replace hd := (cP hd)
 replace h := h.2 hd
 refine gR 5 rfl ?_
 obtain ⟨hb, h⟩ := h
 exact gR 1 rfl <| gV 25 (.int .i64 ((a + 1 : Nat) : Int)) rfl (au (by omega) (by omega)) rfl <| gR 2 rfl <| go_xloop <| gJ (h K _ hK (by omega)) [0] [0] rfl hK pq4 ⟨⟨_, rfl, rfl, rfl, (vF _ p0).symm⟩, trivial⟩ rfl
 replace hd := (dQ hd)
 replace h := h.2 hd
 refine gR 3 rfl <| go_xloopE <| gR 8 rfl ?_
 subst h
 exact go_sub (F' := (mkF 26 0 [(4, .bool true)])) (H' := ⟨1, [(0, .row 3 1 (List.map (V.int .i64) p0))]⟩) [0] [0] rfl hK pq1 ⟨⟨_, rfl, rfl, rfl, (vF _ p0).symm⟩, trivial⟩ rfl <| go_endD [] ah (rs := [.tmp 4]) rfl rfl ⟨rfl, rfl⟩
def il (m : Nat) (p1 : List Int) (a : Tree) (b : Nat) (r0 : Tree) (r1 : Bool) : Prop := ∀ (K : Ctx) (j1 : Nat), aG K [] → m ≤ j1 → qLG K Tryz.f29 (fun u _ => u = .tup [.agg (ao r0), .bool r1]) (xC (cA (cB (ai Tryz.f29)))) [.loop (xC (cA (cB (ai Tryz.f29)))) j1, .blk 0, .seq (xA (ai Tryz.f29))] 31 (mkF 31 0 [(2, .ptr 0 0), (4, .ptr 1 0), (8, .row 1 (List.map (V.int .i64) p1)), (9, .int .i64 (p1.length : Int)), (10, .int .i64 (b : Int))]) ⟨2, [(1, .var 29 [.int .i64 0, .str [], .nils, .nils]), (0, .var 29 (ao a))]⟩
theorem rY (m : Nat) (p0 : Tree) (p1 : List Int) (r0 : Tree) (r1 : Bool) (h : il m p1 p0 0 r0 r1) : lw p0 p1 r0 r1 := by
 refine ⟨rfl, rfl, ?_⟩
 refine al 31 [] Tryz.func29 rfl rfl rfl (aA rfl) fun K hK => ?_
 exact gR 12 rfl <| gV 9 (.int .i64 (p1.length : Int)) rfl (aM (aF (V.int .i64) _)) rfl <| gLB 8 rfl (aF (V.int .i64) _) fun hl5 => gR 4 rfl <| go_loop m <| gJ (h K _ hK (by omega)) [0, 1] [] rfl hK pq5 (pqo2 rfl rfl rfl rfl) rfl
theorem mx (m : Nat) (p1 : List Int) (a : Tree) (b : Nat) (r0 : Tree) (r1 : Bool) (h : ((b < p1.length) → ∃ c, p1[b]? = some c ∧ ((c < 0) → (Tree.node 0 [] [] []) = r0 ∧ false = r1) ∧ ((¬ c < 0) → (((a.kids.length : Int) ≤ c) → (Tree.node 0 [] [] []) = r0 ∧ false = r1) ∧ ((¬ (a.kids.length : Int) ≤ c) → ∃ d, c = ((d : Nat) : Int) ∧ ∃ e, a.kids[d]? = some e ∧ b + 1 ≤ 9223372036854775807 ∧ il m p1 e (b + 1) r0 r1))) ∧ ((¬ b < p1.length) → a = r0 ∧ true = r1)) : il (m + 1) p1 a b r0 r1 := by
 intro K j1 hK hj1
 obtain ⟨j1, rfl⟩ : ∃ j, j1 = j + 1 := ⟨j1 - 1, by omega⟩
 refine gR 6 rfl <| gB 11 rfl rfl rfl ?_ ?_ <;> intro hd
 replace hd := (dO hd)
 replace h := h.1 hd
 refine gR 7 rfl ?_
 obtain ⟨c, hxn1_1, h⟩ := h
 refine gY (bx (mapget (f := (V.int .i64)) hxn1_1) ah rfl rfl rfl rfl) rfl rfl <| gR 10 rfl <| gB 16 rfl rfl rfl ?_ ?_ <;> intro hd
 refine gT 15 rfl hd rfl ?_
 replace hd := (of_decide_eq_true hd)
 replace h := h.1 hd
 refine gR 20 rfl <| go_xloopR <| gR 2 rfl ?_
 obtain ⟨rfl, rfl⟩ := h
 exact go_sub (F' := (mkF 31 0 [(4, .ptr 0 0), (5, .bool false)])) (H' := ⟨1, [(0, vC ((Tree.node 0 [] [] []).kind) ((Tree.node 0 [] [] []).text) ((Tree.node 0 [] [] []).leads) ((Tree.node 0 [] [] []).kids))]⟩) [1] [] rfl hK pq2 ⟨⟨_, rfl, rfl, (.cons .rfl (.cons .rfl (.cons (.nil 1) (.cons (.nil 4) .nil))))⟩, trivial⟩ rfl <| go_end ah (rs := [.cell 4 29, .tmp 5]) rfl rfl rfl
 refine gF 15 rfl hd rfl ?_
 replace hd := (of_decide_eq_false hd)
 replace h := h.2 hd
 refine gR 4 rfl <| gV 20 (.int .i64 (a.kids.length : Int)) rfl (aM (aK _)) rfl <| gLB 19 rfl (aK _) fun hl6 => gR 4 rfl <| gB 22 rfl rfl rfl ?_ ?_ <;> intro hd
 replace hd := (of_decide_eq_true hd)
 replace h := h.1 hd
 refine gR 12 rfl <| go_xloopR <| gR 2 rfl ?_
 obtain ⟨rfl, rfl⟩ := h
 exact go_sub (F' := (mkF 31 0 [(4, .ptr 0 0), (5, .bool false)])) (H' := ⟨1, [(0, vC ((Tree.node 0 [] [] []).kind) ((Tree.node 0 [] [] []).text) ((Tree.node 0 [] [] []).leads) ((Tree.node 0 [] [] []).kids))]⟩) [1] [] rfl hK pq2 ⟨⟨_, rfl, rfl, (.cons .rfl (.cons .rfl (.cons (.nil 1) (.cons (.nil 4) .nil))))⟩, trivial⟩ rfl <| go_end ah (rs := [.cell 4 29, .tmp 5]) rfl rfl rfl
 replace hd := (of_decide_eq_false hd)
 replace h := h.2 hd
 refine gR 7 rfl ?_
 obtain ⟨d, g, h⟩ := h
 refine gV 26 (.int .i64 ((d : Nat) : Int)) rfl (cy g) rfl ?_
 obtain ⟨e, hxt1_3, h⟩ := h
 refine gY (bx (aL hxt1_3) ah rfl rfl rfl rfl) rfl rfl <| gR 6 rfl ?_
 obtain ⟨hb, h⟩ := h
 exact gR 1 rfl <| gV 29 (.int .i64 ((b + 1 : Nat) : Int)) rfl (au (by omega) (by omega)) rfl <| gR 2 rfl <| go_xloop <| gJ (h K _ hK (by omega)) [0, 1] [] rfl hK pq5 (pqo2 rfl rfl rfl rfl) rfl
 replace hd := (dQ hd)
 replace h := h.2 hd
 refine gR 3 rfl <| go_xloopE <| gR 10 rfl ?_
 obtain ⟨rfl, rfl⟩ := h
 exact go_sub (F' := (mkF 31 0 [(4, .ptr 0 0), (5, .bool true)])) (H' := ⟨1, [(0, vC a.kind a.text a.leads a.kids)]⟩) [1] [] rfl hK pq2 (pqo1 rfl rfl) rfl <| go_end ah (rs := [.cell 4 29, .tmp 5]) rfl rfl rfl
theorem rS_typing_checker_fault (m : Nat) (β : List Tree) (n : List GTarget) (r : (List ((Int × (List UInt8)) × ac))) (c : (List ((Int × Int) × aa))) (a : Int) (o : List Int) (b : List ae) (d : Int) (g : List Int) (e f p1 : Int) (p2 : List Int) (γ : List Tree) (s : List GTarget) (z : (List ((Int × (List UInt8)) × ac))) (q : (List ((Int × Int) × aa))) (v : Int) (α : List Int) (y : List ae) (i : Int) (l : List Int) (j k : Int) (h : ∃ t, iB [o, p2] t ∧ (b ++ [(ae.mk (GPlace.mk a t) p1)]).length ≤ 1000000000 ∧ β = γ ∧ n = s ∧ r = z ∧ c = q ∧ a = v ∧ o = α ∧ (b ++ [(ae.mk (GPlace.mk a t) p1)]) = y ∧ d = i ∧ g = l ∧ e = j ∧ f = k) : ar β n r c a o b d g e f p1 p2 γ s z q v α y i l j k := by
 refine al 31 [2, 1, 0] Tryz.func36 rfl rfl rfl (aA rfl) fun K hK => ?_
 refine gR 8 rfl ?_
 obtain ⟨t, hs2, h⟩ := h
 refine CT 5 hs2 (by kernel_rfl) rfl rfl rfl rfl rfl (me _ (fun _ => rfl) _) rfl rfl ?_
 refine gR 3 rfl <| gDs [0] 17 18 rfl (by kernel_rfl) (by kernel_rfl) <| gDr [(0, 2), (1, 2), (2, 2), (3, 2), (4, 3), (5, 2), (6, 2), (7, 2), (8, 3), (9, 2), (10, 2), (11, 0), (12, 0)] (by kernel_rfl) rfl rfl <| gFR 6 rfl (me _ (fun _ => rfl) _) rfl rfl <| gDr [(13, 0)] (by kernel_rfl) rfl rfl ?_
 obtain ⟨hb, h⟩ := h
 refine eE 14 (.repl 4 (.row 42 3 (List.map ae.w (b ++ [(ae.mk (GPlace.mk a t) p1)])))) rfl (by kernel_rfl) (nb ah rfl rfl rfl rfl rfl (apM ae.w b (ae.mk (GPlace.mk a t) p1)) (by rw [aF]; exact hb)) (okR rfl) rfl (by kernel_rfl) rfl rfl ?_
 refine gDr [(15, 0), (16, 0), (17, 1)] (by kernel_rfl) rfl rfl <| gDe (by kernel_rfl) ?_
 obtain ⟨rfl, rfl, rfl, rfl, rfl, rfl, rfl, rfl, rfl, rfl, rfl⟩ := h
 refine go_sub (F' := (mkF 31 0 [])) (H' := ⟨5, [(4, .row 42 3 (List.map ae.w (b ++ [(ae.mk (GPlace.mk a t) p1)]))), (3, .row 3 1 (List.map (V.int .i64) o)), (2, .mp 84 81 (List.map (fun p => (fun x => V.agg [(V.int .i64 x.1), (V.int .i64 x.2)]) p.1) c) (List.map (fun p => aa.w p.2) c)), (1, .mp 137 61 (List.map (fun p => (fun x => V.agg [(V.int .i64 x.1), (V.str x.2)]) p.1) r) (List.map (fun p => ac.w p.2) r)), (0, vA β (.row 5 (List.map GTarget.w n)) a d g e f)]⟩) [0, 1, 2, 3, 8] [2, 1, 0] rfl hK trivial ⟨⟨_, rfl, rfl, rfl, (vH _ (b ++ [(ae.mk (GPlace.mk a t) p1)])).symm⟩, ⟨_, rfl, rfl, rfl, (vF _ o).symm⟩, ⟨_, rfl, rfl, rfl, rfl, rfl⟩, ⟨_, rfl, rfl, rfl, rfl, rfl⟩, (pqo1 rfl rfl)⟩ rfl ?_
 exact go_endD [] ah (rs := []) rfl rfl ⟨rfl, rfl⟩
theorem lF (m : Nat) (γ : List Tree) (a : List GTarget) (q : (List ((Int × (List UInt8)) × ac))) (b : (List ((Int × Int) × aa))) (r : Int) (s : List Int) (l : List ae) (c : Int) (g : List Int) (d e : Int) (r0 : GTarget) (δ : List Tree) (t : List GTarget) (α : (List ((Int × (List UInt8)) × ac))) (o : (List ((Int × Int) × aa))) (y : Int) (β : List Int) (z : List ae) (i : Int) (n : List Int) (j k : Int) (h : ∃ v, a[0]? = some v ∧ 1 ≤ a.length ∧ v = r0 ∧ γ = δ ∧ (a.drop 1) = t ∧ q = α ∧ b = o ∧ r = y ∧ s = β ∧ l = z ∧ c = i ∧ g = n ∧ d = j ∧ e = k) : dm γ a q b r s l c g d e r0 δ t α o y β z i n j k := by
 refine al 19 [2, 1, 0] Tryz.func63 rfl rfl rfl (aA rfl) fun K hK => ?_
 refine gR 11 rfl ?_
 obtain ⟨v, hxx0_1, h⟩ := h
 refine gY (bx (mapget (f := GTarget.w) hxx0_1) ah rfl rfl rfl rfl) rfl rfl <| gR 12 rfl ?_
 obtain ⟨hb, h⟩ := h
 refine gY (xU (aF GTarget.w a) ah rfl rfl (sS rfl) rb hb (Nat.le_refl _) ((Da _ _ _ _).trans (congrArg _ (rZ _ _)))) rfl rfl <| gR 12 rfl ?_
 obtain ⟨rfl, rfl, rfl, rfl, rfl, rfl, rfl, rfl, rfl, rfl, rfl, rfl⟩ := h
 refine go_sub (F' := (mkF 19 0 [(2, .ptr 5 0)])) (H' := ⟨6, [(5, .var 120 (GTarget.c v)), (4, .row 42 3 (List.map ae.w l)), (3, .row 3 1 (List.map (V.int .i64) s)), (2, .mp 84 81 (List.map (fun p => (fun x => V.agg [(V.int .i64 x.1), (V.int .i64 x.2)]) p.1) b) (List.map (fun p => aa.w p.2) b)), (1, .mp 137 61 (List.map (fun p => (fun x => V.agg [(V.int .i64 x.1), (V.str x.2)]) p.1) q) (List.map (fun p => ac.w p.2) q)), (0, vA γ (.row 5 (List.map GTarget.w (a.drop 1))) r c g d e)]⟩) [0, 1, 2, 3, 4, 5] [2, 1, 0] rfl hK pq1 ⟨pqo rfl rfl, ⟨_, rfl, rfl, rfl, (vH _ l).symm⟩, ⟨_, rfl, rfl, rfl, (vF _ s).symm⟩, ⟨_, rfl, rfl, rfl, rfl, rfl⟩, ⟨_, rfl, rfl, rfl, rfl, rfl⟩, (pqo1 rfl rfl)⟩ rfl ?_
 exact go_endD [5] ah (rs := [.cell 2 120]) rfl rfl ⟨rfl, rfl⟩
theorem kB (m : Nat) (α : List Tree) (n : List GTarget) (q : (List ((Int × (List UInt8)) × ac))) (a : (List ((Int × Int) × aa))) (r : Int) (f : List Int) (k : List ae) (b : Int) (e : List Int) (c d p1 : Int) (β : List Tree) (s : List GTarget) (y : (List ((Int × (List UInt8)) × ac))) (o : (List ((Int × Int) × aa))) (t : Int) (z : List Int) (v : List ae) (g : Int) (l : List Int) (i j : Int) (h : (f ++ [p1]).length ≤ 1000000000 ∧ α = β ∧ n = s ∧ q = y ∧ a = o ∧ r = t ∧ (f ++ [p1]) = z ∧ k = v ∧ b = g ∧ e = l ∧ c = i ∧ d = j) : ba α n q a r f k b e c d p1 β s y o t z v g l i j := by
 refine al 14 [2, 1, 0] Tryz.func33 rfl rfl rfl (aA rfl) fun K hK => ?_
 refine gR 8 rfl ?_
 obtain ⟨hb, h⟩ := h
 refine gDo (.repl 3 (.row 3 1 (List.map (V.int .i64) (f ++ [p1])))) (nb ah rfl rfl rfl rfl rfl (apM (V.int .i64) f p1) (by rw [aF]; exact hb)) (okR rfl) rfl rfl rfl <| gR 4 rfl ?_
 obtain ⟨rfl, rfl, rfl, rfl, rfl, rfl, rfl, rfl, rfl, rfl, rfl⟩ := h
 refine go_sub (F' := (mkF 14 0 [])) (H' := ⟨5, [(4, .row 42 3 (List.map ae.w k)), (3, .row 3 1 (List.map (V.int .i64) (f ++ [p1]))), (2, .mp 84 81 (List.map (fun p => (fun x => V.agg [(V.int .i64 x.1), (V.int .i64 x.2)]) p.1) a) (List.map (fun p => aa.w p.2) a)), (1, .mp 137 61 (List.map (fun p => (fun x => V.agg [(V.int .i64 x.1), (V.str x.2)]) p.1) q) (List.map (fun p => ac.w p.2) q)), (0, vA α (.row 5 (List.map GTarget.w n)) r b e c d)]⟩) [0, 1, 2, 6, 4] [2, 1, 0] rfl hK trivial ⟨⟨_, rfl, rfl, rfl, (vH _ k).symm⟩, ⟨_, rfl, rfl, rfl, (vF _ (f ++ [p1])).symm⟩, ⟨_, rfl, rfl, rfl, rfl, rfl⟩, ⟨_, rfl, rfl, rfl, rfl, rfl⟩, (pqo1 rfl rfl)⟩ rfl ?_
 exact go_endD [] ah (rs := []) rfl rfl ⟨rfl, rfl⟩
theorem kC (m : Nat) (β : List Tree) (n : List GTarget) (q : (List ((Int × (List UInt8)) × ac))) (a : (List ((Int × Int) × aa))) (r : Int) (b : List Int) (k : List ae) (c : Int) (f : List Int) (d e : Int) (γ : List Tree) (s : List GTarget) (z : (List ((Int × (List UInt8)) × ac))) (o : (List ((Int × Int) × aa))) (v : Int) (α : List Int) (y : List ae) (g : Int) (l : List Int) (i j : Int) (h : ∃ t, ((b.length : Int) - 1) = ((t : Nat) : Int) ∧ t ≤ b.length ∧ β = γ ∧ n = s ∧ q = z ∧ a = o ∧ r = v ∧ (b.take t) = α ∧ k = y ∧ c = g ∧ f = l ∧ d = i ∧ e = j) : az β n q a r b k c f d e γ s z o v α y g l i j := by
 refine al 16 [2, 1, 0] Tryz.func38 rfl rfl rfl (aA rfl) fun K hK => ?_
 refine gDs [0] 14 15 rfl (by kernel_rfl) (by kernel_rfl) ?_
 refine gDr [(0, 2), (1, 2), (2, 2), (3, 2), (4, 3), (5, 0), (6, 0), (7, 0), (8, 0), (9, 0)] (by kernel_rfl) rfl rfl <| gV 11 (.int .i64 (b.length : Int)) rfl (aM (aF (V.int .i64) _)) rfl <| gLO 3 rfl (aF (V.int .i64) _) fun hl8 => gDr [(10, 0)] (by kernel_rfl) rfl rfl <| gV 12 (.int .i64 ((b.length : Int) - 1)) rfl (au (by have := hl8; omega) rfl) rfl ?_
 obtain ⟨t, δ, h⟩ := h
 refine gV 12 (.int .i64 ((t : Nat) : Int)) rfl (cy δ) rfl ?_
 obtain ⟨hb, h⟩ := h
 refine eE 11 (.repl 3 (.row 3 1 (List.map (V.int .i64) (b.take t)))) rfl (by kernel_rfl) (dTr ah rfl rfl rfl rfl (by rw [aF]; exact hb) (yW _ _ _)) (okR rfl) rfl (by kernel_rfl) rfl rfl ?_
 refine gDr [(12, 0), (13, 0), (14, 1)] (by kernel_rfl) rfl rfl <| gDe (by kernel_rfl) ?_
 obtain ⟨rfl, rfl, rfl, rfl, rfl, rfl, rfl, rfl, rfl, rfl, rfl⟩ := h
 refine go_sub (F' := (mkF 16 0 [])) (H' := ⟨5, [(4, .row 42 3 (List.map ae.w k)), (3, .row 3 1 (List.map (V.int .i64) (b.take t))), (2, .mp 84 81 (List.map (fun p => (fun x => V.agg [(V.int .i64 x.1), (V.int .i64 x.2)]) p.1) a) (List.map (fun p => aa.w p.2) a)), (1, .mp 137 61 (List.map (fun p => (fun x => V.agg [(V.int .i64 x.1), (V.str x.2)]) p.1) q) (List.map (fun p => ac.w p.2) q)), (0, vA β (.row 5 (List.map GTarget.w n)) r c f d e)]⟩) [0, 1, 2, 5, 4] [2, 1, 0] rfl hK trivial ⟨⟨_, rfl, rfl, rfl, (vH _ k).symm⟩, ⟨_, rfl, rfl, rfl, (vF _ (b.take t)).symm⟩, ⟨_, rfl, rfl, rfl, rfl, rfl⟩, ⟨_, rfl, rfl, rfl, rfl, rfl⟩, (pqo1 rfl rfl)⟩ rfl ?_
 exact go_endD [] ah (rs := []) rfl rfl ⟨rfl, rfl⟩
theorem cW (m : Nat) (p0_p : List Tree) (p0_targets : List GTarget) (p0_names : (List ((Int × (List UInt8)) × ac))) (t : (List ((Int × Int) × aa))) (p0_module : Int) (p0_path : List Int) (ι : List ae) (k : Int) (s : List Int) (l n : Int) (p1 : Tree) (p2 : Int) (q0_p : List Tree) (g : List GTarget) (o : (List ((Int × (List UInt8)) × ac))) (e : (List ((Int × Int) × aa))) (i : Int) (v : List Int) (j : List ae) (a : Int) (d : List Int) (b c : Int) (h : ∃ r0_1 r0_2, ∃ (r0_3 : (List ((Int × (List UInt8)) × ac))), ∃ (r0_4 : (List ((Int × Int) × aa))), ∃ n0_5 y z n0_8 r0_9 n0_10 n0_11, ba p0_p p0_targets p0_names t p0_module p0_path ι k s l n p2 r0_1 r0_2 r0_3 r0_4 n0_5 y z n0_8 r0_9 n0_10 n0_11 ∧ ∃ k0_12, p2 = ((k0_12 : Nat) : Int) ∧ ∃ f, p1.kids[k0_12]? = some f ∧ ((f.kind = 9) → ∃ r0_14 r0_15 r0_16, ∃ (r0_17 : (List ((Int × (List UInt8)) × ac))), ∃ (r0_18 : (List ((Int × Int) × aa))), ∃ n0_19 q r n0_22 r0_23 n0_24 n0_25, dm r0_1 r0_2 r0_3 r0_4 n0_5 y z n0_8 r0_9 n0_10 n0_11 r0_14 r0_15 r0_16 r0_17 r0_18 n0_19 q r n0_22 r0_23 n0_24 n0_25 ∧ ((r0_14.Free = true) → ∃ r0_26 r0_27, ∃ (r0_28 : (List ((Int × (List UInt8)) × ac))), ∃ (r0_29 : (List ((Int × Int) × aa))), ∃ n0_30 κ μ n0_33 r0_34 n0_35 n0_36, ar r0_15 r0_16 r0_17 r0_18 n0_19 q r n0_22 r0_23 n0_24 n0_25 1 [] r0_26 r0_27 r0_28 r0_29 n0_30 κ μ n0_33 r0_34 n0_35 n0_36 ∧ ∃ r0_37 r0_38, ∃ (ν : (List ((Int × (List UInt8)) × ac))), ∃ (ξ : (List ((Int × Int) × aa))), ∃ n0_41 α β n0_44 r0_45 n0_46 n0_47, az r0_26 r0_27 r0_28 r0_29 n0_30 κ μ n0_33 r0_34 n0_35 n0_36 r0_37 r0_38 ν ξ n0_41 α β n0_44 r0_45 n0_46 n0_47 ∧ r0_37 = q0_p ∧ r0_38 = g ∧ ν = o ∧ ξ = e ∧ n0_41 = i ∧ α = v ∧ β = j ∧ n0_44 = a ∧ r0_45 = d ∧ n0_46 = b ∧ n0_47 = c) ∧ ((r0_14.Free = false) → ∃ r0_48 r0_49, ∃ (ο : (List ((Int × (List UInt8)) × ac))), ∃ (π : (List ((Int × Int) × aa))), ∃ n0_52 γ δ n0_55 r0_56 n0_57 n0_58, az r0_15 r0_16 r0_17 r0_18 n0_19 q r n0_22 r0_23 n0_24 n0_25 r0_48 r0_49 ο π n0_52 γ δ n0_55 r0_56 n0_57 n0_58 ∧ r0_48 = q0_p ∧ r0_49 = g ∧ ο = o ∧ π = e ∧ n0_52 = i ∧ γ = v ∧ δ = j ∧ n0_55 = a ∧ r0_56 = d ∧ n0_57 = b ∧ n0_58 = c)) ∧ ((f.kind ≠ 9) → ((f.kind = 8) → ∃ r0_59 r0_60, ∃ (r0_61 : (List ((Int × (List UInt8)) × ac))), ∃ (r0_62 : (List ((Int × Int) × aa))), ∃ n0_63 τ υ n0_66 r0_67 n0_68 n0_69, bh r0_1 r0_2 r0_3 r0_4 n0_5 y z n0_8 r0_9 n0_10 n0_11 f 0 r0_59 r0_60 r0_61 r0_62 n0_63 τ υ n0_66 r0_67 n0_68 n0_69 ∧ ∃ r0_70 r0_71, ∃ (φ : (List ((Int × (List UInt8)) × ac))), ∃ (χ : (List ((Int × Int) × aa))), ∃ n0_74 ε ζ n0_77 r0_78 n0_79 n0_80, az r0_59 r0_60 r0_61 r0_62 n0_63 τ υ n0_66 r0_67 n0_68 n0_69 r0_70 r0_71 φ χ n0_74 ε ζ n0_77 r0_78 n0_79 n0_80 ∧ r0_70 = q0_p ∧ r0_71 = g ∧ φ = o ∧ χ = e ∧ n0_74 = i ∧ ε = v ∧ ζ = j ∧ n0_77 = a ∧ r0_78 = d ∧ n0_79 = b ∧ n0_80 = c) ∧ ((f.kind ≠ 8) → ∃ r0_81 r0_82, ∃ (ψ : (List ((Int × (List UInt8)) × ac))), ∃ (ω : (List ((Int × Int) × aa))), ∃ n0_85 η θ n0_88 r0_89 n0_90 n0_91, az r0_1 r0_2 r0_3 r0_4 n0_5 y z n0_8 r0_9 n0_10 n0_11 r0_81 r0_82 ψ ω n0_85 η θ n0_88 r0_89 n0_90 n0_91 ∧ r0_81 = q0_p ∧ r0_82 = g ∧ ψ = o ∧ ω = e ∧ n0_85 = i ∧ η = v ∧ θ = j ∧ n0_88 = a ∧ r0_89 = d ∧ n0_90 = b ∧ n0_91 = c))) : bh p0_p p0_targets p0_names t p0_module p0_path ι k s l n p1 p2 q0_p g o e i v j a d b c := by
 refine al 31 [2, 1, 0] Tryz.func37 rfl rfl rfl (aA rfl) fun K hK => ?_
 refine gR 3 rfl <| gFP 5 rfl rfl rfl rfl <| gR 6 rfl ?_
 obtain ⟨r0_1, r0_2, r0_3, r0_4, n0_5, y, z, n0_8, r0_9, n0_10, n0_11, hs9, h⟩ := h
 refine gCZ hs9 [0, 1, 2, 3, 4] ⟨⟨_, rfl, ⟨rfl, rfl, (vH _ ι).symm⟩⟩, ⟨⟨_, rfl, ⟨rfl, rfl, (vF _ p0_path).symm⟩⟩, ⟨⟨_, rfl, ⟨rfl, rfl, rfl, rfl⟩⟩, ⟨⟨_, rfl, ⟨rfl, rfl, rfl, rfl⟩⟩, ⟨⟨_, rfl, ⟨rfl, an.rfl⟩⟩, trivial⟩⟩⟩⟩⟩ ?_
 refine gHR 9 (List.map (V.int .i64) y) rfl (vF _ y) rfl <| gHR 10 (List.map ae.w z) rfl (vH _ z) rfl <| gHn ⟨11, [(10, .row 42 3 (List.map ae.w z)), (9, .row 3 1 (List.map (V.int .i64) y)), (2, .mp 84 81 (List.map (fun p => (fun x => V.agg [(V.int .i64 x.1), (V.int .i64 x.2)]) p.1) r0_4) (List.map (fun p => aa.w p.2) r0_4)), (1, .mp 137 61 (List.map (fun p => (fun x => V.agg [(V.int .i64 x.1), (V.str x.2)]) p.1) r0_3) (List.map (fun p => ac.w p.2) r0_3)), (0, vE r0_1 (.row 5 (List.map GTarget.w r0_2)) n0_5 n0_8 r0_9 n0_10 n0_11)]⟩ rfl ⟨rfl, rfl, rfl, rfl, rfl, trivial⟩ ?_
 refine gR 7 rfl ?_
 obtain ⟨k0_12, ek0_12, h⟩ := h
 refine gV 12 (.int .i64 ((k0_12 : Nat) : Int)) rfl (cy ek0_12) rfl ?_
 obtain ⟨f, hxt0_13, h⟩ := h
 refine gY (bx (aL hxt0_13) ah rfl rfl rfl rfl) rfl rfl <| gR 19 rfl <| qBeZ 17 18 rfl rfl rfl rfl h (fun h => ?_) fun h => ?_
 refine gR 4 rfl ?_
 obtain ⟨r0_14, r0_15, r0_16, r0_17, r0_18, n0_19, q, r, n0_22, r0_23, n0_24, n0_25, hs10, h⟩ := h
 refine gCZ hs10 [0, 1, 2, 9, 10] ⟨⟨_, rfl, ⟨rfl, rfl, (vH _ z).symm⟩⟩, ⟨⟨_, rfl, ⟨rfl, rfl, (vF _ y).symm⟩⟩, ⟨⟨_, rfl, ⟨rfl, rfl, rfl, rfl⟩⟩, ⟨⟨_, rfl, ⟨rfl, rfl, rfl, rfl⟩⟩, ⟨⟨_, rfl, ⟨rfl, an.rfl⟩⟩, trivial⟩⟩⟩⟩⟩ ?_
 refine gHR 15 (List.map (V.int .i64) q) rfl (vF _ q) rfl <| gHR 16 (List.map ae.w r) rfl (vH _ r) rfl <| gHn ⟨18, [(16, .row 42 3 (List.map ae.w r)), (15, .row 3 1 (List.map (V.int .i64) q)), (11, .var 29 (ao f)), (2, .mp 84 81 (List.map (fun p => (fun x => V.agg [(V.int .i64 x.1), (V.int .i64 x.2)]) p.1) r0_18) (List.map (fun p => aa.w p.2) r0_18)), (1, .mp 137 61 (List.map (fun p => (fun x => V.agg [(V.int .i64 x.1), (V.str x.2)]) p.1) r0_17) (List.map (fun p => ac.w p.2) r0_17)), (0, .var 63 [.row 4 (kidsV r0_15), .row 5 (List.map GTarget.w r0_16), .sl 1, .sl 2, .int .i64 n0_19, .sl 15, .sl 16, .int .i64 n0_22, .row 1 (List.map (V.int .i64) r0_23), .int .i64 n0_24, .int .i64 n0_25])]⟩ rfl ⟨rfl, rfl, rfl, rfl, rfl, rfl, trivial⟩ ?_
 refine gR 3 rfl <| qBi 21 rfl rfl rfl h (fun h => ?_) fun h => ?_
 refine gR 3 rfl ?_
 obtain ⟨r0_26, r0_27, r0_28, r0_29, n0_30, κ, μ, n0_33, r0_34, n0_35, n0_36, hs11, h⟩ := h
 refine gC hs11 [0, 1, 2, 15, 16] (by kernel_rfl) rfl rfl (.cons .rfl (.cons .rfl (.cons (.nil 1) .nil))) ⟨⟨_, rfl, ⟨rfl, rfl, (vH _ r).symm⟩⟩, ⟨⟨_, rfl, ⟨rfl, rfl, (vF _ q).symm⟩⟩, ⟨⟨_, rfl, ⟨rfl, rfl, rfl, rfl⟩⟩, ⟨⟨_, rfl, ⟨rfl, rfl, rfl, rfl⟩⟩, ⟨⟨_, rfl, ⟨rfl, an.rfl⟩⟩, trivial⟩⟩⟩⟩⟩ rfl ?_
 rintro _ _ ⟨rfl, rfl⟩
 refine gHR 21 (List.map (V.int .i64) κ) rfl (vF _ κ) rfl <| gHR 22 (List.map ae.w μ) rfl (vH _ μ) rfl <| gHn ⟨23, [(22, .row 42 3 (List.map ae.w μ)), (21, .row 3 1 (List.map (V.int .i64) κ)), (11, .var 29 (ao f)), (2, .mp 84 81 (List.map (fun p => (fun x => V.agg [(V.int .i64 x.1), (V.int .i64 x.2)]) p.1) r0_29) (List.map (fun p => aa.w p.2) r0_29)), (1, .mp 137 61 (List.map (fun p => (fun x => V.agg [(V.int .i64 x.1), (V.str x.2)]) p.1) r0_28) (List.map (fun p => ac.w p.2) r0_28)), (0, .var 63 [.row 4 (kidsV r0_26), .row 5 (List.map GTarget.w r0_27), .sl 1, .sl 2, .int .i64 n0_30, .sl 21, .sl 22, .int .i64 n0_33, .row 1 (List.map (V.int .i64) r0_34), .int .i64 n0_35, .int .i64 n0_36])]⟩ rfl ⟨rfl, rfl, rfl, rfl, rfl, rfl, trivial⟩ ?_
 refine gR 5 rfl ?_
 obtain ⟨r0_37, r0_38, ν, ξ, n0_41, α, β, n0_44, r0_45, n0_46, n0_47, hs12, h⟩ := h
 refine gCZ hs12 [0, 1, 2, 21, 22] ⟨⟨_, rfl, ⟨rfl, rfl, (vH _ μ).symm⟩⟩, ⟨⟨_, rfl, ⟨rfl, rfl, (vF _ κ).symm⟩⟩, ⟨⟨_, rfl, ⟨rfl, rfl, rfl, rfl⟩⟩, ⟨⟨_, rfl, ⟨rfl, rfl, rfl, rfl⟩⟩, ⟨⟨_, rfl, ⟨rfl, an.rfl⟩⟩, trivial⟩⟩⟩⟩⟩ ?_
 refine gHR 26 (List.map (V.int .i64) α) rfl (vF _ α) rfl <| gHR 27 (List.map ae.w β) rfl (vH _ β) rfl <| gHn ⟨28, [(27, .row 42 3 (List.map ae.w β)), (26, .row 3 1 (List.map (V.int .i64) α)), (11, .var 29 (ao f)), (2, .mp 84 81 (List.map (fun p => (fun x => V.agg [(V.int .i64 x.1), (V.int .i64 x.2)]) p.1) ξ) (List.map (fun p => aa.w p.2) ξ)), (1, .mp 137 61 (List.map (fun p => (fun x => V.agg [(V.int .i64 x.1), (V.str x.2)]) p.1) ν) (List.map (fun p => ac.w p.2) ν)), (0, .var 63 [.row 4 (kidsV r0_37), .row 5 (List.map GTarget.w r0_38), .sl 1, .sl 2, .int .i64 n0_41, .sl 26, .sl 27, .int .i64 n0_44, .row 1 (List.map (V.int .i64) r0_45), .int .i64 n0_46, .int .i64 n0_47])]⟩ rfl ⟨rfl, rfl, rfl, rfl, rfl, rfl, trivial⟩ ?_
 refine gR 1 rfl ?_
 obtain ⟨rfl, rfl, rfl, rfl, rfl, rfl, rfl, rfl, rfl, rfl, rfl⟩ := h
 refine go_sub (F' := (mkF 31 0 [])) (H' := ⟨5, [(4, .row 42 3 (List.map ae.w β)), (3, .row 3 1 (List.map (V.int .i64) α)), (2, .mp 84 81 (List.map (fun p => (fun x => V.agg [(V.int .i64 x.1), (V.int .i64 x.2)]) p.1) ξ) (List.map (fun p => aa.w p.2) ξ)), (1, .mp 137 61 (List.map (fun p => (fun x => V.agg [(V.int .i64 x.1), (V.str x.2)]) p.1) ν) (List.map (fun p => ac.w p.2) ν)), (0, vA r0_37 (.row 5 (List.map GTarget.w r0_38)) n0_41 n0_44 r0_45 n0_46 n0_47)]⟩) [0, 1, 2, 26, 27] [2, 1, 0] rfl hK trivial ⟨⟨_, rfl, rfl, rfl, (vH _ β).symm⟩, ⟨_, rfl, rfl, rfl, (vF _ α).symm⟩, ⟨_, rfl, rfl, rfl, rfl, rfl⟩, ⟨_, rfl, rfl, rfl, rfl, rfl⟩, (pqo1 rfl rfl)⟩ rfl ?_
 exact go_endD [] ah (rs := []) rfl rfl ⟨rfl, rfl⟩
 refine gR 6 rfl ?_
 obtain ⟨r0_48, r0_49, ο, π, n0_52, γ, δ, n0_55, r0_56, n0_57, n0_58, hs13, h⟩ := h
 refine gCZ hs13 [0, 1, 2, 15, 16] ⟨⟨_, rfl, ⟨rfl, rfl, (vH _ r).symm⟩⟩, ⟨⟨_, rfl, ⟨rfl, rfl, (vF _ q).symm⟩⟩, ⟨⟨_, rfl, ⟨rfl, rfl, rfl, rfl⟩⟩, ⟨⟨_, rfl, ⟨rfl, rfl, rfl, rfl⟩⟩, ⟨⟨_, rfl, ⟨rfl, an.rfl⟩⟩, trivial⟩⟩⟩⟩⟩ ?_
 refine gHR 21 (List.map (V.int .i64) γ) rfl (vF _ γ) rfl <| gHR 22 (List.map ae.w δ) rfl (vH _ δ) rfl <| gHn ⟨23, [(22, .row 42 3 (List.map ae.w δ)), (21, .row 3 1 (List.map (V.int .i64) γ)), (11, .var 29 (ao f)), (2, .mp 84 81 (List.map (fun p => (fun x => V.agg [(V.int .i64 x.1), (V.int .i64 x.2)]) p.1) π) (List.map (fun p => aa.w p.2) π)), (1, .mp 137 61 (List.map (fun p => (fun x => V.agg [(V.int .i64 x.1), (V.str x.2)]) p.1) ο) (List.map (fun p => ac.w p.2) ο)), (0, .var 63 [.row 4 (kidsV r0_48), .row 5 (List.map GTarget.w r0_49), .sl 1, .sl 2, .int .i64 n0_52, .sl 21, .sl 22, .int .i64 n0_55, .row 1 (List.map (V.int .i64) r0_56), .int .i64 n0_57, .int .i64 n0_58])]⟩ rfl ⟨rfl, rfl, rfl, rfl, rfl, rfl, trivial⟩ ?_
 refine gR 1 rfl ?_
 obtain ⟨rfl, rfl, rfl, rfl, rfl, rfl, rfl, rfl, rfl, rfl, rfl⟩ := h
 refine go_sub (F' := (mkF 31 0 [])) (H' := ⟨5, [(4, .row 42 3 (List.map ae.w δ)), (3, .row 3 1 (List.map (V.int .i64) γ)), (2, .mp 84 81 (List.map (fun p => (fun x => V.agg [(V.int .i64 x.1), (V.int .i64 x.2)]) p.1) π) (List.map (fun p => aa.w p.2) π)), (1, .mp 137 61 (List.map (fun p => (fun x => V.agg [(V.int .i64 x.1), (V.str x.2)]) p.1) ο) (List.map (fun p => ac.w p.2) ο)), (0, vA r0_48 (.row 5 (List.map GTarget.w r0_49)) n0_52 n0_55 r0_56 n0_57 n0_58)]⟩) [0, 1, 2, 21, 22] [2, 1, 0] rfl hK trivial ⟨⟨_, rfl, rfl, rfl, (vH _ δ).symm⟩, ⟨_, rfl, rfl, rfl, (vF _ γ).symm⟩, ⟨_, rfl, rfl, rfl, rfl, rfl⟩, ⟨_, rfl, rfl, rfl, rfl, rfl⟩, (pqo1 rfl rfl)⟩ rfl ?_
 exact go_endD [] ah (rs := []) rfl rfl ⟨rfl, rfl⟩
 refine gR 7 rfl <| qBeZ 24 25 rfl rfl rfl rfl h (fun h => ?_) fun h => ?_
 refine gR 4 rfl ?_
 obtain ⟨r0_59, r0_60, r0_61, r0_62, n0_63, τ, υ, n0_66, r0_67, n0_68, n0_69, hs14, h⟩ := h
 refine gCZ hs14 [0, 1, 2, 9, 10] ⟨⟨_, rfl, ⟨rfl, rfl, (vH _ z).symm⟩⟩, ⟨⟨_, rfl, ⟨rfl, rfl, (vF _ y).symm⟩⟩, ⟨⟨_, rfl, ⟨rfl, rfl, rfl, rfl⟩⟩, ⟨⟨_, rfl, ⟨rfl, rfl, rfl, rfl⟩⟩, ⟨⟨_, rfl, ⟨rfl, an.rfl⟩⟩, trivial⟩⟩⟩⟩⟩ ?_
 refine gHR 15 (List.map (V.int .i64) τ) rfl (vF _ τ) rfl <| gHR 16 (List.map ae.w υ) rfl (vH _ υ) rfl <| gHn ⟨17, [(16, .row 42 3 (List.map ae.w υ)), (15, .row 3 1 (List.map (V.int .i64) τ)), (11, .var 29 (ao f)), (2, .mp 84 81 (List.map (fun p => (fun x => V.agg [(V.int .i64 x.1), (V.int .i64 x.2)]) p.1) r0_62) (List.map (fun p => aa.w p.2) r0_62)), (1, .mp 137 61 (List.map (fun p => (fun x => V.agg [(V.int .i64 x.1), (V.str x.2)]) p.1) r0_61) (List.map (fun p => ac.w p.2) r0_61)), (0, .var 63 [.row 4 (kidsV r0_59), .row 5 (List.map GTarget.w r0_60), .sl 1, .sl 2, .int .i64 n0_63, .sl 15, .sl 16, .int .i64 n0_66, .row 1 (List.map (V.int .i64) r0_67), .int .i64 n0_68, .int .i64 n0_69])]⟩ rfl ⟨rfl, rfl, rfl, rfl, rfl, rfl, trivial⟩ ?_
 refine gR 5 rfl ?_
 obtain ⟨r0_70, r0_71, φ, χ, n0_74, ε, ζ, n0_77, r0_78, n0_79, n0_80, hs15, h⟩ := h
 refine gCZ hs15 [0, 1, 2, 15, 16] ⟨⟨_, rfl, ⟨rfl, rfl, (vH _ υ).symm⟩⟩, ⟨⟨_, rfl, ⟨rfl, rfl, (vF _ τ).symm⟩⟩, ⟨⟨_, rfl, ⟨rfl, rfl, rfl, rfl⟩⟩, ⟨⟨_, rfl, ⟨rfl, rfl, rfl, rfl⟩⟩, ⟨⟨_, rfl, ⟨rfl, an.rfl⟩⟩, trivial⟩⟩⟩⟩⟩ ?_
 refine gHR 20 (List.map (V.int .i64) ε) rfl (vF _ ε) rfl <| gHR 21 (List.map ae.w ζ) rfl (vH _ ζ) rfl <| gHn ⟨22, [(21, .row 42 3 (List.map ae.w ζ)), (20, .row 3 1 (List.map (V.int .i64) ε)), (11, .var 29 (ao f)), (2, .mp 84 81 (List.map (fun p => (fun x => V.agg [(V.int .i64 x.1), (V.int .i64 x.2)]) p.1) χ) (List.map (fun p => aa.w p.2) χ)), (1, .mp 137 61 (List.map (fun p => (fun x => V.agg [(V.int .i64 x.1), (V.str x.2)]) p.1) φ) (List.map (fun p => ac.w p.2) φ)), (0, .var 63 [.row 4 (kidsV r0_70), .row 5 (List.map GTarget.w r0_71), .sl 1, .sl 2, .int .i64 n0_74, .sl 20, .sl 21, .int .i64 n0_77, .row 1 (List.map (V.int .i64) r0_78), .int .i64 n0_79, .int .i64 n0_80])]⟩ rfl ⟨rfl, rfl, rfl, rfl, rfl, rfl, trivial⟩ ?_
 refine gR 1 rfl ?_
 obtain ⟨rfl, rfl, rfl, rfl, rfl, rfl, rfl, rfl, rfl, rfl, rfl⟩ := h
 refine go_sub (F' := (mkF 31 0 [])) (H' := ⟨5, [(4, .row 42 3 (List.map ae.w ζ)), (3, .row 3 1 (List.map (V.int .i64) ε)), (2, .mp 84 81 (List.map (fun p => (fun x => V.agg [(V.int .i64 x.1), (V.int .i64 x.2)]) p.1) χ) (List.map (fun p => aa.w p.2) χ)), (1, .mp 137 61 (List.map (fun p => (fun x => V.agg [(V.int .i64 x.1), (V.str x.2)]) p.1) φ) (List.map (fun p => ac.w p.2) φ)), (0, vA r0_70 (.row 5 (List.map GTarget.w r0_71)) n0_74 n0_77 r0_78 n0_79 n0_80)]⟩) [0, 1, 2, 20, 21] [2, 1, 0] rfl hK trivial ⟨⟨_, rfl, rfl, rfl, (vH _ ζ).symm⟩, ⟨_, rfl, rfl, rfl, (vF _ ε).symm⟩, ⟨_, rfl, rfl, rfl, rfl, rfl⟩, ⟨_, rfl, rfl, rfl, rfl, rfl⟩, (pqo1 rfl rfl)⟩ rfl ?_
 exact go_endD [] ah (rs := []) rfl rfl ⟨rfl, rfl⟩
 refine gR 6 rfl ?_
 obtain ⟨r0_81, r0_82, ψ, ω, n0_85, η, θ, n0_88, r0_89, n0_90, n0_91, hs16, h⟩ := h
 refine gCZ hs16 [0, 1, 2, 9, 10] ⟨⟨_, rfl, ⟨rfl, rfl, (vH _ z).symm⟩⟩, ⟨⟨_, rfl, ⟨rfl, rfl, (vF _ y).symm⟩⟩, ⟨⟨_, rfl, ⟨rfl, rfl, rfl, rfl⟩⟩, ⟨⟨_, rfl, ⟨rfl, rfl, rfl, rfl⟩⟩, ⟨⟨_, rfl, ⟨rfl, an.rfl⟩⟩, trivial⟩⟩⟩⟩⟩ ?_
 refine gHR 15 (List.map (V.int .i64) η) rfl (vF _ η) rfl <| gHR 16 (List.map ae.w θ) rfl (vH _ θ) rfl <| gHn ⟨17, [(16, .row 42 3 (List.map ae.w θ)), (15, .row 3 1 (List.map (V.int .i64) η)), (11, .var 29 (ao f)), (2, .mp 84 81 (List.map (fun p => (fun x => V.agg [(V.int .i64 x.1), (V.int .i64 x.2)]) p.1) ω) (List.map (fun p => aa.w p.2) ω)), (1, .mp 137 61 (List.map (fun p => (fun x => V.agg [(V.int .i64 x.1), (V.str x.2)]) p.1) ψ) (List.map (fun p => ac.w p.2) ψ)), (0, .var 63 [.row 4 (kidsV r0_81), .row 5 (List.map GTarget.w r0_82), .sl 1, .sl 2, .int .i64 n0_85, .sl 15, .sl 16, .int .i64 n0_88, .row 1 (List.map (V.int .i64) r0_89), .int .i64 n0_90, .int .i64 n0_91])]⟩ rfl ⟨rfl, rfl, rfl, rfl, rfl, rfl, trivial⟩ ?_
 refine gR 1 rfl ?_
 obtain ⟨rfl, rfl, rfl, rfl, rfl, rfl, rfl, rfl, rfl, rfl, rfl⟩ := h
 refine go_sub (F' := (mkF 31 0 [])) (H' := ⟨5, [(4, .row 42 3 (List.map ae.w θ)), (3, .row 3 1 (List.map (V.int .i64) η)), (2, .mp 84 81 (List.map (fun p => (fun x => V.agg [(V.int .i64 x.1), (V.int .i64 x.2)]) p.1) ω) (List.map (fun p => aa.w p.2) ω)), (1, .mp 137 61 (List.map (fun p => (fun x => V.agg [(V.int .i64 x.1), (V.str x.2)]) p.1) ψ) (List.map (fun p => ac.w p.2) ψ)), (0, vA r0_81 (.row 5 (List.map GTarget.w r0_82)) n0_85 n0_88 r0_89 n0_90 n0_91)]⟩) [0, 1, 2, 15, 16] [2, 1, 0] rfl hK trivial ⟨⟨_, rfl, rfl, rfl, (vH _ θ).symm⟩, ⟨_, rfl, rfl, rfl, (vF _ η).symm⟩, ⟨_, rfl, rfl, rfl, rfl, rfl⟩, ⟨_, rfl, rfl, rfl, rfl, rfl⟩, (pqo1 rfl rfl)⟩ rfl ?_
 exact go_endD [] ah (rs := []) rfl rfl ⟨rfl, rfl⟩
def bP (m : Nat) (β : List Tree) (q : List GTarget) (n : (List ((Int × (List UInt8)) × ac))) (a : (List ((Int × Int) × aa))) (s : Int) (z : List Int) (t : List ae) (d : Int) (k : List Int) (e i : Int) (p1 : Tree) (γ : List ak) (r0 : ac) (δ : List Tree) (r : List GTarget) (o : (List ((Int × (List UInt8)) × ac))) (b : (List ((Int × Int) × aa))) (v : Int) (α : List Int) (y : List ae) (f : Int) (l : List Int) (g j : Int) : Prop := ∀ (K : Ctx) (j1 : Nat), aG K [2, 1, 0] → m ≤ j1 → qLG K Tryz.f100 (fun u G => u = .agg (ac.c r0) ∧ G = ⟨6, [(4, .row 42 3 (List.map ae.w y)), (3, .row 3 1 (List.map (V.int .i64) α)), (2, .mp 84 81 (List.map (fun p => (fun x => V.agg [(V.int .i64 x.1), (V.int .i64 x.2)]) p.1) b) (List.map (fun p => aa.w p.2) b)), (1, .mp 137 61 (List.map (fun p => (fun x => V.agg [(V.int .i64 x.1), (V.str x.2)]) p.1) o) (List.map (fun p => ac.w p.2) o)), (0, vA δ (.row 5 (List.map GTarget.w r)) v f l g j)]⟩) (xC (cA (cB (ai Tryz.f100)))) [.loop (xC (cA (cB (ai Tryz.f100)))) j1, .blk 0, .seq (xA (ai Tryz.f100))] 29 (mkF 29 0 [(0, .ptr 0 0), (4, .box (ao p1) 0), (6, .ptr 3 0), (7, .lk (List.map ak.c γ))]) ⟨6, [(5, .row 42 3 (List.map ae.w t)), (4, .row 3 1 (List.map (V.int .i64) z)), (3, vB 0 0), (2, .mp 84 81 (List.map (fun p => (fun x => V.agg [(V.int .i64 x.1), (V.int .i64 x.2)]) p.1) a) (List.map (fun p => aa.w p.2) a)), (1, .mp 137 61 (List.map (fun p => (fun x => V.agg [(V.int .i64 x.1), (V.str x.2)]) p.1) n) (List.map (fun p => ac.w p.2) n)), (0, .var 63 [.row 4 (kidsV β), .row 5 (List.map GTarget.w q), .sl 1, .sl 2, .int .i64 s, .sl 4, .sl 5, .int .i64 d, .row 1 (List.map (V.int .i64) k), .int .i64 e, .int .i64 i])]⟩
theorem rS_typing_checker_variable (m : Nat) (y : List Tree) (n : List GTarget) (t : (List ((Int × (List UInt8)) × ac))) (j : (List ((Int × Int) × aa))) (p : Int) (q : List Int) (l : List ae) (a : Int) (g : List Int) (b e : Int) (p1 : Tree) (p2 : List ak) (r0 : ac) (z : List Tree) (o : List GTarget) (v : (List ((Int × (List UInt8)) × ac))) (k : (List ((Int × Int) × aa))) (r : Int) (x : List Int) (s : List ae) (c : Int) (i : List Int) (d f : Int) (h : bP m y n t j p q l a g b e p1 p2 r0 z o v k r x s c i d f) : dl y n t j p q l a g b e p1 p2 r0 z o v k r x s c i d f := by
 refine al 29 [2, 1, 0] Tryz.func100 rfl rfl rfl (aA rfl) fun K hK => ?_
 exact gR 3 rfl <| gFP 5 rfl rfl rfl rfl <| gR 11 rfl <| go_loop m <| gJ (h K _ hK (by omega)) [0, 1, 2, 6, 3, 4] [2, 1, 0] rfl hK pq4 ⟨⟨_, rfl, rfl, rfl, (vH _ l).symm⟩, ⟨_, rfl, rfl, rfl, (vF _ q).symm⟩, pqo rfl rfl, ⟨_, rfl, rfl, rfl, rfl, rfl⟩, ⟨_, rfl, rfl, rfl, rfl, rfl⟩, (pqo1 rfl rfl)⟩ rfl
theorem eR (m : Nat) (ξ : List Tree) (q : List GTarget) (s : (List ((Int × (List UInt8)) × ac))) (d : (List ((Int × Int) × aa))) (t : Int) (r : List Int) (k : List ae) (a : Int) (f : List Int) (b e : Int) (p1 : Tree) (υ : List ak) (r0 : ac) (φ : List Tree) (v : List GTarget) (β : (List ((Int × (List UInt8)) × ac))) (o : (List ((Int × Int) × aa))) (z : Int) (γ : List Int) (α : List ae) (g : Int) (n : List Int) (i l : Int) (h : ((υ = []) → ∃ ο π, ∃ (ζ : (List ((Int × (List UInt8)) × ac))), ∃ (η : (List ((Int × Int) × aa))), ∃ τ δ ε θ ι κ μ, ar ξ q s d t r k a f b e 1 [] ο π ζ η τ δ ε θ ι κ μ ∧ (ac.mk 0 0) = r0 ∧ ο = φ ∧ π = v ∧ ζ = β ∧ η = o ∧ τ = z ∧ δ = γ ∧ ε = α ∧ θ = g ∧ ι = n ∧ κ = i ∧ μ = l) ∧ (∀ (y : ak) (ν : List ak), υ = y :: ν → ((y.name = p1.text) → y.typ = r0 ∧ ξ = φ ∧ q = v ∧ s = β ∧ d = o ∧ t = z ∧ r = γ ∧ k = α ∧ a = g ∧ f = n ∧ b = i ∧ e = l) ∧ ((y.name ≠ p1.text) → bP m ξ q s d t r k a f b e p1 ν r0 φ v β o z γ α g n i l))) : bP (m + 1) ξ q s d t r k a f b e p1 υ r0 φ v β o z γ α g n i l := by
 intro K j1 hK hj1
 obtain ⟨j1, rfl⟩ : ∃ j, j1 = j + 1 := ⟨j1 - 1, by omega⟩
 refine gR 4 rfl ?_
 rcases υ with _ | ⟨y, ν⟩
 replace h := h.1 rfl
 refine gS 7 (.nilp) rfl Bz rfl <| gS 9 (.nilp) rfl Bz rfl <| gY (CK Tryz.underlying107 rfl) rfl rfl <| gR 5 rfl <| go_xloopE <| gR 5 rfl ?_
 obtain ⟨ο, π, ζ, η, τ, δ, ε, θ, ι, κ, μ, hs3, h⟩ := h
 refine gC hs3 [0, 1, 2, 4, 5] (by kernel_rfl) rfl rfl (.cons .rfl (.cons .rfl (.cons (.nil 1) .nil))) ⟨⟨_, rfl, ⟨rfl, rfl, (vH _ k).symm⟩⟩, ⟨⟨_, rfl, ⟨rfl, rfl, (vF _ r).symm⟩⟩, ⟨⟨_, rfl, ⟨rfl, rfl, rfl, rfl⟩⟩, ⟨⟨_, rfl, ⟨rfl, rfl, rfl, rfl⟩⟩, ⟨⟨_, rfl, ⟨rfl, an.rfl⟩⟩, trivial⟩⟩⟩⟩⟩ rfl ?_
 rintro _ _ ⟨rfl, rfl⟩
 refine gHR 9 (List.map (V.int .i64) δ) rfl (vF _ δ) rfl <| gHR 10 (List.map ae.w ε) rfl (vH _ ε) rfl <| gHn ⟨11, [(10, .row 42 3 (List.map ae.w ε)), (9, .row 3 1 (List.map (V.int .i64) δ)), (3, vB 0 0), (2, .mp 84 81 (List.map (fun p => (fun x => V.agg [(V.int .i64 x.1), (V.int .i64 x.2)]) p.1) η) (List.map (fun p => aa.w p.2) η)), (1, .mp 137 61 (List.map (fun p => (fun x => V.agg [(V.int .i64 x.1), (V.str x.2)]) p.1) ζ) (List.map (fun p => ac.w p.2) ζ)), (0, vE ο (.row 5 (List.map GTarget.w π)) τ θ ι κ μ)]⟩ rfl ⟨rfl, rfl, rfl, rfl, rfl, rfl, trivial⟩ ?_
 refine gR 9 rfl ?_
 obtain ⟨rfl, rfl, rfl, rfl, rfl, rfl, rfl, rfl, rfl, rfl, rfl, rfl⟩ := h
 refine go_sub (F' := (mkF 29 0 [(6, .ptr 5 0)])) (H' := ⟨6, [(5, .var 61 (ac.c (ac.mk 0 0))), (4, .row 42 3 (List.map ae.w ε)), (3, .row 3 1 (List.map (V.int .i64) δ)), (2, .mp 84 81 (List.map (fun p => (fun x => V.agg [(V.int .i64 x.1), (V.int .i64 x.2)]) p.1) η) (List.map (fun p => aa.w p.2) η)), (1, .mp 137 61 (List.map (fun p => (fun x => V.agg [(V.int .i64 x.1), (V.str x.2)]) p.1) ζ) (List.map (fun p => ac.w p.2) ζ)), (0, vA ο (.row 5 (List.map GTarget.w π)) τ θ ι κ μ)]⟩) [0, 1, 2, 9, 10, 3] [2, 1, 0] rfl hK pq1 ⟨pqo rfl rfl, ⟨_, rfl, rfl, rfl, (vH _ ε).symm⟩, ⟨_, rfl, rfl, rfl, (vF _ δ).symm⟩, ⟨_, rfl, rfl, rfl, rfl, rfl⟩, ⟨_, rfl, rfl, rfl, rfl, rfl⟩, (pqo1 rfl rfl)⟩ rfl ?_
 exact go_endD [5] ah (rs := [.cell 6 61]) rfl rfl ⟨rfl, rfl⟩
 replace h := h.2 y ν rfl
 refine gS 7 (.box [.str y.name, .int .i64 y.typ.simple, .int .i64 y.typ.lists, .lk (List.map ak.c ν)] 0) rfl (Bf rfl) rfl <| gS 9 (.box [.str y.name, .int .i64 y.typ.simple, .int .i64 y.typ.lists, .lk (List.map ak.c ν)] 0) rfl (Bf rfl) rfl <| gY (CU Tryz.underlying107 rfl) rfl rfl <| gR 8 rfl <| gDs [] 7 7 rfl (by kernel_rfl) (by kernel_rfl) <| gDr [(0, 2), (1, 2), (2, 2), (3, 2), (4, 0), (5, 0), (6, 0)] (by kernel_rfl) rfl rfl <| gDe (by kernel_rfl) <| gR 1 rfl <| gB 21 rfl rfl rfl ?_ ?_ <;> intro hd
 replace hd := (eq_of_beq hd)
 replace h := h.1 hd
 refine gR 13 rfl <| go_xloopR <| gR 2 rfl ?_
 obtain ⟨rfl, rfl, rfl, rfl, rfl, rfl, rfl, rfl, rfl, rfl, rfl, rfl⟩ := h
 refine go_sub (F' := (mkF 29 0 [(6, .ptr 5 0)])) (H' := ⟨6, [(5, .var 61 (ac.c y.typ)), (4, .row 42 3 (List.map ae.w k)), (3, .row 3 1 (List.map (V.int .i64) r)), (2, .mp 84 81 (List.map (fun p => (fun x => V.agg [(V.int .i64 x.1), (V.int .i64 x.2)]) p.1) d) (List.map (fun p => aa.w p.2) d)), (1, .mp 137 61 (List.map (fun p => (fun x => V.agg [(V.int .i64 x.1), (V.str x.2)]) p.1) s) (List.map (fun p => ac.w p.2) s)), (0, vA ξ (.row 5 (List.map GTarget.w q)) t a f b e)]⟩) [0, 1, 2, 4, 5, 3] [2, 1, 0] rfl hK pq1 ⟨pqo rfl rfl, ⟨_, rfl, rfl, rfl, (vH _ k).symm⟩, ⟨_, rfl, rfl, rfl, (vF _ r).symm⟩, ⟨_, rfl, rfl, rfl, rfl, rfl⟩, ⟨_, rfl, rfl, rfl, rfl, rfl⟩, (pqo1 rfl rfl)⟩ rfl ?_
 exact go_endD [5] ah (rs := [.cell 6 61]) rfl rfl ⟨rfl, rfl⟩
 replace hd := (ne_of_beq_false hd)
 replace h := h.2 hd
 exact gR 11 rfl <| go_xloop <| gJ (h K _ hK (by omega)) [0, 1, 2, 3, 4, 5] [2, 1, 0] rfl hK pq4 ⟨⟨_, rfl, rfl, rfl, (vH _ k).symm⟩, ⟨_, rfl, rfl, rfl, (vF _ r).symm⟩, pqo rfl rfl, ⟨_, rfl, rfl, rfl, rfl, rfl⟩, ⟨_, rfl, rfl, rfl, rfl, rfl⟩, (pqo1 rfl rfl)⟩ rfl
theorem eo (m : Nat) (p0_p : List Tree) (p0_targets : List GTarget) (p0_names : (List ((Int × (List UInt8)) × ac))) (β : (List ((Int × Int) × aa))) (p0_module : Int) (p0_path : List Int) (ν : List ae) (n : Int) (α : List Int) (o t : Int) (p1 : Tree) (p2 : Int) (p3 : List ak) (r0 : ac) (q0_p : List Tree) (q : List GTarget) (μ : (List ((Int × (List UInt8)) × ac))) (i : (List ((Int × Int) × aa))) (v : Int) (χ : List Int) (y : List ae) (d : Int) (g : List Int) (e f : Int) (h : ∃ r0_1 r0_2, ∃ (r0_3 : (List ((Int × (List UInt8)) × ac))), ∃ (r0_4 : (List ((Int × Int) × aa))), ∃ n0_5 r0_6 r0_7 n0_8 r0_9 n0_10 n0_11, ba p0_p p0_targets p0_names β p0_module p0_path ν n α o t p2 r0_1 r0_2 r0_3 r0_4 n0_5 r0_6 r0_7 n0_8 r0_9 n0_10 n0_11 ∧ ∃ k0_12, p2 = ((k0_12 : Nat) : Int) ∧ ∃ t0_13, p1.kids[k0_12]? = some t0_13 ∧ ∃ a γ δ, ∃ (k : (List ((Int × (List UInt8)) × ac))), ∃ (l : (List ((Int × Int) × aa))), ∃ r b j s z ψ ω, cR r0_1 r0_2 r0_3 r0_4 n0_5 r0_6 r0_7 n0_8 r0_9 n0_10 n0_11 t0_13 p3 a γ δ k l r b j s z ψ ω ∧ ((r = s) → ∃ b0_26, gP b z b0_26 ∧ ((b0_26 = true) → ∃ r0_27 r0_28, ∃ (ξ : (List ((Int × (List UInt8)) × ac))), ∃ (ο : (List ((Int × Int) × aa))), ∃ n0_31 ε ζ n0_34 r0_35 n0_36 n0_37, az γ δ k l r b j s z a.simple a.lists r0_27 r0_28 ξ ο n0_31 ε ζ n0_34 r0_35 n0_36 n0_37 ∧ a = r0 ∧ r0_27 = q0_p ∧ r0_28 = q ∧ ξ = μ ∧ ο = i ∧ n0_31 = v ∧ ε = χ ∧ ζ = y ∧ n0_34 = d ∧ r0_35 = g ∧ n0_36 = e ∧ n0_37 = f) ∧ ((b0_26 = false) → ∃ r0_38 r0_39, ∃ (π : (List ((Int × (List UInt8)) × ac))), ∃ (τ : (List ((Int × Int) × aa))), ∃ n0_42 η θ n0_45 r0_46 n0_47 n0_48, az γ δ k l r b j s z ψ ω r0_38 r0_39 π τ n0_42 η θ n0_45 r0_46 n0_47 n0_48 ∧ a = r0 ∧ r0_38 = q0_p ∧ r0_39 = q ∧ π = μ ∧ τ = i ∧ n0_42 = v ∧ η = χ ∧ θ = y ∧ n0_45 = d ∧ r0_46 = g ∧ n0_47 = e ∧ n0_48 = f)) ∧ ((r ≠ s) → ∃ r0_49 r0_50, ∃ (υ : (List ((Int × (List UInt8)) × ac))), ∃ (φ : (List ((Int × Int) × aa))), ∃ n0_53 ι κ n0_56 r0_57 n0_58 n0_59, az γ δ k l r b j s z ψ ω r0_49 r0_50 υ φ n0_53 ι κ n0_56 r0_57 n0_58 n0_59 ∧ a = r0 ∧ r0_49 = q0_p ∧ r0_50 = q ∧ υ = μ ∧ φ = i ∧ n0_53 = v ∧ ι = χ ∧ κ = y ∧ n0_56 = d ∧ r0_57 = g ∧ n0_58 = e ∧ n0_59 = f)) : aD p0_p p0_targets p0_names β p0_module p0_path ν n α o t p1 p2 p3 r0 q0_p q μ i v χ y d g e f := by
 refine al 50 [2, 1, 0] Tryz.func59 rfl rfl rfl (aA rfl) fun K hK => ?_
 refine gR 3 rfl <| gFP 5 rfl rfl rfl rfl <| gR 7 rfl ?_
 obtain ⟨r0_1, r0_2, r0_3, r0_4, n0_5, r0_6, r0_7, n0_8, r0_9, n0_10, n0_11, hs7, h⟩ := h
 refine gCZ hs7 [0, 1, 2, 3, 4] ⟨⟨_, rfl, ⟨rfl, rfl, (vH _ ν).symm⟩⟩, ⟨⟨_, rfl, ⟨rfl, rfl, (vF _ p0_path).symm⟩⟩, ⟨⟨_, rfl, ⟨rfl, rfl, rfl, rfl⟩⟩, ⟨⟨_, rfl, ⟨rfl, rfl, rfl, rfl⟩⟩, ⟨⟨_, rfl, ⟨rfl, an.rfl⟩⟩, trivial⟩⟩⟩⟩⟩ ?_
 refine gHR 10 (List.map (V.int .i64) r0_6) rfl (vF _ r0_6) rfl <| gHR 11 (List.map ae.w r0_7) rfl (vH _ r0_7) rfl <| gHn ⟨12, [(11, .row 42 3 (List.map ae.w r0_7)), (10, .row 3 1 (List.map (V.int .i64) r0_6)), (6, vB 0 0), (2, .mp 84 81 (List.map (fun p => (fun x => V.agg [(V.int .i64 x.1), (V.int .i64 x.2)]) p.1) r0_4) (List.map (fun p => aa.w p.2) r0_4)), (1, .mp 137 61 (List.map (fun p => (fun x => V.agg [(V.int .i64 x.1), (V.str x.2)]) p.1) r0_3) (List.map (fun p => ac.w p.2) r0_3)), (0, .var 63 [.row 4 (kidsV r0_1), .row 5 (List.map GTarget.w r0_2), .sl 1, .sl 2, .int .i64 n0_5, .sl 10, .sl 11, .int .i64 n0_8, .row 1 (List.map (V.int .i64) r0_9), .int .i64 n0_10, .int .i64 n0_11])]⟩ rfl ⟨rfl, rfl, rfl, rfl, rfl, rfl, trivial⟩ ?_
 refine gR 8 rfl ?_
 obtain ⟨k0_12, ek0_12, h⟩ := h
 refine gV 16 (.int .i64 ((k0_12 : Nat) : Int)) rfl (cy ek0_12) rfl ?_
 obtain ⟨t0_13, hxt0_13, h⟩ := h
 refine gY (bx (aL hxt0_13) ah rfl rfl rfl rfl) rfl rfl <| gR 2 rfl ?_
 obtain ⟨a, γ, δ, k, l, r, b, j, s, z, ψ, ω, hs8, h⟩ := h
 refine gCZ hs8 [0, 1, 2, 10, 11] ⟨⟨_, rfl, ⟨rfl, rfl, (vH _ r0_7).symm⟩⟩, ⟨⟨_, rfl, ⟨rfl, rfl, (vF _ r0_6).symm⟩⟩, ⟨⟨_, rfl, ⟨rfl, rfl, rfl, rfl⟩⟩, ⟨⟨_, rfl, ⟨rfl, rfl, rfl, rfl⟩⟩, ⟨⟨_, rfl, ⟨rfl, an.rfl⟩⟩, trivial⟩⟩⟩⟩⟩ ?_
 refine gHR 15 (List.map (V.int .i64) b) rfl (vF _ b) rfl <| gHR 16 (List.map ae.w j) rfl (vH _ j) rfl <| gHn ⟨18, [(16, .row 42 3 (List.map ae.w j)), (15, .row 3 1 (List.map (V.int .i64) b)), (6, vB 0 0), (2, .mp 84 81 (List.map (fun p => (fun x => V.agg [(V.int .i64 x.1), (V.int .i64 x.2)]) p.1) l) (List.map (fun p => aa.w p.2) l)), (1, .mp 137 61 (List.map (fun p => (fun x => V.agg [(V.int .i64 x.1), (V.str x.2)]) p.1) k) (List.map (fun p => ac.w p.2) k)), (0, .var 63 [.row 4 (kidsV γ), .row 5 (List.map GTarget.w δ), .sl 1, .sl 2, .int .i64 r, .sl 15, .sl 16, .int .i64 s, .row 1 (List.map (V.int .i64) z), .int .i64 ψ, .int .i64 ω])]⟩ rfl ⟨rfl, rfl, rfl, rfl, rfl, rfl, trivial⟩ ?_
 refine gR 6 rfl <| gDs [0] 22 22 rfl (by kernel_rfl) (by kernel_rfl) <| gDr [(0, 2), (1, 2), (2, 2), (3, 3), (4, 0), (5, 0), (6, 0), (7, 0), (8, 0), (9, 0), (10, 0)] (by kernel_rfl) rfl rfl <| qBeZ 31 30 rfl rfl rfl rfl h (fun h => ?_) fun h => ?_
 refine gDr [(11, 2), (12, 2), (13, 2), (14, 3), (15, 0), (16, 0), (17, 0), (18, 0), (19, 0)] (by kernel_rfl) rfl rfl ?_
 obtain ⟨b0_26, hs9, h⟩ := h
 refine gDCZ 20 hs9 [15] rfl ⟨⟨_, rfl, ⟨rfl, rfl, (vF _ b).symm⟩⟩, trivial⟩ ?_
 refine gHR 15 (List.map (V.int .i64) b) rfl (vF _ b) rfl <| gHn ⟨20, [(18, .var 61 (ac.c a)), (16, .row 42 3 (List.map ae.w j)), (15, .row 3 1 (List.map (V.int .i64) b)), (6, vB 0 0), (2, .mp 84 81 (List.map (fun p => (fun x => V.agg [(V.int .i64 x.1), (V.int .i64 x.2)]) p.1) l) (List.map (fun p => aa.w p.2) l)), (1, .mp 137 61 (List.map (fun p => (fun x => V.agg [(V.int .i64 x.1), (V.str x.2)]) p.1) k) (List.map (fun p => ac.w p.2) k)), (0, .var 63 [.row 4 (kidsV γ), .row 5 (List.map GTarget.w δ), .sl 1, .sl 2, .int .i64 r, .sl 15, .sl 16, .int .i64 s, .row 1 (List.map (V.int .i64) z), .int .i64 ψ, .int .i64 ω])]⟩ rfl ⟨rfl, rfl, rfl, rfl, rfl, rfl, rfl, trivial⟩ ?_
 refine gDr [(21, 0)] (by kernel_rfl) rfl rfl <| gDe (by kernel_rfl) <| gR 1 rfl <| qBi 42 rfl rfl rfl h (fun h => ?_) fun h => ?_
 refine gR 9 rfl <| go_sub (F' := (mkF 50 0 [(0, .ptr 0 0), (8, .ptr 3 0), (9, .ptr 4 0)])) (H' := ⟨7, [(6, .row 42 3 (List.map ae.w j)), (5, .row 3 1 (List.map (V.int .i64) b)), (4, .var 61 (ac.c a)), (3, vB 0 0), (2, .mp 84 81 (List.map (fun p => (fun x => V.agg [(V.int .i64 x.1), (V.int .i64 x.2)]) p.1) l) (List.map (fun p => aa.w p.2) l)), (1, .mp 137 61 (List.map (fun p => (fun x => V.agg [(V.int .i64 x.1), (V.str x.2)]) p.1) k) (List.map (fun p => ac.w p.2) k)), (0, .var 63 [.row 4 (kidsV γ), .row 5 (List.map GTarget.w δ), .sl 1, .sl 2, .int .i64 r, .sl 5, .sl 6, .int .i64 s, .row 1 (List.map (V.int .i64) z), .int .i64 a.simple, .int .i64 a.lists])]⟩) [0, 1, 2, 6, 18, 15, 16] [2, 1, 0] rfl hK pq3 ⟨⟨_, rfl, rfl, rfl, (vH _ j).symm⟩, ⟨_, rfl, rfl, rfl, (vF _ b).symm⟩, pqo rfl rfl, pqo rfl rfl, ⟨_, rfl, rfl, rfl, rfl, rfl⟩, ⟨_, rfl, rfl, rfl, rfl, rfl⟩, (pqo1 rfl rfl)⟩ rfl ?_
 refine gR 3 rfl ?_
 obtain ⟨r0_27, r0_28, ξ, ο, n0_31, ε, ζ, n0_34, r0_35, n0_36, n0_37, hs10, h⟩ := h
 refine gCZ hs10 [0, 1, 2, 5, 6] ⟨⟨_, rfl, ⟨rfl, rfl, (vH _ j).symm⟩⟩, ⟨⟨_, rfl, ⟨rfl, rfl, (vF _ b).symm⟩⟩, ⟨⟨_, rfl, ⟨rfl, rfl, rfl, rfl⟩⟩, ⟨⟨_, rfl, ⟨rfl, rfl, rfl, rfl⟩⟩, ⟨⟨_, rfl, ⟨rfl, an.rfl⟩⟩, trivial⟩⟩⟩⟩⟩ ?_
 refine gHR 10 (List.map (V.int .i64) ε) rfl (vF _ ε) rfl <| gHR 11 (List.map ae.w ζ) rfl (vH _ ζ) rfl <| gHn ⟨12, [(11, .row 42 3 (List.map ae.w ζ)), (10, .row 3 1 (List.map (V.int .i64) ε)), (4, .var 61 (ac.c a)), (3, vB 0 0), (2, .mp 84 81 (List.map (fun p => (fun x => V.agg [(V.int .i64 x.1), (V.int .i64 x.2)]) p.1) ο) (List.map (fun p => aa.w p.2) ο)), (1, .mp 137 61 (List.map (fun p => (fun x => V.agg [(V.int .i64 x.1), (V.str x.2)]) p.1) ξ) (List.map (fun p => ac.w p.2) ξ)), (0, .var 63 [.row 4 (kidsV r0_27), .row 5 (List.map GTarget.w r0_28), .sl 1, .sl 2, .int .i64 n0_31, .sl 10, .sl 11, .int .i64 n0_34, .row 1 (List.map (V.int .i64) r0_35), .int .i64 n0_36, .int .i64 n0_37])]⟩ rfl ⟨rfl, rfl, rfl, rfl, rfl, rfl, rfl, trivial⟩ ?_
 refine gR 9 rfl ?_
 obtain ⟨rfl, rfl, rfl, rfl, rfl, rfl, rfl, rfl, rfl, rfl, rfl, rfl⟩ := h
 refine go_sub (F' := (mkF 50 0 [(8, .ptr 5 0)])) (H' := ⟨6, [(5, .var 61 (ac.c a)), (4, .row 42 3 (List.map ae.w ζ)), (3, .row 3 1 (List.map (V.int .i64) ε)), (2, .mp 84 81 (List.map (fun p => (fun x => V.agg [(V.int .i64 x.1), (V.int .i64 x.2)]) p.1) ο) (List.map (fun p => aa.w p.2) ο)), (1, .mp 137 61 (List.map (fun p => (fun x => V.agg [(V.int .i64 x.1), (V.str x.2)]) p.1) ξ) (List.map (fun p => ac.w p.2) ξ)), (0, vA r0_27 (.row 5 (List.map GTarget.w r0_28)) n0_31 n0_34 r0_35 n0_36 n0_37)]⟩) [0, 1, 2, 10, 11, 3] [2, 1, 0] rfl hK pq1 ⟨pqo rfl rfl, ⟨_, rfl, rfl, rfl, (vH _ ζ).symm⟩, ⟨_, rfl, rfl, rfl, (vF _ ε).symm⟩, ⟨_, rfl, rfl, rfl, rfl, rfl⟩, ⟨_, rfl, rfl, rfl, rfl, rfl⟩, (pqo1 rfl rfl)⟩ rfl ?_
 exact go_endD [5] ah (rs := [.cell 8 61]) rfl rfl ⟨rfl, rfl⟩
 refine gR 6 rfl ?_
 obtain ⟨r0_38, r0_39, π, τ, n0_42, η, θ, n0_45, r0_46, n0_47, n0_48, hs11, h⟩ := h
 refine gCZ hs11 [0, 1, 2, 15, 16] ⟨⟨_, rfl, ⟨rfl, rfl, (vH _ j).symm⟩⟩, ⟨⟨_, rfl, ⟨rfl, rfl, (vF _ b).symm⟩⟩, ⟨⟨_, rfl, ⟨rfl, rfl, rfl, rfl⟩⟩, ⟨⟨_, rfl, ⟨rfl, rfl, rfl, rfl⟩⟩, ⟨⟨_, rfl, ⟨rfl, an.rfl⟩⟩, trivial⟩⟩⟩⟩⟩ ?_
 refine gHR 23 (List.map (V.int .i64) η) rfl (vF _ η) rfl <| gHR 24 (List.map ae.w θ) rfl (vH _ θ) rfl <| gHn ⟨25, [(24, .row 42 3 (List.map ae.w θ)), (23, .row 3 1 (List.map (V.int .i64) η)), (18, .var 61 (ac.c a)), (6, vB 0 0), (2, .mp 84 81 (List.map (fun p => (fun x => V.agg [(V.int .i64 x.1), (V.int .i64 x.2)]) p.1) τ) (List.map (fun p => aa.w p.2) τ)), (1, .mp 137 61 (List.map (fun p => (fun x => V.agg [(V.int .i64 x.1), (V.str x.2)]) p.1) π) (List.map (fun p => ac.w p.2) π)), (0, .var 63 [.row 4 (kidsV r0_38), .row 5 (List.map GTarget.w r0_39), .sl 1, .sl 2, .int .i64 n0_42, .sl 23, .sl 24, .int .i64 n0_45, .row 1 (List.map (V.int .i64) r0_46), .int .i64 n0_47, .int .i64 n0_48])]⟩ rfl ⟨rfl, rfl, rfl, rfl, rfl, rfl, rfl, trivial⟩ ?_
 refine gR 9 rfl ?_
 obtain ⟨rfl, rfl, rfl, rfl, rfl, rfl, rfl, rfl, rfl, rfl, rfl, rfl⟩ := h
 refine go_sub (F' := (mkF 50 0 [(8, .ptr 5 0)])) (H' := ⟨6, [(5, .var 61 (ac.c a)), (4, .row 42 3 (List.map ae.w θ)), (3, .row 3 1 (List.map (V.int .i64) η)), (2, .mp 84 81 (List.map (fun p => (fun x => V.agg [(V.int .i64 x.1), (V.int .i64 x.2)]) p.1) τ) (List.map (fun p => aa.w p.2) τ)), (1, .mp 137 61 (List.map (fun p => (fun x => V.agg [(V.int .i64 x.1), (V.str x.2)]) p.1) π) (List.map (fun p => ac.w p.2) π)), (0, vA r0_38 (.row 5 (List.map GTarget.w r0_39)) n0_42 n0_45 r0_46 n0_47 n0_48)]⟩) [0, 1, 2, 23, 24, 6] [2, 1, 0] rfl hK pq1 ⟨pqo rfl rfl, ⟨_, rfl, rfl, rfl, (vH _ θ).symm⟩, ⟨_, rfl, rfl, rfl, (vF _ η).symm⟩, ⟨_, rfl, rfl, rfl, rfl, rfl⟩, ⟨_, rfl, rfl, rfl, rfl, rfl⟩, (pqo1 rfl rfl)⟩ rfl ?_
 exact go_endD [5] ah (rs := [.cell 8 61]) rfl rfl ⟨rfl, rfl⟩
 refine gDr [(11, 2), (12, 2), (13, 2), (14, 2), (15, 0), (16, 0), (17, 0), (18, 0), (19, 0), (20, 0), (21, 0)] (by kernel_rfl) rfl rfl <| gDe (by kernel_rfl) <| gR 7 rfl ?_
 obtain ⟨r0_49, r0_50, υ, φ, n0_53, ι, κ, n0_56, r0_57, n0_58, n0_59, hs12, h⟩ := h
 refine gCZ hs12 [0, 1, 2, 15, 16] ⟨⟨_, rfl, ⟨rfl, rfl, (vH _ j).symm⟩⟩, ⟨⟨_, rfl, ⟨rfl, rfl, (vF _ b).symm⟩⟩, ⟨⟨_, rfl, ⟨rfl, rfl, rfl, rfl⟩⟩, ⟨⟨_, rfl, ⟨rfl, rfl, rfl, rfl⟩⟩, ⟨⟨_, rfl, ⟨rfl, an.rfl⟩⟩, trivial⟩⟩⟩⟩⟩ ?_
 refine gHR 22 (List.map (V.int .i64) ι) rfl (vF _ ι) rfl <| gHR 23 (List.map ae.w κ) rfl (vH _ κ) rfl <| gHn ⟨24, [(23, .row 42 3 (List.map ae.w κ)), (22, .row 3 1 (List.map (V.int .i64) ι)), (18, .var 61 (ac.c a)), (6, vB 0 0), (2, .mp 84 81 (List.map (fun p => (fun x => V.agg [(V.int .i64 x.1), (V.int .i64 x.2)]) p.1) φ) (List.map (fun p => aa.w p.2) φ)), (1, .mp 137 61 (List.map (fun p => (fun x => V.agg [(V.int .i64 x.1), (V.str x.2)]) p.1) υ) (List.map (fun p => ac.w p.2) υ)), (0, .var 63 [.row 4 (kidsV r0_49), .row 5 (List.map GTarget.w r0_50), .sl 1, .sl 2, .int .i64 n0_53, .sl 22, .sl 23, .int .i64 n0_56, .row 1 (List.map (V.int .i64) r0_57), .int .i64 n0_58, .int .i64 n0_59])]⟩ rfl ⟨rfl, rfl, rfl, rfl, rfl, rfl, rfl, trivial⟩ ?_
 refine gR 9 rfl ?_
 obtain ⟨rfl, rfl, rfl, rfl, rfl, rfl, rfl, rfl, rfl, rfl, rfl, rfl⟩ := h
 refine go_sub (F' := (mkF 50 0 [(8, .ptr 5 0)])) (H' := ⟨6, [(5, .var 61 (ac.c a)), (4, .row 42 3 (List.map ae.w κ)), (3, .row 3 1 (List.map (V.int .i64) ι)), (2, .mp 84 81 (List.map (fun p => (fun x => V.agg [(V.int .i64 x.1), (V.int .i64 x.2)]) p.1) φ) (List.map (fun p => aa.w p.2) φ)), (1, .mp 137 61 (List.map (fun p => (fun x => V.agg [(V.int .i64 x.1), (V.str x.2)]) p.1) υ) (List.map (fun p => ac.w p.2) υ)), (0, vA r0_49 (.row 5 (List.map GTarget.w r0_50)) n0_53 n0_56 r0_57 n0_58 n0_59)]⟩) [0, 1, 2, 22, 23, 6] [2, 1, 0] rfl hK pq1 ⟨pqo rfl rfl, ⟨_, rfl, rfl, rfl, (vH _ κ).symm⟩, ⟨_, rfl, rfl, rfl, (vF _ ι).symm⟩, ⟨_, rfl, rfl, rfl, rfl, rfl⟩, ⟨_, rfl, rfl, rfl, rfl, rfl⟩, (pqo1 rfl rfl)⟩ rfl ?_
 exact go_endD [5] ah (rs := [.cell 8 61]) rfl rfl ⟨rfl, rfl⟩
def bA (m : Nat) (β : List Tree) (q : List GTarget) (n : (List ((Int × (List UInt8)) × ac))) (a : (List ((Int × Int) × aa))) (s : Int) (z : List Int) (t : List ae) (d : Int) (k : List Int) (e i : Int) (p1 : Tree) (p2 : List ak) (γ : Bool) (r0 : ac) (δ : List Tree) (r : List GTarget) (o : (List ((Int × (List UInt8)) × ac))) (b : (List ((Int × Int) × aa))) (v : Int) (α : List Int) (y : List ae) (f : Int) (l : List Int) (g j : Int) : Prop := ∀ (K : Ctx), aG K [2, 1, 0] → qLG K Tryz.f86 (fun u G => u = .agg (ac.c r0) ∧ G = ⟨6, [(4, .row 42 3 (List.map ae.w y)), (3, .row 3 1 (List.map (V.int .i64) α)), (2, .mp 84 81 (List.map (fun p => (fun x => V.agg [(V.int .i64 x.1), (V.int .i64 x.2)]) p.1) b) (List.map (fun p => aa.w p.2) b)), (1, .mp 137 61 (List.map (fun p => (fun x => V.agg [(V.int .i64 x.1), (V.str x.2)]) p.1) o) (List.map (fun p => ac.w p.2) o)), (0, vA δ (.row 5 (List.map GTarget.w r)) v f l g j)]⟩) (cB (cE (cB (cE (cB (cK (cB (cA (cB (ai Tryz.f86)))))))))) [.blk 0, .seq (xA (ai Tryz.f86))] 72 (mkF 72 0 [(0, .ptr 0 0), (2, .lk (List.map ak.c p2)), (4, .box (ao p1) 0), (6, .ptr 3 0), (9, .int .i64 p1.kind), (16, .bool γ)]) ⟨6, [(5, .row 42 3 (List.map ae.w t)), (4, .row 3 1 (List.map (V.int .i64) z)), (3, vB 0 0), (2, .mp 84 81 (List.map (fun p => (fun x => V.agg [(V.int .i64 x.1), (V.int .i64 x.2)]) p.1) a) (List.map (fun p => aa.w p.2) a)), (1, .mp 137 61 (List.map (fun p => (fun x => V.agg [(V.int .i64 x.1), (V.str x.2)]) p.1) n) (List.map (fun p => ac.w p.2) n)), (0, .var 63 [.row 4 (kidsV β), .row 5 (List.map GTarget.w q), .sl 1, .sl 2, .int .i64 s, .sl 4, .sl 5, .int .i64 d, .row 1 (List.map (V.int .i64) k), .int .i64 e, .int .i64 i])]⟩
theorem cJ (m : Nat) (α : List Tree) (l : List GTarget) (q : (List ((Int × (List UInt8)) × ac))) (a : (List ((Int × Int) × aa))) (r : Int) (n : List Int) (f : List ae) (b : Int) (e : List Int) (c d : Int) (p1 : Tree) (p2 : List ak) (r0 : ac) (β : List Tree) (s : List GTarget) (y : (List ((Int × (List UInt8)) × ac))) (o : (List ((Int × Int) × aa))) (t : Int) (z : List Int) (v : List ae) (g : Int) (k : List Int) (i j : Int) (h : ((p1.kind = 10) → (ac.mk 5 0) = r0 ∧ α = β ∧ l = s ∧ q = y ∧ a = o ∧ r = t ∧ n = z ∧ f = v ∧ b = g ∧ e = k ∧ c = i ∧ d = j) ∧ ((p1.kind ≠ 10) → ((p1.kind = 11) → (ac.mk 6 0) = r0 ∧ α = β ∧ l = s ∧ q = y ∧ a = o ∧ r = t ∧ n = z ∧ f = v ∧ b = g ∧ e = k ∧ c = i ∧ d = j) ∧ ((p1.kind ≠ 11) → ((p1.kind = 13) → bA m α l q a r n f b e c d p1 p2 true r0 β s y o t z v g k i j) ∧ ((p1.kind ≠ 13) → bA m α l q a r n f b e c d p1 p2 (p1.kind == 14) r0 β s y o t z v g k i j)))) : cR α l q a r n f b e c d p1 p2 r0 β s y o t z v g k i j := by
 refine al 72 [2, 1, 0] Tryz.func86 rfl rfl rfl (aA rfl) fun K hK => ?_
 refine gR 3 rfl <| gFP 5 rfl rfl rfl rfl <| gR 17 rfl <| qBeZ 10 11 rfl rfl rfl rfl h (fun h => ?_) fun h => ?_
 refine gR 10 rfl ?_
 obtain ⟨rfl, rfl, rfl, rfl, rfl, rfl, rfl, rfl, rfl, rfl, rfl, rfl⟩ := h
 refine go_sub (F' := (mkF 72 0 [(6, .ptr 5 0)])) (H' := ⟨6, [(5, .var 61 (ac.c (ac.mk 5 0))), (4, .row 42 3 (List.map ae.w f)), (3, .row 3 1 (List.map (V.int .i64) n)), (2, .mp 84 81 (List.map (fun p => (fun x => V.agg [(V.int .i64 x.1), (V.int .i64 x.2)]) p.1) a) (List.map (fun p => aa.w p.2) a)), (1, .mp 137 61 (List.map (fun p => (fun x => V.agg [(V.int .i64 x.1), (V.str x.2)]) p.1) q) (List.map (fun p => ac.w p.2) q)), (0, vA α (.row 5 (List.map GTarget.w l)) r b e c d)]⟩) [0, 1, 2, 3, 4, 6] [2, 1, 0] rfl hK pq1 ⟨pqo rfl rfl, ⟨_, rfl, rfl, rfl, (vH _ f).symm⟩, ⟨_, rfl, rfl, rfl, (vF _ n).symm⟩, ⟨_, rfl, rfl, rfl, rfl, rfl⟩, ⟨_, rfl, rfl, rfl, rfl, rfl⟩, (pqo1 rfl rfl)⟩ rfl ?_
 exact go_endD [5] ah (rs := [.cell 6 61]) rfl rfl ⟨rfl, rfl⟩
 refine gR 7 rfl <| qBeZ 13 14 rfl rfl rfl rfl h (fun h => ?_) fun h => ?_
 refine gR 10 rfl ?_
 obtain ⟨rfl, rfl, rfl, rfl, rfl, rfl, rfl, rfl, rfl, rfl, rfl, rfl⟩ := h
 refine go_sub (F' := (mkF 72 0 [(6, .ptr 5 0)])) (H' := ⟨6, [(5, .var 61 (ac.c (ac.mk 6 0))), (4, .row 42 3 (List.map ae.w f)), (3, .row 3 1 (List.map (V.int .i64) n)), (2, .mp 84 81 (List.map (fun p => (fun x => V.agg [(V.int .i64 x.1), (V.int .i64 x.2)]) p.1) a) (List.map (fun p => aa.w p.2) a)), (1, .mp 137 61 (List.map (fun p => (fun x => V.agg [(V.int .i64 x.1), (V.str x.2)]) p.1) q) (List.map (fun p => ac.w p.2) q)), (0, vA α (.row 5 (List.map GTarget.w l)) r b e c d)]⟩) [0, 1, 2, 3, 4, 6] [2, 1, 0] rfl hK pq1 ⟨pqo rfl rfl, ⟨_, rfl, rfl, rfl, (vH _ f).symm⟩, ⟨_, rfl, rfl, rfl, (vF _ n).symm⟩, ⟨_, rfl, rfl, rfl, rfl, rfl⟩, ⟨_, rfl, rfl, rfl, rfl, rfl⟩, (pqo1 rfl rfl)⟩ rfl ?_
 exact go_endD [5] ah (rs := [.cell 6 61]) rfl rfl ⟨rfl, rfl⟩
 refine gR 8 rfl <| qBeZ 16 17 rfl rfl rfl rfl h (fun h => ?_) fun h => ?_
 exact gR 3 rfl <| gJ (h K hK) [0, 1, 2, 6, 3, 4] [2, 1, 0] rfl hK pq6 ⟨⟨_, rfl, rfl, rfl, (vH _ f).symm⟩, ⟨_, rfl, rfl, rfl, (vF _ n).symm⟩, pqo rfl rfl, ⟨_, rfl, rfl, rfl, rfl, rfl⟩, ⟨_, rfl, rfl, rfl, rfl, rfl⟩, (pqo1 rfl rfl)⟩ rfl
 exact gR 6 rfl <| gJ (h K hK) [0, 1, 2, 6, 3, 4] [2, 1, 0] rfl hK pq6 ⟨⟨_, rfl, rfl, rfl, (vH _ f).symm⟩, ⟨_, rfl, rfl, rfl, (vF _ n).symm⟩, pqo rfl rfl, ⟨_, rfl, rfl, rfl, rfl, rfl⟩, ⟨_, rfl, rfl, rfl, rfl, rfl⟩, (pqo1 rfl rfl)⟩ rfl
theorem aC (m : Nat) (β : List Tree) (q : List GTarget) (r : (List ((Int × (List UInt8)) × ac))) (e : (List ((Int × Int) × aa))) (s : Int) (n : List Int) (f : List ae) (a : Int) (g : List Int) (b d : Int) (p1 : Tree) (p2 : List ak) (b1v1 : Bool) (r0 : ac) (π : List Tree) (t : List GTarget) (z : (List ((Int × (List UInt8)) × ac))) (o : (List ((Int × Int) × aa))) (v : Int) (α : List Int) (y : List ae) (i : Int) (l : List Int) (j k : Int) (h : ((b1v1 = true) → (ac.mk 7 0) = r0 ∧ β = π ∧ q = t ∧ r = z ∧ e = o ∧ s = v ∧ n = α ∧ f = y ∧ a = i ∧ g = l ∧ b = j ∧ d = k) ∧ ((b1v1 = false) → ((p1.kind = 12) → ∃ r1_1 r1_2 r1_3, ∃ (r1_4 : (List ((Int × (List UInt8)) × ac))), ∃ (r1_5 : (List ((Int × Int) × aa))), ∃ n1_6 r1_7 r1_8 n1_9 r1_10 n1_11 n1_12, dl β q r e s n f a g b d p1 p2 r1_1 r1_2 r1_3 r1_4 r1_5 n1_6 r1_7 r1_8 n1_9 r1_10 n1_11 n1_12 ∧ r1_1 = r0 ∧ r1_2 = π ∧ r1_3 = t ∧ r1_4 = z ∧ r1_5 = o ∧ n1_6 = v ∧ r1_7 = α ∧ r1_8 = y ∧ n1_9 = i ∧ r1_10 = l ∧ n1_11 = j ∧ n1_12 = k) ∧ ((p1.kind ≠ 12) → ((p1.kind = 16) → ∃ r1_13 r1_14 r1_15, ∃ (τ : (List ((Int × (List UInt8)) × ac))), ∃ (υ : (List ((Int × Int) × aa))), ∃ n1_18 γ δ n1_21 r1_22 n1_23 n1_24, eL β q r e s n f a g b d p1 p2 r1_13 r1_14 r1_15 τ υ n1_18 γ δ n1_21 r1_22 n1_23 n1_24 ∧ r1_13 = r0 ∧ r1_14 = π ∧ r1_15 = t ∧ τ = z ∧ υ = o ∧ n1_18 = v ∧ γ = α ∧ δ = y ∧ n1_21 = i ∧ r1_22 = l ∧ n1_23 = j ∧ n1_24 = k) ∧ ((p1.kind ≠ 16) → ((p1.kind = 18) → ∃ r1_25 r1_26 r1_27, ∃ (φ : (List ((Int × (List UInt8)) × ac))), ∃ (χ : (List ((Int × Int) × aa))), ∃ n1_30 ε ζ n1_33 r1_34 n1_35 n1_36, ib β q r e s n f a g b d p1 p2 r1_25 r1_26 r1_27 φ χ n1_30 ε ζ n1_33 r1_34 n1_35 n1_36 ∧ r1_25 = r0 ∧ r1_26 = π ∧ r1_27 = t ∧ φ = z ∧ χ = o ∧ n1_30 = v ∧ ε = α ∧ ζ = y ∧ n1_33 = i ∧ r1_34 = l ∧ n1_35 = j ∧ n1_36 = k) ∧ ((p1.kind ≠ 18) → ((p1.kind = 19) → ∃ r1_37 r1_38 r1_39, ∃ (ψ : (List ((Int × (List UInt8)) × ac))), ∃ (ω : (List ((Int × Int) × aa))), ∃ n1_42 η θ n1_45 r1_46 n1_47 n1_48, dj β q r e s n f a g b d p1 p2 r1_37 r1_38 r1_39 ψ ω n1_42 η θ n1_45 r1_46 n1_47 n1_48 ∧ r1_37 = r0 ∧ r1_38 = π ∧ r1_39 = t ∧ ψ = z ∧ ω = o ∧ n1_42 = v ∧ η = α ∧ θ = y ∧ n1_45 = i ∧ r1_46 = l ∧ n1_47 = j ∧ n1_48 = k) ∧ ((p1.kind ≠ 19) → ((p1.kind = 20) → ∃ r1_49 r1_50 r1_51, ∃ (r1_52 : (List ((Int × (List UInt8)) × ac))), ∃ (r1_53 : (List ((Int × Int) × aa))), ∃ n1_54 r1_55 r1_56 n1_57 r1_58 n1_59 n1_60, aD β q r e s n f a g b d p1 0 p2 r1_49 r1_50 r1_51 r1_52 r1_53 n1_54 r1_55 r1_56 n1_57 r1_58 n1_59 n1_60 ∧ ∃ r1_61 r1_62 r1_63, ∃ (r1_64 : (List ((Int × (List UInt8)) × ac))), ∃ (r1_65 : (List ((Int × Int) × aa))), ∃ n1_66 ι κ n1_69 r1_70 n1_71 n1_72, aD r1_50 r1_51 r1_52 r1_53 n1_54 r1_55 r1_56 n1_57 r1_58 n1_59 n1_60 p1 1 (ak.mk p1.text r1_49 :: p2) r1_61 r1_62 r1_63 r1_64 r1_65 n1_66 ι κ n1_69 r1_70 n1_71 n1_72 ∧ r1_61 = r0 ∧ r1_62 = π ∧ r1_63 = t ∧ r1_64 = z ∧ r1_65 = o ∧ n1_66 = v ∧ ι = α ∧ κ = y ∧ n1_69 = i ∧ r1_70 = l ∧ n1_71 = j ∧ n1_72 = k) ∧ ((p1.kind ≠ 20) → ((p1.kind = 21) → ∃ r1_73 r1_74 r1_75, ∃ (r1_76 : (List ((Int × (List UInt8)) × ac))), ∃ (r1_77 : (List ((Int × Int) × aa))), ∃ n1_78 μ ν n1_81 r1_82 n1_83 n1_84, de β q r e s n f a g b d p1 p2 r1_73 r1_74 r1_75 r1_76 r1_77 n1_78 μ ν n1_81 r1_82 n1_83 n1_84 ∧ r1_73 = r0 ∧ r1_74 = π ∧ r1_75 = t ∧ r1_76 = z ∧ r1_77 = o ∧ n1_78 = v ∧ μ = α ∧ ν = y ∧ n1_81 = i ∧ r1_82 = l ∧ n1_83 = j ∧ n1_84 = k) ∧ ((p1.kind ≠ 21) → ((p1.kind = 22) → ∃ r1_85 r1_86 r1_87, ∃ (r1_88 : (List ((Int × (List UInt8)) × ac))), ∃ (r1_89 : (List ((Int × Int) × aa))), ∃ n1_90 ξ ο n1_93 r1_94 n1_95 n1_96, aD β q r e s n f a g b d p1 0 p2 r1_85 r1_86 r1_87 r1_88 r1_89 n1_90 ξ ο n1_93 r1_94 n1_95 n1_96 ∧ r1_85 = r0 ∧ r1_86 = π ∧ r1_87 = t ∧ r1_88 = z ∧ r1_89 = o ∧ n1_90 = v ∧ ξ = α ∧ ο = y ∧ n1_93 = i ∧ r1_94 = l ∧ n1_95 = j ∧ n1_96 = k) ∧ ((p1.kind ≠ 22) → (ac.mk 0 0) = r0 ∧ β = π ∧ q = t ∧ r = z ∧ e = o ∧ s = v ∧ n = α ∧ f = y ∧ a = i ∧ g = l ∧ b = j ∧ d = k))))))))) : bA (m + 1) β q r e s n f a g b d p1 p2 b1v1 r0 π t z o v α y i l j k := by
 intro K hK
 refine qBi 16 rfl rfl rfl h (fun h => ?_) fun h => ?_
 refine gR 10 rfl ?_
 obtain ⟨rfl, rfl, rfl, rfl, rfl, rfl, rfl, rfl, rfl, rfl, rfl, rfl⟩ := h
 refine go_sub (F' := (mkF 72 0 [(6, .ptr 5 0)])) (H' := ⟨6, [(5, .var 61 (ac.c (ac.mk 7 0))), (4, .row 42 3 (List.map ae.w f)), (3, .row 3 1 (List.map (V.int .i64) n)), (2, .mp 84 81 (List.map (fun p => (fun x => V.agg [(V.int .i64 x.1), (V.int .i64 x.2)]) p.1) e) (List.map (fun p => aa.w p.2) e)), (1, .mp 137 61 (List.map (fun p => (fun x => V.agg [(V.int .i64 x.1), (V.str x.2)]) p.1) r) (List.map (fun p => ac.w p.2) r)), (0, vA β (.row 5 (List.map GTarget.w q)) s a g b d)]⟩) [0, 1, 2, 4, 5, 3] [2, 1, 0] rfl hK pq1 ⟨pqo rfl rfl, ⟨_, rfl, rfl, rfl, (vH _ f).symm⟩, ⟨_, rfl, rfl, rfl, (vF _ n).symm⟩, ⟨_, rfl, rfl, rfl, rfl, rfl⟩, ⟨_, rfl, rfl, rfl, rfl, rfl⟩, (pqo1 rfl rfl)⟩ rfl ?_
 exact go_endD [5] ah (rs := [.cell 6 61]) rfl rfl ⟨rfl, rfl⟩
 refine gR 7 rfl <| qBeZ 20 21 rfl rfl rfl rfl h (fun h => ?_) fun h => ?_
 refine gR 6 rfl ?_
 obtain ⟨r1_1, r1_2, r1_3, r1_4, r1_5, n1_6, r1_7, r1_8, n1_9, r1_10, n1_11, n1_12, hs17, h⟩ := h
 refine gCZ hs17 [0, 1, 2, 4, 5] ⟨⟨_, rfl, ⟨rfl, rfl, (vH _ f).symm⟩⟩, ⟨⟨_, rfl, ⟨rfl, rfl, (vF _ n).symm⟩⟩, ⟨⟨_, rfl, ⟨rfl, rfl, rfl, rfl⟩⟩, ⟨⟨_, rfl, ⟨rfl, rfl, rfl, rfl⟩⟩, ⟨⟨_, rfl, ⟨rfl, an.rfl⟩⟩, trivial⟩⟩⟩⟩⟩ ?_
 refine gHR 9 (List.map (V.int .i64) r1_7) rfl (vF _ r1_7) rfl <| gHR 10 (List.map ae.w r1_8) rfl (vH _ r1_8) rfl <| gHn ⟨12, [(10, .row 42 3 (List.map ae.w r1_8)), (9, .row 3 1 (List.map (V.int .i64) r1_7)), (3, vB 0 0), (2, .mp 84 81 (List.map (fun p => (fun x => V.agg [(V.int .i64 x.1), (V.int .i64 x.2)]) p.1) r1_5) (List.map (fun p => aa.w p.2) r1_5)), (1, .mp 137 61 (List.map (fun p => (fun x => V.agg [(V.int .i64 x.1), (V.str x.2)]) p.1) r1_4) (List.map (fun p => ac.w p.2) r1_4)), (0, vE r1_2 (.row 5 (List.map GTarget.w r1_3)) n1_6 n1_9 r1_10 n1_11 n1_12)]⟩ rfl ⟨rfl, rfl, rfl, rfl, rfl, rfl, trivial⟩ ?_
 refine gR 6 rfl ?_
 obtain ⟨rfl, rfl, rfl, rfl, rfl, rfl, rfl, rfl, rfl, rfl, rfl, rfl⟩ := h
 refine go_sub (F' := (mkF 72 0 [(6, .ptr 5 0)])) (H' := ⟨6, [(5, .var 61 (ac.c r1_1)), (4, .row 42 3 (List.map ae.w r1_8)), (3, .row 3 1 (List.map (V.int .i64) r1_7)), (2, .mp 84 81 (List.map (fun p => (fun x => V.agg [(V.int .i64 x.1), (V.int .i64 x.2)]) p.1) r1_5) (List.map (fun p => aa.w p.2) r1_5)), (1, .mp 137 61 (List.map (fun p => (fun x => V.agg [(V.int .i64 x.1), (V.str x.2)]) p.1) r1_4) (List.map (fun p => ac.w p.2) r1_4)), (0, vA r1_2 (.row 5 (List.map GTarget.w r1_3)) n1_6 n1_9 r1_10 n1_11 n1_12)]⟩) [0, 1, 2, 9, 10, 3] [2, 1, 0] rfl hK pq1 ⟨pqo rfl rfl, ⟨_, rfl, rfl, rfl, (vH _ r1_8).symm⟩, ⟨_, rfl, rfl, rfl, (vF _ r1_7).symm⟩, ⟨_, rfl, rfl, rfl, rfl, rfl⟩, ⟨_, rfl, rfl, rfl, rfl, rfl⟩, (pqo1 rfl rfl)⟩ rfl ?_
 exact go_endD [5] ah (rs := [.cell 6 61]) rfl rfl ⟨rfl, rfl⟩
 refine gR 7 rfl <| qBeZ 26 27 rfl rfl rfl rfl h (fun h => ?_) fun h => ?_
 refine gR 6 rfl ?_
 obtain ⟨r1_13, r1_14, r1_15, τ, υ, n1_18, γ, δ, n1_21, r1_22, n1_23, n1_24, hs18, h⟩ := h
 refine gCZ hs18 [0, 1, 2, 4, 5] ⟨⟨_, rfl, ⟨rfl, rfl, (vH _ f).symm⟩⟩, ⟨⟨_, rfl, ⟨rfl, rfl, (vF _ n).symm⟩⟩, ⟨⟨_, rfl, ⟨rfl, rfl, rfl, rfl⟩⟩, ⟨⟨_, rfl, ⟨rfl, rfl, rfl, rfl⟩⟩, ⟨⟨_, rfl, ⟨rfl, an.rfl⟩⟩, trivial⟩⟩⟩⟩⟩ ?_
 refine gHR 9 (List.map (V.int .i64) γ) rfl (vF _ γ) rfl <| gHR 10 (List.map ae.w δ) rfl (vH _ δ) rfl <| gHn ⟨12, [(10, .row 42 3 (List.map ae.w δ)), (9, .row 3 1 (List.map (V.int .i64) γ)), (3, vB 0 0), (2, .mp 84 81 (List.map (fun p => (fun x => V.agg [(V.int .i64 x.1), (V.int .i64 x.2)]) p.1) υ) (List.map (fun p => aa.w p.2) υ)), (1, .mp 137 61 (List.map (fun p => (fun x => V.agg [(V.int .i64 x.1), (V.str x.2)]) p.1) τ) (List.map (fun p => ac.w p.2) τ)), (0, vE r1_14 (.row 5 (List.map GTarget.w r1_15)) n1_18 n1_21 r1_22 n1_23 n1_24)]⟩ rfl ⟨rfl, rfl, rfl, rfl, rfl, rfl, trivial⟩ ?_
 refine gR 6 rfl ?_
 obtain ⟨rfl, rfl, rfl, rfl, rfl, rfl, rfl, rfl, rfl, rfl, rfl, rfl⟩ := h
 refine go_sub (F' := (mkF 72 0 [(6, .ptr 5 0)])) (H' := ⟨6, [(5, .var 61 (ac.c r1_13)), (4, .row 42 3 (List.map ae.w δ)), (3, .row 3 1 (List.map (V.int .i64) γ)), (2, .mp 84 81 (List.map (fun p => (fun x => V.agg [(V.int .i64 x.1), (V.int .i64 x.2)]) p.1) υ) (List.map (fun p => aa.w p.2) υ)), (1, .mp 137 61 (List.map (fun p => (fun x => V.agg [(V.int .i64 x.1), (V.str x.2)]) p.1) τ) (List.map (fun p => ac.w p.2) τ)), (0, vA r1_14 (.row 5 (List.map GTarget.w r1_15)) n1_18 n1_21 r1_22 n1_23 n1_24)]⟩) [0, 1, 2, 9, 10, 3] [2, 1, 0] rfl hK pq1 ⟨pqo rfl rfl, ⟨_, rfl, rfl, rfl, (vH _ δ).symm⟩, ⟨_, rfl, rfl, rfl, (vF _ γ).symm⟩, ⟨_, rfl, rfl, rfl, rfl, rfl⟩, ⟨_, rfl, rfl, rfl, rfl, rfl⟩, (pqo1 rfl rfl)⟩ rfl ?_
 exact go_endD [5] ah (rs := [.cell 6 61]) rfl rfl ⟨rfl, rfl⟩
 refine gR 7 rfl <| qBeZ 32 33 rfl rfl rfl rfl h (fun h => ?_) fun h => ?_
 refine gR 6 rfl ?_
 obtain ⟨r1_25, r1_26, r1_27, φ, χ, n1_30, ε, ζ, n1_33, r1_34, n1_35, n1_36, hs19, h⟩ := h
 refine gCZ hs19 [0, 1, 2, 4, 5] ⟨⟨_, rfl, ⟨rfl, rfl, (vH _ f).symm⟩⟩, ⟨⟨_, rfl, ⟨rfl, rfl, (vF _ n).symm⟩⟩, ⟨⟨_, rfl, ⟨rfl, rfl, rfl, rfl⟩⟩, ⟨⟨_, rfl, ⟨rfl, rfl, rfl, rfl⟩⟩, ⟨⟨_, rfl, ⟨rfl, an.rfl⟩⟩, trivial⟩⟩⟩⟩⟩ ?_
 refine gHR 9 (List.map (V.int .i64) ε) rfl (vF _ ε) rfl <| gHR 10 (List.map ae.w ζ) rfl (vH _ ζ) rfl <| gHn ⟨12, [(10, .row 42 3 (List.map ae.w ζ)), (9, .row 3 1 (List.map (V.int .i64) ε)), (3, vB 0 0), (2, .mp 84 81 (List.map (fun p => (fun x => V.agg [(V.int .i64 x.1), (V.int .i64 x.2)]) p.1) χ) (List.map (fun p => aa.w p.2) χ)), (1, .mp 137 61 (List.map (fun p => (fun x => V.agg [(V.int .i64 x.1), (V.str x.2)]) p.1) φ) (List.map (fun p => ac.w p.2) φ)), (0, vE r1_26 (.row 5 (List.map GTarget.w r1_27)) n1_30 n1_33 r1_34 n1_35 n1_36)]⟩ rfl ⟨rfl, rfl, rfl, rfl, rfl, rfl, trivial⟩ ?_
 refine gR 6 rfl ?_
 obtain ⟨rfl, rfl, rfl, rfl, rfl, rfl, rfl, rfl, rfl, rfl, rfl, rfl⟩ := h
 refine go_sub (F' := (mkF 72 0 [(6, .ptr 5 0)])) (H' := ⟨6, [(5, .var 61 (ac.c r1_25)), (4, .row 42 3 (List.map ae.w ζ)), (3, .row 3 1 (List.map (V.int .i64) ε)), (2, .mp 84 81 (List.map (fun p => (fun x => V.agg [(V.int .i64 x.1), (V.int .i64 x.2)]) p.1) χ) (List.map (fun p => aa.w p.2) χ)), (1, .mp 137 61 (List.map (fun p => (fun x => V.agg [(V.int .i64 x.1), (V.str x.2)]) p.1) φ) (List.map (fun p => ac.w p.2) φ)), (0, vA r1_26 (.row 5 (List.map GTarget.w r1_27)) n1_30 n1_33 r1_34 n1_35 n1_36)]⟩) [0, 1, 2, 9, 10, 3] [2, 1, 0] rfl hK pq1 ⟨pqo rfl rfl, ⟨_, rfl, rfl, rfl, (vH _ ζ).symm⟩, ⟨_, rfl, rfl, rfl, (vF _ ε).symm⟩, ⟨_, rfl, rfl, rfl, rfl, rfl⟩, ⟨_, rfl, rfl, rfl, rfl, rfl⟩, (pqo1 rfl rfl)⟩ rfl ?_
 exact go_endD [5] ah (rs := [.cell 6 61]) rfl rfl ⟨rfl, rfl⟩
 refine gR 7 rfl <| qBeZ 38 39 rfl rfl rfl rfl h (fun h => ?_) fun h => ?_
 refine gR 6 rfl ?_
 obtain ⟨r1_37, r1_38, r1_39, ψ, ω, n1_42, η, θ, n1_45, r1_46, n1_47, n1_48, hs20, h⟩ := h
 refine gCZ hs20 [0, 1, 2, 4, 5] ⟨⟨_, rfl, ⟨rfl, rfl, (vH _ f).symm⟩⟩, ⟨⟨_, rfl, ⟨rfl, rfl, (vF _ n).symm⟩⟩, ⟨⟨_, rfl, ⟨rfl, rfl, rfl, rfl⟩⟩, ⟨⟨_, rfl, ⟨rfl, rfl, rfl, rfl⟩⟩, ⟨⟨_, rfl, ⟨rfl, an.rfl⟩⟩, trivial⟩⟩⟩⟩⟩ ?_
 refine gHR 9 (List.map (V.int .i64) η) rfl (vF _ η) rfl <| gHR 10 (List.map ae.w θ) rfl (vH _ θ) rfl <| gHn ⟨12, [(10, .row 42 3 (List.map ae.w θ)), (9, .row 3 1 (List.map (V.int .i64) η)), (3, vB 0 0), (2, .mp 84 81 (List.map (fun p => (fun x => V.agg [(V.int .i64 x.1), (V.int .i64 x.2)]) p.1) ω) (List.map (fun p => aa.w p.2) ω)), (1, .mp 137 61 (List.map (fun p => (fun x => V.agg [(V.int .i64 x.1), (V.str x.2)]) p.1) ψ) (List.map (fun p => ac.w p.2) ψ)), (0, vE r1_38 (.row 5 (List.map GTarget.w r1_39)) n1_42 n1_45 r1_46 n1_47 n1_48)]⟩ rfl ⟨rfl, rfl, rfl, rfl, rfl, rfl, trivial⟩ ?_
 refine gR 6 rfl ?_
 obtain ⟨rfl, rfl, rfl, rfl, rfl, rfl, rfl, rfl, rfl, rfl, rfl, rfl⟩ := h
 refine go_sub (F' := (mkF 72 0 [(6, .ptr 5 0)])) (H' := ⟨6, [(5, .var 61 (ac.c r1_37)), (4, .row 42 3 (List.map ae.w θ)), (3, .row 3 1 (List.map (V.int .i64) η)), (2, .mp 84 81 (List.map (fun p => (fun x => V.agg [(V.int .i64 x.1), (V.int .i64 x.2)]) p.1) ω) (List.map (fun p => aa.w p.2) ω)), (1, .mp 137 61 (List.map (fun p => (fun x => V.agg [(V.int .i64 x.1), (V.str x.2)]) p.1) ψ) (List.map (fun p => ac.w p.2) ψ)), (0, vA r1_38 (.row 5 (List.map GTarget.w r1_39)) n1_42 n1_45 r1_46 n1_47 n1_48)]⟩) [0, 1, 2, 9, 10, 3] [2, 1, 0] rfl hK pq1 ⟨pqo rfl rfl, ⟨_, rfl, rfl, rfl, (vH _ θ).symm⟩, ⟨_, rfl, rfl, rfl, (vF _ η).symm⟩, ⟨_, rfl, rfl, rfl, rfl, rfl⟩, ⟨_, rfl, rfl, rfl, rfl, rfl⟩, (pqo1 rfl rfl)⟩ rfl ?_
 exact go_endD [5] ah (rs := [.cell 6 61]) rfl rfl ⟨rfl, rfl⟩
 refine gR 7 rfl <| qBeZ 44 45 rfl rfl rfl rfl h (fun h => ?_) fun h => ?_
 refine gR 6 rfl ?_
 obtain ⟨r1_49, r1_50, r1_51, r1_52, r1_53, n1_54, r1_55, r1_56, n1_57, r1_58, n1_59, n1_60, hs21, h⟩ := h
 refine gCZ hs21 [0, 1, 2, 4, 5] ⟨⟨_, rfl, ⟨rfl, rfl, (vH _ f).symm⟩⟩, ⟨⟨_, rfl, ⟨rfl, rfl, (vF _ n).symm⟩⟩, ⟨⟨_, rfl, ⟨rfl, rfl, rfl, rfl⟩⟩, ⟨⟨_, rfl, ⟨rfl, rfl, rfl, rfl⟩⟩, ⟨⟨_, rfl, ⟨rfl, an.rfl⟩⟩, trivial⟩⟩⟩⟩⟩ ?_
 refine gHR 9 (List.map (V.int .i64) r1_55) rfl (vF _ r1_55) rfl <| gHR 10 (List.map ae.w r1_56) rfl (vH _ r1_56) rfl <| gHn ⟨12, [(10, .row 42 3 (List.map ae.w r1_56)), (9, .row 3 1 (List.map (V.int .i64) r1_55)), (3, vB 0 0), (2, .mp 84 81 (List.map (fun p => (fun x => V.agg [(V.int .i64 x.1), (V.int .i64 x.2)]) p.1) r1_53) (List.map (fun p => aa.w p.2) r1_53)), (1, .mp 137 61 (List.map (fun p => (fun x => V.agg [(V.int .i64 x.1), (V.str x.2)]) p.1) r1_52) (List.map (fun p => ac.w p.2) r1_52)), (0, vE r1_50 (.row 5 (List.map GTarget.w r1_51)) n1_54 n1_57 r1_58 n1_59 n1_60)]⟩ rfl ⟨rfl, rfl, rfl, rfl, rfl, rfl, trivial⟩ ?_
 refine gR 14 rfl <| gFP 13 rfl rfl rfl rfl ?_
 obtain ⟨r1_61, r1_62, r1_63, r1_64, r1_65, n1_66, ι, κ, n1_69, r1_70, n1_71, n1_72, hs22, h⟩ := h
 refine gC hs22 [0, 1, 2, 9, 10] (by kernel_rfl) rfl rfl (.cons .rfl (.cons .rfl (.cons .rfl (.cons (lkC rfl) .nil)))) ⟨⟨_, rfl, ⟨rfl, rfl, (vH _ r1_56).symm⟩⟩, ⟨⟨_, rfl, ⟨rfl, rfl, (vF _ r1_55).symm⟩⟩, ⟨⟨_, rfl, ⟨rfl, rfl, rfl, rfl⟩⟩, ⟨⟨_, rfl, ⟨rfl, rfl, rfl, rfl⟩⟩, ⟨⟨_, rfl, ⟨rfl, an.rfl⟩⟩, trivial⟩⟩⟩⟩⟩ rfl ?_
 rintro _ _ ⟨rfl, rfl⟩
 refine gHR 17 (List.map (V.int .i64) ι) rfl (vF _ ι) rfl <| gHR 18 (List.map ae.w κ) rfl (vH _ κ) rfl <| gHn ⟨20, [(18, .row 42 3 (List.map ae.w κ)), (17, .row 3 1 (List.map (V.int .i64) ι)), (12, .var 61 (ac.c r1_49)), (3, vB 0 0), (2, .mp 84 81 (List.map (fun p => (fun x => V.agg [(V.int .i64 x.1), (V.int .i64 x.2)]) p.1) r1_65) (List.map (fun p => aa.w p.2) r1_65)), (1, .mp 137 61 (List.map (fun p => (fun x => V.agg [(V.int .i64 x.1), (V.str x.2)]) p.1) r1_64) (List.map (fun p => ac.w p.2) r1_64)), (0, .var 63 [.row 4 (kidsV r1_62), .row 5 (List.map GTarget.w r1_63), .sl 1, .sl 2, .int .i64 n1_66, .sl 17, .sl 18, .int .i64 n1_69, .row 1 (List.map (V.int .i64) r1_70), .int .i64 n1_71, .int .i64 n1_72])]⟩ rfl ⟨rfl, rfl, rfl, rfl, rfl, rfl, rfl, trivial⟩ ?_
 refine gR 6 rfl ?_
 obtain ⟨rfl, rfl, rfl, rfl, rfl, rfl, rfl, rfl, rfl, rfl, rfl, rfl⟩ := h
 refine go_sub (F' := (mkF 72 0 [(6, .ptr 5 0)])) (H' := ⟨6, [(5, .var 61 (ac.c r1_61)), (4, .row 42 3 (List.map ae.w κ)), (3, .row 3 1 (List.map (V.int .i64) ι)), (2, .mp 84 81 (List.map (fun p => (fun x => V.agg [(V.int .i64 x.1), (V.int .i64 x.2)]) p.1) r1_65) (List.map (fun p => aa.w p.2) r1_65)), (1, .mp 137 61 (List.map (fun p => (fun x => V.agg [(V.int .i64 x.1), (V.str x.2)]) p.1) r1_64) (List.map (fun p => ac.w p.2) r1_64)), (0, vA r1_62 (.row 5 (List.map GTarget.w r1_63)) n1_66 n1_69 r1_70 n1_71 n1_72)]⟩) [0, 1, 2, 17, 18, 3] [2, 1, 0] rfl hK pq1 ⟨pqo rfl rfl, ⟨_, rfl, rfl, rfl, (vH _ κ).symm⟩, ⟨_, rfl, rfl, rfl, (vF _ ι).symm⟩, ⟨_, rfl, rfl, rfl, rfl, rfl⟩, ⟨_, rfl, rfl, rfl, rfl, rfl⟩, (pqo1 rfl rfl)⟩ rfl ?_
 exact go_endD [5] ah (rs := [.cell 6 61]) rfl rfl ⟨rfl, rfl⟩
 refine gR 7 rfl <| qBeZ 59 60 rfl rfl rfl rfl h (fun h => ?_) fun h => ?_
 refine gR 6 rfl ?_
 obtain ⟨r1_73, r1_74, r1_75, r1_76, r1_77, n1_78, μ, ν, n1_81, r1_82, n1_83, n1_84, hs23, h⟩ := h
 refine gCZ hs23 [0, 1, 2, 4, 5] ⟨⟨_, rfl, ⟨rfl, rfl, (vH _ f).symm⟩⟩, ⟨⟨_, rfl, ⟨rfl, rfl, (vF _ n).symm⟩⟩, ⟨⟨_, rfl, ⟨rfl, rfl, rfl, rfl⟩⟩, ⟨⟨_, rfl, ⟨rfl, rfl, rfl, rfl⟩⟩, ⟨⟨_, rfl, ⟨rfl, an.rfl⟩⟩, trivial⟩⟩⟩⟩⟩ ?_
 refine gHR 9 (List.map (V.int .i64) μ) rfl (vF _ μ) rfl <| gHR 10 (List.map ae.w ν) rfl (vH _ ν) rfl <| gHn ⟨12, [(10, .row 42 3 (List.map ae.w ν)), (9, .row 3 1 (List.map (V.int .i64) μ)), (3, vB 0 0), (2, .mp 84 81 (List.map (fun p => (fun x => V.agg [(V.int .i64 x.1), (V.int .i64 x.2)]) p.1) r1_77) (List.map (fun p => aa.w p.2) r1_77)), (1, .mp 137 61 (List.map (fun p => (fun x => V.agg [(V.int .i64 x.1), (V.str x.2)]) p.1) r1_76) (List.map (fun p => ac.w p.2) r1_76)), (0, vE r1_74 (.row 5 (List.map GTarget.w r1_75)) n1_78 n1_81 r1_82 n1_83 n1_84)]⟩ rfl ⟨rfl, rfl, rfl, rfl, rfl, rfl, trivial⟩ ?_
 refine gR 6 rfl ?_
 obtain ⟨rfl, rfl, rfl, rfl, rfl, rfl, rfl, rfl, rfl, rfl, rfl, rfl⟩ := h
 refine go_sub (F' := (mkF 72 0 [(6, .ptr 5 0)])) (H' := ⟨6, [(5, .var 61 (ac.c r1_73)), (4, .row 42 3 (List.map ae.w ν)), (3, .row 3 1 (List.map (V.int .i64) μ)), (2, .mp 84 81 (List.map (fun p => (fun x => V.agg [(V.int .i64 x.1), (V.int .i64 x.2)]) p.1) r1_77) (List.map (fun p => aa.w p.2) r1_77)), (1, .mp 137 61 (List.map (fun p => (fun x => V.agg [(V.int .i64 x.1), (V.str x.2)]) p.1) r1_76) (List.map (fun p => ac.w p.2) r1_76)), (0, vA r1_74 (.row 5 (List.map GTarget.w r1_75)) n1_78 n1_81 r1_82 n1_83 n1_84)]⟩) [0, 1, 2, 9, 10, 3] [2, 1, 0] rfl hK pq1 ⟨pqo rfl rfl, ⟨_, rfl, rfl, rfl, (vH _ ν).symm⟩, ⟨_, rfl, rfl, rfl, (vF _ μ).symm⟩, ⟨_, rfl, rfl, rfl, rfl, rfl⟩, ⟨_, rfl, rfl, rfl, rfl, rfl⟩, (pqo1 rfl rfl)⟩ rfl ?_
 exact go_endD [5] ah (rs := [.cell 6 61]) rfl rfl ⟨rfl, rfl⟩
 refine gR 7 rfl <| qBeZ 65 66 rfl rfl rfl rfl h (fun h => ?_) fun h => ?_
 refine gR 6 rfl ?_
 obtain ⟨r1_85, r1_86, r1_87, r1_88, r1_89, n1_90, ξ, ο, n1_93, r1_94, n1_95, n1_96, hs24, h⟩ := h
 refine gCZ hs24 [0, 1, 2, 4, 5] ⟨⟨_, rfl, ⟨rfl, rfl, (vH _ f).symm⟩⟩, ⟨⟨_, rfl, ⟨rfl, rfl, (vF _ n).symm⟩⟩, ⟨⟨_, rfl, ⟨rfl, rfl, rfl, rfl⟩⟩, ⟨⟨_, rfl, ⟨rfl, rfl, rfl, rfl⟩⟩, ⟨⟨_, rfl, ⟨rfl, an.rfl⟩⟩, trivial⟩⟩⟩⟩⟩ ?_
 refine gHR 9 (List.map (V.int .i64) ξ) rfl (vF _ ξ) rfl <| gHR 10 (List.map ae.w ο) rfl (vH _ ο) rfl <| gHn ⟨12, [(10, .row 42 3 (List.map ae.w ο)), (9, .row 3 1 (List.map (V.int .i64) ξ)), (3, vB 0 0), (2, .mp 84 81 (List.map (fun p => (fun x => V.agg [(V.int .i64 x.1), (V.int .i64 x.2)]) p.1) r1_89) (List.map (fun p => aa.w p.2) r1_89)), (1, .mp 137 61 (List.map (fun p => (fun x => V.agg [(V.int .i64 x.1), (V.str x.2)]) p.1) r1_88) (List.map (fun p => ac.w p.2) r1_88)), (0, vE r1_86 (.row 5 (List.map GTarget.w r1_87)) n1_90 n1_93 r1_94 n1_95 n1_96)]⟩ rfl ⟨rfl, rfl, rfl, rfl, rfl, rfl, trivial⟩ ?_
 refine gR 6 rfl ?_
 obtain ⟨rfl, rfl, rfl, rfl, rfl, rfl, rfl, rfl, rfl, rfl, rfl, rfl⟩ := h
 refine go_sub (F' := (mkF 72 0 [(6, .ptr 5 0)])) (H' := ⟨6, [(5, .var 61 (ac.c r1_85)), (4, .row 42 3 (List.map ae.w ο)), (3, .row 3 1 (List.map (V.int .i64) ξ)), (2, .mp 84 81 (List.map (fun p => (fun x => V.agg [(V.int .i64 x.1), (V.int .i64 x.2)]) p.1) r1_89) (List.map (fun p => aa.w p.2) r1_89)), (1, .mp 137 61 (List.map (fun p => (fun x => V.agg [(V.int .i64 x.1), (V.str x.2)]) p.1) r1_88) (List.map (fun p => ac.w p.2) r1_88)), (0, vA r1_86 (.row 5 (List.map GTarget.w r1_87)) n1_90 n1_93 r1_94 n1_95 n1_96)]⟩) [0, 1, 2, 9, 10, 3] [2, 1, 0] rfl hK pq1 ⟨pqo rfl rfl, ⟨_, rfl, rfl, rfl, (vH _ ο).symm⟩, ⟨_, rfl, rfl, rfl, (vF _ ξ).symm⟩, ⟨_, rfl, rfl, rfl, rfl, rfl⟩, ⟨_, rfl, rfl, rfl, rfl, rfl⟩, (pqo1 rfl rfl)⟩ rfl ?_
 exact go_endD [5] ah (rs := [.cell 6 61]) rfl rfl ⟨rfl, rfl⟩
 refine gR 11 rfl ?_
 obtain ⟨rfl, rfl, rfl, rfl, rfl, rfl, rfl, rfl, rfl, rfl, rfl, rfl⟩ := h
 refine go_sub (F' := (mkF 72 0 [(6, .ptr 5 0)])) (H' := ⟨6, [(5, .var 61 (ac.c (ac.mk 0 0))), (4, .row 42 3 (List.map ae.w f)), (3, .row 3 1 (List.map (V.int .i64) n)), (2, .mp 84 81 (List.map (fun p => (fun x => V.agg [(V.int .i64 x.1), (V.int .i64 x.2)]) p.1) e) (List.map (fun p => aa.w p.2) e)), (1, .mp 137 61 (List.map (fun p => (fun x => V.agg [(V.int .i64 x.1), (V.str x.2)]) p.1) r) (List.map (fun p => ac.w p.2) r)), (0, vA β (.row 5 (List.map GTarget.w q)) s a g b d)]⟩) [0, 1, 2, 4, 5, 3] [2, 1, 0] rfl hK pq1 ⟨pqo rfl rfl, ⟨_, rfl, rfl, rfl, (vH _ f).symm⟩, ⟨_, rfl, rfl, rfl, (vF _ n).symm⟩, ⟨_, rfl, rfl, rfl, rfl, rfl⟩, ⟨_, rfl, rfl, rfl, rfl, rfl⟩, (pqo1 rfl rfl)⟩ rfl ?_
 exact go_endD [5] ah (rs := [.cell 6 61]) rfl rfl ⟨rfl, rfl⟩
def fw : KeyT Tryz.prog 137 (Int × (List UInt8)) (fun x => V.agg [(V.int .i64 x.1), (V.str x.2)]) := Cc (fun x => x.1) (fun x => x.2) (fun x y h1 h2 => Prod.ext h1 h2) Tryz.underlying137 (by kernel_rfl) (by decide) (by decide) rfl rfl Tryz.underlying3 Tryz.underlying9
def bi : KeyT Tryz.prog 84 (Int × Int) (fun x => V.agg [(V.int .i64 x.1), (V.int .i64 x.2)]) := Ch (fun x => x.1) (fun x => x.2) (fun x y h1 h2 => Prod.ext h1 h2) Tryz.underlying84 (by kernel_rfl) (by decide) (by decide) rfl rfl Tryz.underlying3 Tryz.underlying3
def dK (p0 l : List Tree) (g : List GTarget) (f : (List ((Int × (List UInt8)) × ac))) (a : (List ((Int × Int) × aa))) (i : Int) (k : List Int) (j : List ae) (b : Int) (e : List Int) (c d : Int) : Prop := aV [] Tryz.prog 19 [.row 4 (kidsV p0)] ⟨0, []⟩ (fun u G => u = .ptr 0 0 ∧ G = ⟨5, [(4, .row 42 3 (List.map ae.w j)), (3, .row 3 1 (List.map (V.int .i64) k)), (2, .mp 84 81 (List.map (fun p => (fun x => V.agg [(V.int .i64 x.1), (V.int .i64 x.2)]) p.1) a) (List.map (fun p => aa.w p.2) a)), (1, .mp 137 61 (List.map (fun p => (fun x => V.agg [(V.int .i64 x.1), (V.str x.2)]) p.1) f) (List.map (fun p => ac.w p.2) f)), (0, vA l (.row 5 (List.map GTarget.w g)) i b e c d)]⟩)
def fS (m : Nat) (γ : List Tree) (q : List GTarget) (n : (List ((Int × (List UInt8)) × ac))) (a : (List ((Int × Int) × aa))) (s : Int) (z : List Int) (t : List ae) (d : Int) (k : List Int) (e i p1 : Int) (β : Tree) (δ ε ζ : Int) (η : Bool) (r0 : ac) (θ : List Tree) (r : List GTarget) (o : (List ((Int × (List UInt8)) × ac))) (b : (List ((Int × Int) × aa))) (v : Int) (α : List Int) (y : List ae) (f : Int) (l : List Int) (g j : Int) : Prop := ∀ (K : Ctx), aG K [2, 1, 0] → Go Tryz.prog K (bodyPost Tryz.prog Tryz.f57 (SP K (fun u G => u = .agg (ac.c r0) ∧ G = ⟨6, [(4, .row 42 3 (List.map ae.w y)), (3, .row 3 1 (List.map (V.int .i64) α)), (2, .mp 84 81 (List.map (fun p => (fun x => V.agg [(V.int .i64 x.1), (V.int .i64 x.2)]) p.1) b) (List.map (fun p => aa.w p.2) b)), (1, .mp 137 61 (List.map (fun p => (fun x => V.agg [(V.int .i64 x.1), (V.str x.2)]) p.1) o) (List.map (fun p => ac.w p.2) o)), (0, vA θ (.row 5 (List.map GTarget.w r)) v f l g j)]⟩))) (.ex .normal) [.seq (xA (xF (ai Tryz.f57)))] 79 (mkF 79 0 [(0, .ptr 0 0), (1, .int .i64 p1), (6, .ptr 3 0), (7, .ptr 4 0), (8, .int .i64 δ), (9, .ptr 5 0), (10, .ptr 6 0), (11, .bool η)]) ⟨9, [(8, .row 42 3 (List.map ae.w t)), (7, .row 3 1 (List.map (V.int .i64) z)), (6, vB ε ζ), (5, .var 137 [.int .i64 p1, .str β.text]), (4, .var 29 (ao β)), (3, vB 0 0), (2, .mp 84 81 (List.map (fun p => (fun x => V.agg [(V.int .i64 x.1), (V.int .i64 x.2)]) p.1) a) (List.map (fun p => aa.w p.2) a)), (1, .mp 137 61 (List.map (fun p => (fun x => V.agg [(V.int .i64 x.1), (V.str x.2)]) p.1) n) (List.map (fun p => ac.w p.2) n)), (0, .var 63 [.row 4 (kidsV γ), .row 5 (List.map GTarget.w q), .sl 1, .sl 2, .int .i64 s, .sl 7, .sl 8, .int .i64 d, .row 1 (List.map (V.int .i64) k), .int .i64 e, .int .i64 i])]⟩
theorem rS_typing_checker_expand (m : Nat) (η : List Tree) (v : List GTarget) (a : (List ((Int × (List UInt8)) × ac))) (e : (List ((Int × Int) × aa))) (z : Int) (r : List Int) (d : List ae) (b : Int) (g : List Int) (c f p1 : Int) (p2 : Tree) (r0 : ac) (ι : List Tree) (α : List GTarget) (δ : (List ((Int × (List UInt8)) × ac))) (t : (List ((Int × Int) × aa))) (β : Int) (ε : List Int) (γ : List ae) (n : Int) (s : List Int) (o q : Int) (h : ∃ y ζ, iQ p2 y ζ ∧ ((y.kind ≠ 9) → (ac.mk y.kind ζ) = r0 ∧ η = ι ∧ v = α ∧ a = δ ∧ e = t ∧ z = β ∧ r = ε ∧ d = γ ∧ b = n ∧ g = s ∧ c = o ∧ f = q) ∧ ((y.kind = 9) → ((mlook (p1, y.text) a = none) → fS m η v a e z r d b g c f p1 y ζ 0 0 false r0 ι α δ t β ε γ n s o q) ∧ (∀ (θ : ac), mlook (p1, y.text) a = some θ → fS m η v a e z r d b g c f p1 y ζ θ.simple θ.lists true r0 ι α δ t β ε γ n s o q))) : cx η v a e z r d b g c f p1 p2 r0 ι α δ t β ε γ n s o q := by
 refine al 79 [2, 1, 0] Tryz.func57 rfl rfl rfl (aA rfl) fun K hK => ?_
 refine gR 3 rfl <| gFP 5 rfl rfl rfl rfl <| gR 6 rfl ?_
 obtain ⟨y, ζ, hs9, h⟩ := h
 refine gC0 hs9 (by kernel_rfl) rfl rfl .rfl rfl <| gR 16 rfl <| qBh 23 rfl rfl rfl h ec cP (fun h => ?_) fun h => ?_
 refine gR 12 rfl ?_
 obtain ⟨rfl, rfl, rfl, rfl, rfl, rfl, rfl, rfl, rfl, rfl, rfl, rfl⟩ := h
 refine go_sub (F' := (mkF 79 0 [(6, .ptr 5 0)])) (H' := ⟨6, [(5, .var 61 (ac.c (ac.mk y.kind ζ))), (4, .row 42 3 (List.map ae.w d)), (3, .row 3 1 (List.map (V.int .i64) r)), (2, .mp 84 81 (List.map (fun p => (fun x => V.agg [(V.int .i64 x.1), (V.int .i64 x.2)]) p.1) e) (List.map (fun p => aa.w p.2) e)), (1, .mp 137 61 (List.map (fun p => (fun x => V.agg [(V.int .i64 x.1), (V.str x.2)]) p.1) a) (List.map (fun p => ac.w p.2) a)), (0, vA η (.row 5 (List.map GTarget.w v)) z b g c f)]⟩) [0, 1, 2, 3, 4, 6] [2, 1, 0] rfl hK pq1 ⟨pqo rfl rfl, ⟨_, rfl, rfl, rfl, (vH _ d).symm⟩, ⟨_, rfl, rfl, rfl, (vF _ r).symm⟩, ⟨_, rfl, rfl, rfl, rfl, rfl⟩, ⟨_, rfl, rfl, rfl, rfl, rfl⟩, (pqo1 rfl rfl)⟩ rfl ?_
 exact go_endD [5] ah (rs := [.cell 6 61]) rfl rfl ⟨rfl, rfl⟩
 refine gR 14 rfl <| gDs [0, 8] 10 12 rfl (by kernel_rfl) (by kernel_rfl) <| gDr [(0, 2), (1, 2), (2, 2), (3, 3), (4, 3)] (by kernel_rfl) rfl rfl ?_
 rcases hq10 : mlook (p1, y.text) a with _ | θ
 replace h := h.1 hq10
 apply dd (i := 5) (j := 9) (by kernel_rfl) rfl rfl rfl rfl
 exact (kY (.nop) (pF fw (encV := ac.w) (k := (p1, y.text)) (l := a) (zv := .agg [.int .i64 0, .int .i64 0]) hq10 Tryz.underlying58 Tryz.zeroValue61 (by kernel_rfl) rfl rfl rfl rfl) trivial (by kernel_rfl))
 exact (ce ah rfl rfl)
 exact gDr [(6, 2), (7, 2), (8, 2), (9, 0), (10, 1), (11, 1)] (by kernel_rfl) rfl rfl <| gDe (by kernel_rfl) <| gJ (h K hK) [0, 1, 2, 6, 7, 8, 9, 3, 4] [2, 1, 0] rfl hK pq8 ⟨⟨_, rfl, rfl, rfl, (vH _ d).symm⟩, ⟨_, rfl, rfl, rfl, (vF _ r).symm⟩, pqo rfl rfl, pqo rfl rfl, pqo rfl rfl, pqo rfl rfl, ⟨_, rfl, rfl, rfl, rfl, rfl⟩, ⟨_, rfl, rfl, rfl, rfl, rfl⟩, (pqo1 rfl rfl)⟩ rfl
 refine eE 5 (.nop) rfl (by kernel_rfl) (pF fw (encV := ac.w) (k := (p1, y.text)) (l := a) (zv := .agg [.int .i64 0, .int .i64 0]) hq10 Tryz.underlying58 Tryz.zeroValue61 (by kernel_rfl) rfl rfl rfl rfl) trivial rfl (by kernel_rfl) rfl rfl ?_
 exact gDr [(6, 0), (7, 2), (8, 2), (10, 1), (11, 1)] (by kernel_rfl) rfl rfl <| gDe (by kernel_rfl) <| gJ (h K hK) [0, 1, 2, 6, 7, 8, 9, 3, 4] [2, 1, 0] rfl hK pq8 ⟨⟨_, rfl, rfl, rfl, (vH _ d).symm⟩, ⟨_, rfl, rfl, rfl, (vF _ r).symm⟩, pqo rfl rfl, pqo rfl rfl, pqo rfl rfl, pqo rfl rfl, ⟨_, rfl, rfl, rfl, rfl, rfl⟩, ⟨_, rfl, rfl, rfl, rfl, rfl⟩, (pqo1 rfl rfl)⟩ rfl
 replace h := h.2 θ hq10
 apply dd (i := 5) (j := 9) (by kernel_rfl) rfl rfl rfl rfl
 exact (kY (.nop) (pQ fw (encV := ac.w) (k := (p1, y.text)) (l := a) (zv := .agg [.int .i64 0, .int .i64 0]) hq10 Tryz.underlying58 Tryz.zeroValue61 (by kernel_rfl) rfl rfl rfl rfl) trivial (by kernel_rfl))
 exact (ce ah rfl rfl)
 exact gDr [(6, 2), (7, 2), (8, 2), (9, 0), (10, 1), (11, 1)] (by kernel_rfl) rfl rfl <| gDe (by kernel_rfl) <| gJ (h K hK) [0, 1, 2, 6, 7, 8, 9, 3, 4] [2, 1, 0] rfl hK pq8 ⟨⟨_, rfl, rfl, rfl, (vH _ d).symm⟩, ⟨_, rfl, rfl, rfl, (vF _ r).symm⟩, pqo rfl rfl, pqo rfl rfl, pqo rfl rfl, pqo rfl rfl, ⟨_, rfl, rfl, rfl, rfl, rfl⟩, ⟨_, rfl, rfl, rfl, rfl, rfl⟩, (pqo1 rfl rfl)⟩ rfl
 refine eE 5 (.nop) rfl (by kernel_rfl) (pQ fw (encV := ac.w) (k := (p1, y.text)) (l := a) (zv := .agg [.int .i64 0, .int .i64 0]) hq10 Tryz.underlying58 Tryz.zeroValue61 (by kernel_rfl) rfl rfl rfl rfl) trivial rfl (by kernel_rfl) rfl rfl ?_
 exact gDr [(6, 0), (7, 2), (8, 2), (10, 1), (11, 1)] (by kernel_rfl) rfl rfl <| gDe (by kernel_rfl) <| gJ (h K hK) [0, 1, 2, 6, 7, 8, 9, 3, 4] [2, 1, 0] rfl hK pq8 ⟨⟨_, rfl, rfl, rfl, (vH _ d).symm⟩, ⟨_, rfl, rfl, rfl, (vF _ r).symm⟩, pqo rfl rfl, pqo rfl rfl, pqo rfl rfl, pqo rfl rfl, ⟨_, rfl, rfl, rfl, rfl, rfl⟩, ⟨_, rfl, rfl, rfl, rfl, rfl⟩, (pqo1 rfl rfl)⟩ rfl
def cM (m : Nat) (p1 : Int) (p2 : Tree) (n : Nat) (o : (List ((Int × Int) × aa))) (q : (List ((Int × (List UInt8)) × ac))) (y : List Tree) (z : List GTarget) (α : Int) (β : List Int) (γ : List ae) (δ : Int) (ε : List Int) (r s : Int) (t : List ac) (v : Nat) (r0 : aa) (ζ : List Tree) (i : List GTarget) (g : (List ((Int × (List UInt8)) × ac))) (a : (List ((Int × Int) × aa))) (j : Int) (l : List Int) (k : List ae) (b : Int) (f : List Int) (d e : Int) : Prop := ∀ (K : Ctx) (j1 : Nat), aG K [2, 1, 0] → m ≤ j1 → qLG K Tryz.f32 (fun u G => u = .agg (aa.c r0) ∧ G = ⟨6, [(4, .row 42 3 (List.map ae.w k)), (3, .row 3 1 (List.map (V.int .i64) l)), (2, .mp 84 81 (List.map (fun p => (fun x => V.agg [(V.int .i64 x.1), (V.int .i64 x.2)]) p.1) a) (List.map (fun p => aa.w p.2) a)), (1, .mp 137 61 (List.map (fun p => (fun x => V.agg [(V.int .i64 x.1), (V.str x.2)]) p.1) g) (List.map (fun p => ac.w p.2) g)), (0, vA ζ (.row 5 (List.map GTarget.w i)) j b f d e)]⟩) (xE (cB (ai Tryz.f32))) [.loop (xE (cB (ai Tryz.f32))) j1, .blk 0, .seq (xG (ai Tryz.f32))] 47 (mkF 47 0 [(0, .ptr 0 0), (1, .int .i64 p1), (5, .box (ao p2) 0), (6, .ptr 3 0), (7, .ptr 4 0), (8, .int .i64 ((p2.kids.length : Int) - 2)), (18, .row 4 (kidsV (p2.kids.take n))), (19, .int .i64 (((p2.kids.take n).length : Nat) : Int)), (20, .int .i64 (v : Int))]) ⟨8, [(7, .row 61 2 (List.map ac.w t)), (6, .row 42 3 (List.map ae.w γ)), (5, .row 3 1 (List.map (V.int .i64) β)), (4, .var 81 [.sl 7, .int .i64 0, .int .i64 0]), (3, .var 81 [.nils, .int .i64 0, .int .i64 0]), (2, .mp 84 81 (List.map (fun p => (fun x => V.agg [(V.int .i64 x.1), (V.int .i64 x.2)]) p.1) o) (List.map (fun p => aa.w p.2) o)), (1, .mp 137 61 (List.map (fun p => (fun x => V.agg [(V.int .i64 x.1), (V.str x.2)]) p.1) q) (List.map (fun p => ac.w p.2) q)), (0, .var 63 [.row 4 (kidsV y), .row 5 (List.map GTarget.w z), .sl 1, .sl 2, .int .i64 α, .sl 5, .sl 6, .int .i64 δ, .row 1 (List.map (V.int .i64) ε), .int .i64 r, .int .i64 s])]⟩
theorem ll (m : Nat) (z : List Tree) (n : List GTarget) (t : (List ((Int × (List UInt8)) × ac))) (j : (List ((Int × Int) × aa))) (p : Int) (q : List Int) (l : List ae) (a : Int) (g : List Int) (b e p1 : Int) (p2 : Tree) (r0 : aa) (α : List Tree) (o : List GTarget) (v : (List ((Int × (List UInt8)) × ac))) (k : (List ((Int × Int) × aa))) (r : Int) (y : List Int) (s : List ae) (c : Int) (i : List Int) (d f : Int) (h : ∃ x, ((p2.kids.length : Int) - 2) = ((x : Nat) : Int) ∧ x ≤ p2.kids.length ∧ cM m p1 p2 x j t z n p q l a g b e ([] : List ac) 0 r0 α o v k r y s c i d f) : ew z n t j p q l a g b e p1 p2 r0 α o v k r y s c i d f := by
 refine al 47 [2, 1, 0] Tryz.func32 rfl rfl rfl (aA rfl) fun K hK => ?_
 refine gR 3 rfl <| gFP 5 rfl rfl rfl rfl <| gR 13 rfl <| gV 13 (.int .i64 (p2.kids.length : Int)) rfl (aM (aK _)) rfl <| gLB 12 rfl (aK _) fun hl9 => gR 1 rfl <| gV 14 (.int .i64 ((p2.kids.length : Int) - 2)) rfl (au (by have := hl9; omega) rfl) rfl <| gR 9 rfl ?_
 obtain ⟨x, β, h⟩ := h
 refine gV 17 (.int .i64 ((x : Nat) : Int)) rfl (cy β) rfl ?_
 obtain ⟨hb', h⟩ := h
 exact gY (xU (aK p2.kids) ah rfl rfl rb (sS rfl) (Nat.zero_le _) hb' (((As _ _ _).trans (congrArg _ (nU _ _))))) rfl rfl <| gR 1 rfl <| gV 19 (.int .i64 (((p2.kids.take x).length : Nat) : Int)) rfl (aM (aK _)) rfl <| gLB 18 rfl (aK _) fun hl10 => gR 4 rfl <| go_loop m <| gNC 7 0 61 2 rfl rfl rfl rfl <| gJ (h K _ hK (by omega)) [0, 1, 2, 6, 7, 3, 4, 8] [2, 1, 0] rfl hK pq9 ⟨⟨_, rfl, rfl, rfl, rfl⟩, ⟨_, rfl, rfl, rfl, (vH _ l).symm⟩, ⟨_, rfl, rfl, rfl, (vF _ q).symm⟩, pqo rfl rfl, pqo rfl rfl, ⟨_, rfl, rfl, rfl, rfl, rfl⟩, ⟨_, rfl, rfl, rfl, rfl, rfl⟩, (pqo1 rfl rfl)⟩ rfl
theorem gg (m : Nat) (p1 : Int) (p2 : Tree) (ο : Nat) (l1v1 : (List ((Int × Int) × aa))) (l1v2 : (List ((Int × (List UInt8)) × ac))) (l1v3 : List Tree) (l1v4 : List GTarget) (z1v5 : Int) (π : List Int) (τ : List ae) (z1v8 : Int) (l1v9 : List Int) (χ ψ : Int) (d : List ac) (l : Nat) (r0 : aa) (q0_p : List Tree) (g : List GTarget) (t : (List ((Int × (List UInt8)) × ac))) (f : (List ((Int × Int) × aa))) (n : Int) (y : List Int) (o : List ae) (a : Int) (e : List Int) (b c : Int) (h : ((l < ((p2.kids.take ο).length)) → ∃ t1_1, (p2.kids.take ο)[l]? = some t1_1 ∧ ∃ t1_2, t1_1.kids[0]? = some t1_2 ∧ ∃ z r1_4 r1_5, ∃ (υ : (List ((Int × (List UInt8)) × ac))), ∃ (φ : (List ((Int × Int) × aa))), ∃ n1_8 α q ι κ μ ν, cx l1v3 l1v4 l1v2 l1v1 z1v5 π τ z1v8 l1v9 χ ψ p1 t1_2 z r1_4 r1_5 υ φ n1_8 α q ι κ μ ν ∧ (d ++ [z]).length ≤ 1000000000 ∧ l + 1 ≤ 9223372036854775807 ∧ cM m p1 p2 ο φ υ r1_4 r1_5 n1_8 α q ι κ μ ν (d ++ [z]) (l + 1) r0 q0_p g t f n y o a e b c) ∧ ((¬ l < ((p2.kids.take ο).length)) → ∃ ξ, ((p2.kids.length : Int) - 2) = ((ξ : Nat) : Int) ∧ ∃ ω, p2.kids[ξ]? = some ω ∧ ∃ v β γ, ∃ (r : (List ((Int × (List UInt8)) × ac))), ∃ (s : (List ((Int × Int) × aa))), ∃ δ i k ε ζ η θ, cx l1v3 l1v4 l1v2 l1v1 z1v5 π τ z1v8 l1v9 χ ψ p1 ω v β γ r s δ i k ε ζ η θ ∧ (aa.mk d v) = r0 ∧ β = q0_p ∧ γ = g ∧ r = t ∧ s = f ∧ δ = n ∧ i = y ∧ k = o ∧ ε = a ∧ ζ = e ∧ η = b ∧ θ = c)) : cM (m + 1) p1 p2 ο l1v1 l1v2 l1v3 l1v4 z1v5 π τ z1v8 l1v9 χ ψ d l r0 q0_p g t f n y o a e b c := by
 intro K j1 hK hj1
 obtain ⟨j1, rfl⟩ : ∃ j, j1 = j + 1 := ⟨j1 - 1, by omega⟩
 refine gR 6 rfl <| gB 21 rfl rfl rfl ?_ ?_ <;> intro hd
 replace hd := (dO hd)
 replace h := h.1 hd
 refine gR 7 rfl ?_
 obtain ⟨t1_1, hxt1_1, h⟩ := h
 refine gY (bx (aL hxt1_1) ah rfl rfl rfl rfl) rfl rfl <| gR 5 rfl <| gDs [4, 8] 12 13 rfl (by kernel_rfl) (by kernel_rfl) <| gDr [(0, 2), (1, 3), (2, 2), (3, 2), (4, 0), (5, 0)] (by kernel_rfl) rfl rfl ?_
 obtain ⟨t1_2, hxt1_2, h⟩ := h
 refine nh 6 rfl (by kernel_rfl) (bx (aL hxt1_2) ah rfl rfl rfl rfl) rfl rfl ?_
 refine gDr [(7, 0)] (by kernel_rfl) rfl rfl ?_
 obtain ⟨z, r1_4, r1_5, υ, φ, n1_8, α, q, ι, κ, μ, ν, hs11, h⟩ := h
 refine gDCZ 8 hs11 [0, 1, 2, 5, 6] rfl ⟨⟨_, rfl, ⟨rfl, rfl, (vH _ τ).symm⟩⟩, ⟨⟨_, rfl, ⟨rfl, rfl, (vF _ π).symm⟩⟩, ⟨⟨_, rfl, ⟨rfl, rfl, rfl, rfl⟩⟩, ⟨⟨_, rfl, ⟨rfl, rfl, rfl, rfl⟩⟩, ⟨⟨_, rfl, ⟨rfl, an.rfl⟩⟩, trivial⟩⟩⟩⟩⟩ ?_
 refine gHR 12 (List.map (V.int .i64) α) rfl (vF _ α) rfl <| gHR 13 (List.map ae.w q) rfl (vH _ q) rfl <| gHn ⟨15, [(13, .row 42 3 (List.map ae.w q)), (12, .row 3 1 (List.map (V.int .i64) α)), (8, .var 29 (ao t1_1)), (7, .row 61 2 (List.map ac.w d)), (4, .var 81 [.sl 7, .int .i64 0, .int .i64 0]), (3, .var 81 [.nils, .int .i64 0, .int .i64 0]), (2, .mp 84 81 (List.map (fun p => (fun x => V.agg [(V.int .i64 x.1), (V.int .i64 x.2)]) p.1) φ) (List.map (fun p => aa.w p.2) φ)), (1, .mp 137 61 (List.map (fun p => (fun x => V.agg [(V.int .i64 x.1), (V.str x.2)]) p.1) υ) (List.map (fun p => ac.w p.2) υ)), (0, .var 63 [.row 4 (kidsV r1_4), .row 5 (List.map GTarget.w r1_5), .sl 1, .sl 2, .int .i64 n1_8, .sl 12, .sl 13, .int .i64 ι, .row 1 (List.map (V.int .i64) κ), .int .i64 μ, .int .i64 ν])]⟩ rfl ⟨rfl, rfl, rfl, rfl, rfl, rfl, rfl, rfl, rfl, trivial⟩ ?_
 refine gDr [(9, 0)] (by kernel_rfl) rfl rfl ?_
 obtain ⟨hb, h⟩ := h
 refine eE 10 (.repl 7 (.row 61 2 (List.map ac.w (d ++ [z])))) rfl (by kernel_rfl) (nb ah rfl rfl rfl rfl rfl (apM ac.w d z) (by rw [aF]; exact hb)) (okR rfl) rfl (by kernel_rfl) rfl rfl ?_
 refine gDr [(11, 0), (12, 1)] (by kernel_rfl) rfl rfl <| gDe (by kernel_rfl) <| gR 3 rfl ?_
 obtain ⟨hb, h⟩ := h
 exact gR 1 rfl <| gV 36 (.int .i64 ((l + 1 : Nat) : Int)) rfl (au (by omega) (by omega)) rfl <| gR 2 rfl <| go_xloop <| gJ (h K _ hK (by omega)) [0, 1, 2, 3, 4, 12, 13, 16] [2, 1, 0] rfl hK pq9 ⟨⟨_, rfl, rfl, rfl, (si _ ac.w (fun _ => rfl) (d ++ [z])).symm⟩, ⟨_, rfl, rfl, rfl, (vH _ q).symm⟩, ⟨_, rfl, rfl, rfl, (vF _ α).symm⟩, pqo rfl rfl, pqo rfl rfl, ⟨_, rfl, rfl, rfl, rfl, rfl⟩, ⟨_, rfl, rfl, rfl, rfl, rfl⟩, (pqo1 rfl rfl)⟩ rfl
 replace hd := (dQ hd)
 replace h := h.2 hd
 refine gR 3 rfl <| go_xloopE <| gR 9 rfl ?_
 obtain ⟨ξ, ek1_15, h⟩ := h
 refine gV 41 (.int .i64 ((ξ : Nat) : Int)) rfl (cy ek1_15) rfl ?_
 obtain ⟨ω, hxt1_16, h⟩ := h
 refine gY (bx (aL hxt1_16) ah rfl rfl rfl rfl) rfl rfl <| gR 1 rfl ?_
 obtain ⟨v, β, γ, r, s, δ, i, k, ε, ζ, η, θ, hs12, h⟩ := h
 refine gCZ hs12 [0, 1, 2, 5, 6] ⟨⟨_, rfl, ⟨rfl, rfl, (vH _ τ).symm⟩⟩, ⟨⟨_, rfl, ⟨rfl, rfl, (vF _ π).symm⟩⟩, ⟨⟨_, rfl, ⟨rfl, rfl, rfl, rfl⟩⟩, ⟨⟨_, rfl, ⟨rfl, rfl, rfl, rfl⟩⟩, ⟨⟨_, rfl, ⟨rfl, an.rfl⟩⟩, trivial⟩⟩⟩⟩⟩ ?_
 refine gHR 11 (List.map (V.int .i64) i) rfl (vF _ i) rfl <| gHR 12 (List.map ae.w k) rfl (vH _ k) rfl <| gHn ⟨14, [(12, .row 42 3 (List.map ae.w k)), (11, .row 3 1 (List.map (V.int .i64) i)), (7, .row 61 2 (List.map ac.w d)), (4, .var 81 [.sl 7, .int .i64 0, .int .i64 0]), (3, .var 81 [.nils, .int .i64 0, .int .i64 0]), (2, .mp 84 81 (List.map (fun p => (fun x => V.agg [(V.int .i64 x.1), (V.int .i64 x.2)]) p.1) s) (List.map (fun p => aa.w p.2) s)), (1, .mp 137 61 (List.map (fun p => (fun x => V.agg [(V.int .i64 x.1), (V.str x.2)]) p.1) r) (List.map (fun p => ac.w p.2) r)), (0, .var 63 [.row 4 (kidsV β), .row 5 (List.map GTarget.w γ), .sl 1, .sl 2, .int .i64 δ, .sl 11, .sl 12, .int .i64 ε, .row 1 (List.map (V.int .i64) ζ), .int .i64 η, .int .i64 θ])]⟩ rfl ⟨rfl, rfl, rfl, rfl, rfl, rfl, rfl, rfl, trivial⟩ ?_
 refine gR 11 rfl <| gFR 7 rfl (me _ (fun _ => rfl) _) rfl rfl ?_
 obtain ⟨rfl, rfl, rfl, rfl, rfl, rfl, rfl, rfl, rfl, rfl, rfl, rfl⟩ := h
 refine go_sub (F' := (mkF 47 0 [(6, .ptr 5 0)])) (H' := ⟨6, [(5, .var 81 [.row 2 (List.map ac.w ((aa.mk d v).params)), .int .i64 (((aa.mk d v).result).simple), .int .i64 (((aa.mk d v).result).lists)]), (4, .row 42 3 (List.map ae.w k)), (3, .row 3 1 (List.map (V.int .i64) i)), (2, .mp 84 81 (List.map (fun p => (fun x => V.agg [(V.int .i64 x.1), (V.int .i64 x.2)]) p.1) s) (List.map (fun p => aa.w p.2) s)), (1, .mp 137 61 (List.map (fun p => (fun x => V.agg [(V.int .i64 x.1), (V.str x.2)]) p.1) r) (List.map (fun p => ac.w p.2) r)), (0, vA β (.row 5 (List.map GTarget.w γ)) δ ε ζ η θ)]⟩) [0, 1, 2, 11, 12, 3] [2, 1, 0] rfl hK pq1 ⟨pqo rfl rfl, ⟨_, rfl, rfl, rfl, (vH _ k).symm⟩, ⟨_, rfl, rfl, rfl, (vF _ i).symm⟩, ⟨_, rfl, rfl, rfl, rfl, rfl⟩, ⟨_, rfl, rfl, rfl, rfl, rfl⟩, (pqo1 rfl rfl)⟩ rfl ?_
 exact go_endD [5] ah (rs := [.cell 6 81]) rfl rfl ⟨rfl, rfl⟩
def cg (m : Nat) (p0 : List Tree) (s : Nat) (t : List Tree) (v : List GTarget) (l : (List ((Int × (List UInt8)) × ac))) (n : (List ((Int × Int) × aa))) (y : Int) (z : List Int) (α : List ae) (β : Int) (o : List Int) (q r : Int) (γ : List Tree) (g : List GTarget) (f : (List ((Int × (List UInt8)) × ac))) (a : (List ((Int × Int) × aa))) (i : Int) (k : List Int) (j : List ae) (b : Int) (e : List Int) (c d : Int) : Prop := ∀ (K : Ctx) (j1 : Nat), aG K [] → m ≤ j1 → qLG K Tryz.f19 (fun u G => u = .ptr 0 0 ∧ G = ⟨5, [(4, .row 42 3 (List.map ae.w j)), (3, .row 3 1 (List.map (V.int .i64) k)), (2, .mp 84 81 (List.map (fun p => (fun x => V.agg [(V.int .i64 x.1), (V.int .i64 x.2)]) p.1) a) (List.map (fun p => aa.w p.2) a)), (1, .mp 137 61 (List.map (fun p => (fun x => V.agg [(V.int .i64 x.1), (V.str x.2)]) p.1) f) (List.map (fun p => ac.w p.2) f)), (0, vA γ (.row 5 (List.map GTarget.w g)) i b e c d)]⟩) (xE (ai Tryz.f19)) [.loop (xE (ai Tryz.f19)) j1, .blk 0, .seq (xF (ai Tryz.f19))] 47 (mkF 47 0 [(3, .ptr 0 0), (15, .row 4 (kidsV p0)), (16, .int .i64 (p0.length : Int)), (17, .int .i64 (s : Int))]) ⟨5, [(4, .row 42 3 (List.map ae.w α)), (3, .row 3 1 (List.map (V.int .i64) z)), (2, .mp 84 81 (List.map (fun p => (fun x => V.agg [(V.int .i64 x.1), (V.int .i64 x.2)]) p.1) n) (List.map (fun p => aa.w p.2) n)), (1, .mp 137 61 (List.map (fun p => (fun x => V.agg [(V.int .i64 x.1), (V.str x.2)]) p.1) l) (List.map (fun p => ac.w p.2) l)), (0, vA t (.row 5 (List.map GTarget.w v)) y β o q r)]⟩
def cj (m : Nat) (p0 : List Tree) (l : Tree) (y : Nat) (z : List Tree) (α : List GTarget) (n : (List ((Int × (List UInt8)) × ac))) (o : (List ((Int × Int) × aa))) (β : Int) (γ : List Int) (δ : List ae) (ε : Int) (q : List Int) (r s : Int) (t v : Nat) (ζ : List Tree) (g : List GTarget) (f : (List ((Int × (List UInt8)) × ac))) (a : (List ((Int × Int) × aa))) (i : Int) (k : List Int) (j : List ae) (b : Int) (e : List Int) (c d : Int) : Prop := ∀ (K : Ctx) (j1 j2 : Nat), aG K [] → m ≤ j1 → m ≤ j2 → qLG K Tryz.f19 (fun u G => u = .ptr 0 0 ∧ G = ⟨5, [(4, .row 42 3 (List.map ae.w j)), (3, .row 3 1 (List.map (V.int .i64) k)), (2, .mp 84 81 (List.map (fun p => (fun x => V.agg [(V.int .i64 x.1), (V.int .i64 x.2)]) p.1) a) (List.map (fun p => aa.w p.2) a)), (1, .mp 137 61 (List.map (fun p => (fun x => V.agg [(V.int .i64 x.1), (V.str x.2)]) p.1) f) (List.map (fun p => ac.w p.2) f)), (0, vA ζ (.row 5 (List.map GTarget.w g)) i b e c d)]⟩) (xB (xA (cK (xD (xE (ai Tryz.f19)))))) [.loop (xB (xA (cK (xD (xE (ai Tryz.f19)))))) j1, .blk 2, .blk 1, .seq (xF (xE (ai Tryz.f19))), .loop (xE (ai Tryz.f19)) j2, .blk 0, .seq (xF (ai Tryz.f19))] 47 (mkF 47 0 [(3, .ptr 0 0), (4, .int .i64 (t : Int)), (15, .row 4 (kidsV p0)), (16, .int .i64 (p0.length : Int)), (17, .int .i64 (v : Int)), (23, .row 4 (kidsV l.kids)), (24, .int .i64 (l.kids.length : Int)), (25, .int .i64 (y : Int))]) ⟨5, [(4, .row 42 3 (List.map ae.w δ)), (3, .row 3 1 (List.map (V.int .i64) γ)), (2, .mp 84 81 (List.map (fun p => (fun x => V.agg [(V.int .i64 x.1), (V.int .i64 x.2)]) p.1) o) (List.map (fun p => aa.w p.2) o)), (1, .mp 137 61 (List.map (fun p => (fun x => V.agg [(V.int .i64 x.1), (V.str x.2)]) p.1) n) (List.map (fun p => ac.w p.2) n)), (0, vA z (.row 5 (List.map GTarget.w α)) β ε q r s)]⟩
def ip (m : Nat) (p0 : List Tree) (l : Tree) (v : List Tree) (y : List GTarget) (n : (List ((Int × (List UInt8)) × ac))) (z : Int) (α : List Int) (β : List ae) (q : Int) (r : List Int) (s t : Int) (o : (List ((Int × Int) × aa))) (γ δ ε : Nat) (ζ : List Tree) (g : List GTarget) (f : (List ((Int × (List UInt8)) × ac))) (a : (List ((Int × Int) × aa))) (i : Int) (k : List Int) (j : List ae) (b : Int) (e : List Int) (c d : Int) : Prop := ∀ (K : Ctx) (j1 j2 : Nat), aG K [] → m ≤ j1 → m ≤ j2 → Go Tryz.prog K (bodyPost Tryz.prog Tryz.f19 (SP K (fun u G => u = .ptr 0 0 ∧ G = ⟨5, [(4, .row 42 3 (List.map ae.w j)), (3, .row 3 1 (List.map (V.int .i64) k)), (2, .mp 84 81 (List.map (fun p => (fun x => V.agg [(V.int .i64 x.1), (V.int .i64 x.2)]) p.1) a) (List.map (fun p => aa.w p.2) a)), (1, .mp 137 61 (List.map (fun p => (fun x => V.agg [(V.int .i64 x.1), (V.str x.2)]) p.1) f) (List.map (fun p => ac.w p.2) f)), (0, vA ζ (.row 5 (List.map GTarget.w g)) i b e c d)]⟩))) (.ex .normal) [.blk 3, .seq (xF (xB (xA (cK (xD (xE (ai Tryz.f19))))))), .loop (xB (xA (cK (xD (xE (ai Tryz.f19)))))) j1, .blk 2, .blk 1, .seq (xF (xE (ai Tryz.f19))), .loop (xE (ai Tryz.f19)) j2, .blk 0, .seq (xF (ai Tryz.f19))] 47 (mkF 47 0 [(3, .ptr 0 0), (4, .int .i64 ((γ : Nat) : Int)), (15, .row 4 (kidsV p0)), (16, .int .i64 (p0.length : Int)), (17, .int .i64 ((δ : Nat) : Int)), (23, .row 4 (kidsV l.kids)), (24, .int .i64 (l.kids.length : Int)), (25, .int .i64 ((ε : Nat) : Int))]) ⟨5, [(4, .row 42 3 (List.map ae.w β)), (3, .row 3 1 (List.map (V.int .i64) α)), (2, .mp 84 81 (List.map (fun p => (fun x => V.agg [(V.int .i64 x.1), (V.int .i64 x.2)]) p.1) o) (List.map (fun p => aa.w p.2) o)), (1, .mp 137 61 (List.map (fun p => (fun x => V.agg [(V.int .i64 x.1), (V.str x.2)]) p.1) n) (List.map (fun p => ac.w p.2) n)), (0, vA v (.row 5 (List.map GTarget.w y)) z q r s t)]⟩
theorem lZ (m : Nat) (p0 n : List Tree) (f : List GTarget) (j : (List ((Int × (List UInt8)) × ac))) (e : (List ((Int × Int) × aa))) (g : Int) (k : List Int) (i : List ae) (a : Int) (d : List Int) (b c : Int) (h : ∃ l, iY p0 l ∧ cg m p0 0 p0 l ([] : (List ((Int × (List UInt8)) × ac))) ([] : (List ((Int × Int) × aa))) 0 ([] : List Int) ([] : List ae) 0 [] 0 0 n f j e g k i a d b c) : dK p0 n f j e g k i a d b c := by
 refine al 47 [] Tryz.func19 rfl rfl rfl (aA rfl) fun K hK => ?_
 refine gR 9 rfl ?_
 obtain ⟨l, hs16, h⟩ := h
 refine gC0 hs16 (by kernel_rfl) rfl rfl .rfl rfl <| gDo (.new (.mp 137 61 [] [])) (dMM 137 61) trivial rfl rfl rfl <| gHM 0 (List.map (fun p => (fun x => V.agg [(V.int .i64 x.1), (V.str x.2)]) p.1) ([] : (List ((Int × (List UInt8)) × ac)))) (List.map (fun p => ac.w p.2) ([] : (List ((Int × (List UInt8)) × ac)))) rfl rfl rfl rfl <| gDo (.new (.mp 84 81 [] [])) (dMM 84 81) trivial rfl rfl rfl <| gHM 1 (List.map (fun p => (fun x => V.agg [(V.int .i64 x.1), (V.int .i64 x.2)]) p.1) ([] : (List ((Int × Int) × aa)))) (List.map (fun p => aa.w p.2) ([] : (List ((Int × Int) × aa)))) rfl rfl rfl rfl <| gR 10 rfl <| gV 16 (.int .i64 (p0.length : Int)) rfl (aM (aK _)) rfl ?_
 exact gLB 15 rfl (aK _) fun hl17 => gR 4 rfl <| go_loop m <| gNC 2 5 3 1 rfl rfl rfl rfl <| gNC 2 6 42 3 rfl rfl rfl rfl <| gJ (h K _ hK (by omega)) [2, 0, 1, 3, 4] [] rfl hK pq4 ⟨⟨_, rfl, rfl, rfl, rfl⟩, ⟨_, rfl, rfl, rfl, rfl⟩, ⟨_, rfl, rfl, rfl, rfl, rfl⟩, ⟨_, rfl, rfl, rfl, rfl, rfl⟩, ⟨_, rfl, rfl, (.cons .rfl (.cons .rfl (.cons .rfl (.cons .rfl (.cons .rfl (.cons .rfl (.cons .rfl (.cons .rfl (.cons (.nil 1) (.cons .rfl (.cons .rfl .nil)))))))))))⟩, trivial⟩ rfl
theorem hJ (m : Nat) (p0 : List Tree) (n : Nat) (z : List Tree) (α : List GTarget) (v : (List ((Int × (List UInt8)) × ac))) (y : (List ((Int × Int) × aa))) (β : Int) (o : List Int) (q : List ae) (γ : Int) (r : List Int) (s t : Int) (ε : List Tree) (f : List GTarget) (k : (List ((Int × (List UInt8)) × ac))) (e : (List ((Int × Int) × aa))) (g : Int) (l : List Int) (i : List ae) (a : Int) (d : List Int) (b c : Int) (h : ((n < p0.length) → ∃ δ, p0[n]? = some δ ∧ cj m p0 δ 0 z α v y β o q γ r s t n n ε f k e g l i a d b c) ∧ ((¬ n < p0.length) → z = ε ∧ α = f ∧ v = k ∧ y = e ∧ β = g ∧ o = l ∧ q = i ∧ γ = a ∧ r = d ∧ s = b ∧ t = c)) : cg (m + 1) p0 n z α v y β o q γ r s t ε f k e g l i a d b c := by
 intro K j1 hK hj1
 obtain ⟨j1, rfl⟩ : ∃ j, j1 = j + 1 := ⟨j1 - 1, by omega⟩
 refine gR 6 rfl <| gB 18 rfl rfl rfl ?_ ?_ <;> intro hd
 replace hd := (dO hd)
 replace h := h.1 hd
 refine gR 8 rfl ?_
 obtain ⟨δ, hxt1_1, h⟩ := h
 exact gY (bx (aL hxt1_1) ah rfl rfl rfl rfl) rfl rfl <| gR 11 rfl <| gV 24 (.int .i64 ((δ.kids.length : Nat) : Int)) rfl (aM (aK _)) rfl <| gLB 23 rfl (aK _) fun hl18 => gR 4 rfl <| go_loop m <| gJ (h K _ _ hK (by omega) (by omega)) [0, 1, 2, 3, 4] [] rfl hK pq8 ⟨⟨_, rfl, rfl, rfl, (vH _ q).symm⟩, ⟨_, rfl, rfl, rfl, (vF _ o).symm⟩, ⟨_, rfl, rfl, rfl, rfl, rfl⟩, ⟨_, rfl, rfl, rfl, rfl, rfl⟩, (pqo1 rfl rfl)⟩ rfl
 replace hd := (dQ hd)
 replace h := h.2 hd
 refine gR 3 rfl <| go_xloopE <| gR 9 rfl ?_
 obtain ⟨rfl, rfl, rfl, rfl, rfl, rfl, rfl, rfl, rfl, rfl, rfl⟩ := h
 refine go_sub (F' := (mkF 47 0 [(2, .ptr 0 0)])) (H' := ⟨5, [(4, .row 42 3 (List.map ae.w q)), (3, .row 3 1 (List.map (V.int .i64) o)), (2, .mp 84 81 (List.map (fun p => (fun x => V.agg [(V.int .i64 x.1), (V.int .i64 x.2)]) p.1) y) (List.map (fun p => aa.w p.2) y)), (1, .mp 137 61 (List.map (fun p => (fun x => V.agg [(V.int .i64 x.1), (V.str x.2)]) p.1) v) (List.map (fun p => ac.w p.2) v)), (0, vA z (.row 5 (List.map GTarget.w α)) β γ r s t)]⟩) [0, 1, 2, 3, 4] [] rfl hK pq1 ⟨⟨_, rfl, rfl, rfl, (vH _ q).symm⟩, ⟨_, rfl, rfl, rfl, (vF _ o).symm⟩, ⟨_, rfl, rfl, rfl, rfl, rfl⟩, ⟨_, rfl, rfl, rfl, rfl, rfl⟩, (pqo1 rfl rfl)⟩ rfl ?_
 exact go_endD [] ah (rs := [.tmp 2]) rfl rfl ⟨rfl, rfl⟩
theorem ia (m : Nat) (p0 : List Tree) (υ : Tree) (o : Nat) (ψ : List Tree) (ω : List GTarget) (φ : (List ((Int × (List UInt8)) × ac))) (χ : (List ((Int × Int) × aa))) (z2v6 : Int) (α : List Int) (β : List ae) (z2v9 : Int) (μ : List Int) (ν ξ : Int) (f κ : Nat) (r0_p : List Tree) (s : List GTarget) (z : (List ((Int × (List UInt8)) × ac))) (g : (List ((Int × Int) × aa))) (v : Int) (θ : List Int) (y : List ae) (a : Int) (e : List Int) (b c : Int) (h : ((o < υ.kids.length) → ∃ ι, υ.kids[o]? = some ι ∧ ((ι.kind = 2) → ∃ t ο π, ∃ (γ : (List ((Int × (List UInt8)) × ac))), ∃ (n : (List ((Int × Int) × aa))), ∃ τ q r δ ε ζ η, ew ψ ω φ χ z2v6 α β z2v9 μ ν ξ (f : Int) ι t ο π γ n τ q r δ ε ζ η ∧ ip m p0 υ ο π γ τ q r δ ε ζ η (mput ((f : Int), (o : Int)) t n) f κ o r0_p s z g v θ y a e b c) ∧ ((ι.kind ≠ 2) → o + 1 ≤ 9223372036854775807 ∧ cj m p0 υ (o + 1) ψ ω φ χ z2v6 α β z2v9 μ ν ξ f κ r0_p s z g v θ y a e b c)) ∧ ((¬ o < υ.kids.length) → κ + 1 ≤ 9223372036854775807 ∧ cg m p0 (κ + 1) ψ ω φ χ z2v6 α β z2v9 μ ν ξ r0_p s z g v θ y a e b c)) : cj (m + 1) p0 υ o ψ ω φ χ z2v6 α β z2v9 μ ν ξ f κ r0_p s z g v θ y a e b c := by
 intro K j1 j2 hK hj1 hj2
 obtain ⟨j1, rfl⟩ : ∃ j, j1 = j + 1 := ⟨j1 - 1, by omega⟩
 obtain ⟨j2, rfl⟩ : ∃ j, j2 = j + 1 := ⟨j2 - 1, by omega⟩
 refine gR 6 rfl <| gB 26 rfl rfl rfl ?_ ?_ <;> intro hd
 replace hd := (dO hd)
 replace h := h.1 hd
 refine gR 8 rfl ?_
 obtain ⟨ι, hxt2_1, h⟩ := h
 refine gY (bx (aL hxt2_1) ah rfl rfl rfl rfl) rfl rfl <| gR 13 rfl <| gB 32 rfl rfl rfl ?_ ?_ <;> intro hd
 replace hd := (eq_of_beq hd)
 replace h := h.1 hd
 refine gR 1 rfl <| gDs [] 12 12 rfl (by kernel_rfl) (by kernel_rfl) <| gDr [(0, 2), (1, 2), (2, 2), (4, 2), (5, 2), (6, 2), (7, 2), (8, 2)] (by kernel_rfl) rfl rfl ?_
 apply dd (i := 3) (j := 9) (by kernel_rfl) rfl rfl rfl rfl
 exact (ce ah rfl rfl)
 exact (ce ah rfl rfl)
 refine gDr [(9, 0)] (by kernel_rfl) rfl rfl ?_
 obtain ⟨t, ο, π, γ, n, τ, q, r, δ, ε, ζ, η, hs19, h⟩ := h
 refine gDCZ 10 hs19 [0, 1, 2, 3, 4] rfl ⟨⟨_, rfl, ⟨rfl, rfl, (vH _ β).symm⟩⟩, ⟨⟨_, rfl, ⟨rfl, rfl, (vF _ α).symm⟩⟩, ⟨⟨_, rfl, ⟨rfl, rfl, rfl, rfl⟩⟩, ⟨⟨_, rfl, ⟨rfl, rfl, rfl, rfl⟩⟩, ⟨⟨_, rfl, ⟨rfl, an.rfl⟩⟩, trivial⟩⟩⟩⟩⟩ ?_
 refine gHR 9 (List.map (V.int .i64) q) rfl (vF _ q) rfl <| gHR 10 (List.map ae.w r) rfl (vH _ r) rfl <| gHn ⟨12, [(10, .row 42 3 (List.map ae.w r)), (9, .row 3 1 (List.map (V.int .i64) q)), (5, .var 29 (ao ι)), (2, .mp 84 81 (List.map (fun p => (fun x => V.agg [(V.int .i64 x.1), (V.int .i64 x.2)]) p.1) n) (List.map (fun p => aa.w p.2) n)), (1, .mp 137 61 (List.map (fun p => (fun x => V.agg [(V.int .i64 x.1), (V.str x.2)]) p.1) γ) (List.map (fun p => ac.w p.2) γ)), (0, vE ο (.row 5 (List.map GTarget.w π)) τ δ ε ζ η)]⟩ rfl ⟨rfl, rfl, rfl, rfl, rfl, rfl, trivial⟩ ?_
 refine eE 11 (.set 2 (.mp 84 81 (List.map (fun p => (fun x => V.agg [(V.int .i64 x.1), (V.int .i64 x.2)]) p.1) (mput ((f : Int), (o : Int)) t n)) (List.map (fun p => aa.w p.2) (mput ((f : Int), (o : Int)) t n)))) rfl (by kernel_rfl) (yk bi (encV := aa.w) (k := ((f : Int), (o : Int))) (d := t) (l := n) Tryz.underlying59 rfl rfl rfl rfl rfl rfl rfl rfl) (okM rfl) rfl (by kernel_rfl) rfl rfl ?_
 exact gDe (by kernel_rfl) <| gJ (h K _ _ hK (by omega) (by omega)) [0, 1, 2, 9, 10] [] rfl hK pq8 ⟨⟨_, rfl, rfl, rfl, (vH _ r).symm⟩, ⟨_, rfl, rfl, rfl, (vF _ q).symm⟩, ⟨_, rfl, rfl, rfl, rfl, rfl⟩, ⟨_, rfl, rfl, rfl, rfl, rfl⟩, (pqo1 rfl rfl)⟩ rfl
 obtain ⟨t, ο, π, γ, n, τ, q, r, δ, ε, ζ, η, hs20, h⟩ := h
 apply dd (i := 3) (j := 10) (by kernel_rfl) rfl rfl rfl rfl
 exact (ce ah rfl rfl)
 exact (fT (L' := []) (by kernel_rfl) rfl rfl (kW (H := ⟨6, [(5, .var 29 (ao ι)), (4, .row 42 3 (List.map ae.w β)), (3, .row 3 1 (List.map (V.int .i64) α)), (2, .mp 84 81 (List.map (fun p => (fun x => V.agg [(V.int .i64 x.1), (V.int .i64 x.2)]) p.1) χ) (List.map (fun p => aa.w p.2) χ)), (1, .mp 137 61 (List.map (fun p => (fun x => V.agg [(V.int .i64 x.1), (V.str x.2)]) p.1) φ) (List.map (fun p => ac.w p.2) φ)), (0, vA ψ (.row 5 (List.map GTarget.w ω)) z2v6 z2v9 μ ν ξ)]⟩) hs20 [0, 1, 2, 3, 4] .rfl ⟨⟨_, rfl, ⟨rfl, rfl, (vH _ β).symm⟩⟩, ⟨⟨_, rfl, ⟨rfl, rfl, (vF _ α).symm⟩⟩, ⟨⟨_, rfl, ⟨rfl, rfl, rfl, rfl⟩⟩, ⟨⟨_, rfl, ⟨rfl, rfl, rfl, rfl⟩⟩, ⟨⟨_, rfl, ⟨rfl, an.rfl⟩⟩, trivial⟩⟩⟩⟩⟩ rfl [] rfl) (.inl rfl))
 refine gDCZ 10 hs20 [0, 1, 2, 3, 4] rfl ⟨⟨_, rfl, ⟨rfl, rfl, (vH _ β).symm⟩⟩, ⟨⟨_, rfl, ⟨rfl, rfl, (vF _ α).symm⟩⟩, ⟨⟨_, rfl, ⟨rfl, rfl, rfl, rfl⟩⟩, ⟨⟨_, rfl, ⟨rfl, rfl, rfl, rfl⟩⟩, ⟨⟨_, rfl, ⟨rfl, an.rfl⟩⟩, trivial⟩⟩⟩⟩⟩ ?_
 refine gHR 9 (List.map (V.int .i64) q) rfl (vF _ q) rfl <| gHR 10 (List.map ae.w r) rfl (vH _ r) rfl <| gHn ⟨12, [(10, .row 42 3 (List.map ae.w r)), (9, .row 3 1 (List.map (V.int .i64) q)), (5, .var 29 (ao ι)), (2, .mp 84 81 (List.map (fun p => (fun x => V.agg [(V.int .i64 x.1), (V.int .i64 x.2)]) p.1) n) (List.map (fun p => aa.w p.2) n)), (1, .mp 137 61 (List.map (fun p => (fun x => V.agg [(V.int .i64 x.1), (V.str x.2)]) p.1) γ) (List.map (fun p => ac.w p.2) γ)), (0, vE ο (.row 5 (List.map GTarget.w π)) τ δ ε ζ η)]⟩ rfl ⟨rfl, rfl, rfl, rfl, rfl, rfl, trivial⟩ ?_
 refine eE 11 (.set 2 (.mp 84 81 (List.map (fun p => (fun x => V.agg [(V.int .i64 x.1), (V.int .i64 x.2)]) p.1) (mput ((f : Int), (o : Int)) t n)) (List.map (fun p => aa.w p.2) (mput ((f : Int), (o : Int)) t n)))) rfl (by kernel_rfl) (yk bi (encV := aa.w) (k := ((f : Int), (o : Int))) (d := t) (l := n) Tryz.underlying59 rfl rfl rfl rfl rfl rfl rfl rfl) (okM rfl) rfl (by kernel_rfl) rfl rfl ?_
 exact gDe (by kernel_rfl) <| gJ (h K _ _ hK (by omega) (by omega)) [0, 1, 2, 9, 10] [] rfl hK pq8 ⟨⟨_, rfl, rfl, rfl, (vH _ r).symm⟩, ⟨_, rfl, rfl, rfl, (vF _ q).symm⟩, ⟨_, rfl, rfl, rfl, rfl, rfl⟩, ⟨_, rfl, rfl, rfl, rfl, rfl⟩, (pqo1 rfl rfl)⟩ rfl
 refine gHR 9 (List.map (V.int .i64) q) rfl (vF _ q) rfl <| gHR 10 (List.map ae.w r) rfl (vH _ r) rfl <| gHn ⟨12, [(10, .row 42 3 (List.map ae.w r)), (9, .row 3 1 (List.map (V.int .i64) q)), (5, .var 29 (ao ι)), (2, .mp 84 81 (List.map (fun p => (fun x => V.agg [(V.int .i64 x.1), (V.int .i64 x.2)]) p.1) n) (List.map (fun p => aa.w p.2) n)), (1, .mp 137 61 (List.map (fun p => (fun x => V.agg [(V.int .i64 x.1), (V.str x.2)]) p.1) γ) (List.map (fun p => ac.w p.2) γ)), (0, vE ο (.row 5 (List.map GTarget.w π)) τ δ ε ζ η)]⟩ rfl ⟨rfl, rfl, rfl, rfl, rfl, rfl, trivial⟩ ?_
 exact gDr [(3, 0)] (by kernel_rfl) rfl rfl <| eE 11 (.set 2 (.mp 84 81 (List.map (fun p => (fun x => V.agg [(V.int .i64 x.1), (V.int .i64 x.2)]) p.1) (mput ((f : Int), (o : Int)) t n)) (List.map (fun p => aa.w p.2) (mput ((f : Int), (o : Int)) t n)))) rfl (by kernel_rfl) (yk bi (encV := aa.w) (k := ((f : Int), (o : Int))) (d := t) (l := n) Tryz.underlying59 rfl rfl rfl rfl rfl rfl rfl rfl) (okM rfl) rfl (by kernel_rfl) rfl rfl <| gDe (by kernel_rfl) <| gJ (h K _ _ hK (by omega) (by omega)) [0, 1, 2, 9, 10] [] rfl hK pq8 ⟨⟨_, rfl, rfl, rfl, (vH _ r).symm⟩, ⟨_, rfl, rfl, rfl, (vF _ q).symm⟩, ⟨_, rfl, rfl, rfl, rfl, rfl⟩, ⟨_, rfl, rfl, rfl, rfl, rfl⟩, (pqo1 rfl rfl)⟩ rfl
 replace hd := (ne_of_beq_false hd)
 replace h := h.2 hd
 refine gR 5 rfl ?_
 obtain ⟨hb, h⟩ := h
 exact gR 1 rfl <| gV 44 (.int .i64 ((o + 1 : Nat) : Int)) rfl (au (by omega) (by omega)) rfl <| gR 2 rfl <| go_xloop <| gJ (h K _ _ hK (by omega) (by omega)) [0, 1, 2, 3, 4] [] rfl hK pq8 ⟨⟨_, rfl, rfl, rfl, (vH _ β).symm⟩, ⟨_, rfl, rfl, rfl, (vF _ α).symm⟩, ⟨_, rfl, rfl, rfl, rfl, rfl⟩, ⟨_, rfl, rfl, rfl, rfl, rfl⟩, (pqo1 rfl rfl)⟩ rfl
 replace hd := (dQ hd)
 replace h := h.2 hd
 refine gR 3 rfl <| go_xloopE <| gR 4 rfl ?_
 obtain ⟨hb, h⟩ := h
 exact gR 1 rfl <| gV 45 (.int .i64 ((κ + 1 : Nat) : Int)) rfl (au (by omega) (by omega)) rfl <| gR 2 rfl <| go_xloop <| gJ (h K _ hK (by omega)) [0, 1, 2, 3, 4] [] rfl hK pq4 ⟨⟨_, rfl, rfl, rfl, (vH _ β).symm⟩, ⟨_, rfl, rfl, rfl, (vF _ α).symm⟩, ⟨_, rfl, rfl, rfl, rfl, rfl⟩, ⟨_, rfl, rfl, rfl, rfl, rfl⟩, (pqo1 rfl rfl)⟩ rfl
theorem lG (m : Nat) (p0 : List Tree) (v : Tree) (x : List Tree) (y : List GTarget) (z : (List ((Int × (List UInt8)) × ac))) (α : Int) (o : List Int) (p : List ae) (q : Int) (r : List Int) (s t : Int) (β : (List ((Int × Int) × aa))) (γ δ n : Nat) (ε : List Tree) (f : List GTarget) (k : (List ((Int × (List UInt8)) × ac))) (e : (List ((Int × Int) × aa))) (g : Int) (l : List Int) (i : List ae) (a : Int) (d : List Int) (b c : Int) (h : n + 1 ≤ 9223372036854775807 ∧ cj m p0 v (n + 1) x y z β α o p q r s t γ δ ε f k e g l i a d b c) : ip (m + 1) p0 v x y z α o p q r s t β γ δ n ε f k e g l i a d b c := by
 intro K j1 j2 hK hj1 hj2
 obtain ⟨j1, rfl⟩ : ∃ j, j1 = j + 1 := ⟨j1 - 1, by omega⟩
 obtain ⟨j2, rfl⟩ : ∃ j, j2 = j + 1 := ⟨j2 - 1, by omega⟩
 refine gR 3 rfl ?_
 obtain ⟨hb, h⟩ := h
 exact gR 1 rfl <| gV 44 (.int .i64 ((n + 1 : Nat) : Int)) rfl (au (by omega) (by omega)) rfl <| gR 2 rfl <| go_xloop <| gJ (h K _ _ hK (by omega) (by omega)) [0, 1, 2, 3, 4] [] rfl hK pq8 ⟨⟨_, rfl, rfl, rfl, (vH _ p).symm⟩, ⟨_, rfl, rfl, rfl, (vF _ o).symm⟩, ⟨_, rfl, rfl, rfl, rfl, rfl⟩, ⟨_, rfl, rfl, rfl, rfl, rfl⟩, (pqo1 rfl rfl)⟩ rfl
def L0_typing_checker_call (m : Nat) (p1 : Tree) (p2 : List ak) (n : (List ((Int × Int) × aa))) (o : (List ((Int × (List UInt8)) × ac))) (z : List Tree) (α : List GTarget) (β : Int) (γ : List Int) (δ : List ae) (ε : Int) (ζ : List Int) (q r : Int) (s : List ac) (t v : Int) (y : Nat) (r0 : ac) (η : List Tree) (i : List GTarget) (g : (List ((Int × (List UInt8)) × ac))) (a : (List ((Int × Int) × aa))) (j : Int) (l : List Int) (k : List ae) (b : Int) (f : List Int) (d e : Int) : Prop := ∀ (K : Ctx) (j1 : Nat), aG K [2, 1, 0] → m ≤ j1 → qLG K Tryz.f101 (fun u G => u = .agg (ac.c r0) ∧ G = ⟨6, [(4, .row 42 3 (List.map ae.w k)), (3, .row 3 1 (List.map (V.int .i64) l)), (2, .mp 84 81 (List.map (fun p => (fun x => V.agg [(V.int .i64 x.1), (V.int .i64 x.2)]) p.1) a) (List.map (fun p => aa.w p.2) a)), (1, .mp 137 61 (List.map (fun p => (fun x => V.agg [(V.int .i64 x.1), (V.str x.2)]) p.1) g) (List.map (fun p => ac.w p.2) g)), (0, vA η (.row 5 (List.map GTarget.w i)) j b f d e)]⟩) (xE (xA (ai Tryz.f101))) [.loop (xE (xA (ai Tryz.f101))) j1, .blk 0, .seq (xA (xF (ai Tryz.f101)))] 75 (mkF 75 0 [(0, .ptr 0 0), (2, .lk (List.map ak.c p2)), (6, .ptr 3 0), (8, .ptr 4 0), (38, .row 4 (kidsV p1.kids)), (39, .int .i64 (p1.kids.length : Int)), (40, .int .i64 (y : Int))]) ⟨7, [(6, .row 42 3 (List.map ae.w δ)), (5, .row 3 1 (List.map (V.int .i64) γ)), (4, .var 81 [.row 2 (List.map ac.w s), .int .i64 t, .int .i64 v]), (3, vB 0 0), (2, .mp 84 81 (List.map (fun p => (fun x => V.agg [(V.int .i64 x.1), (V.int .i64 x.2)]) p.1) n) (List.map (fun p => aa.w p.2) n)), (1, .mp 137 61 (List.map (fun p => (fun x => V.agg [(V.int .i64 x.1), (V.str x.2)]) p.1) o) (List.map (fun p => ac.w p.2) o)), (0, .var 63 [.row 4 (kidsV z), .row 5 (List.map GTarget.w α), .sl 1, .sl 2, .int .i64 β, .sl 5, .sl 6, .int .i64 ε, .row 1 (List.map (V.int .i64) ζ), .int .i64 q, .int .i64 r])]⟩
theorem li (m : Nat) (p0_p : List Tree) (τ : List GTarget) (p0_names : (List ((Int × (List UInt8)) × ac))) (δ : (List ((Int × Int) × aa))) (ω : Int) (p0_path : List Int) (θ : List ae) (t : Int) (γ : List Int) (y α : Int) (p1 : Tree) (p2 : List ak) (r0 : ac) (q0_p : List Tree) (g : List GTarget) (q : (List ((Int × (List UInt8)) × ac))) (f : (List ((Int × Int) × aa))) (j : Int) (β : List Int) (n : List ae) (a : Int) (e : List Int) (b d : Int) (h : ∃ o υ φ, ∃ (π : (List ((Int × (List UInt8)) × ac))), ∃ (z : (List ((Int × Int) × aa))), ∃ χ r s ψ ε ζ η, dm p0_p τ p0_names δ ω p0_path θ t γ y α o υ φ π z χ r s ψ ε ζ η ∧ ((o.Free = true) → ∃ r0_13 r0_14, ∃ (r0_15 : (List ((Int × (List UInt8)) × ac))), ∃ (r0_16 : (List ((Int × Int) × aa))), ∃ n0_17 ι κ n0_20 r0_21 n0_22 n0_23, ar υ φ π z χ r s ψ ε ζ η 1 [] r0_13 r0_14 r0_15 r0_16 n0_17 ι κ n0_20 r0_21 n0_22 n0_23 ∧ L0_typing_checker_call m p1 p2 r0_16 r0_15 r0_13 r0_14 n0_17 ι κ n0_20 r0_21 n0_22 n0_23 [] 0 0 0 r0 q0_p g q f j β n a e b d) ∧ ((o.Free = false) → ((mlook (o.Module, o.Def) z = none) → ((0 ≠ (p1.kids.length : Int)) → ∃ r0_25 r0_26, ∃ (r0_27 : (List ((Int × (List UInt8)) × ac))), ∃ (r0_28 : (List ((Int × Int) × aa))), ∃ n0_29 μ ν n0_32 r0_33 n0_34 n0_35, ar υ φ π z χ r s ψ ε ζ η 3 [] r0_25 r0_26 r0_27 r0_28 n0_29 μ ν n0_32 r0_33 n0_34 n0_35 ∧ L0_typing_checker_call m p1 p2 r0_28 r0_27 r0_25 r0_26 n0_29 μ ν n0_32 r0_33 n0_34 n0_35 [] 0 0 0 r0 q0_p g q f j β n a e b d) ∧ ((0 = (p1.kids.length : Int)) → L0_typing_checker_call m p1 p2 z π υ φ χ r s ψ ε ζ η [] 0 0 0 r0 q0_p g q f j β n a e b d)) ∧ (∀ (i : aa), mlook (o.Module, o.Def) z = some i → ((i.params.length ≠ p1.kids.length) → ∃ r0_36 r0_37, ∃ (r0_38 : (List ((Int × (List UInt8)) × ac))), ∃ (r0_39 : (List ((Int × Int) × aa))), ∃ n0_40 ξ ο n0_43 r0_44 n0_45 n0_46, ar υ φ π z χ r s ψ ε ζ η 3 [] r0_36 r0_37 r0_38 r0_39 n0_40 ξ ο n0_43 r0_44 n0_45 n0_46 ∧ L0_typing_checker_call m p1 p2 r0_39 r0_38 r0_36 r0_37 n0_40 ξ ο n0_43 r0_44 n0_45 n0_46 i.params i.result.simple i.result.lists 0 r0 q0_p g q f j β n a e b d) ∧ ((i.params.length = p1.kids.length) → L0_typing_checker_call m p1 p2 z π υ φ χ r s ψ ε ζ η i.params i.result.simple i.result.lists 0 r0 q0_p g q f j β n a e b d)))) : eL p0_p τ p0_names δ ω p0_path θ t γ y α p1 p2 r0 q0_p g q f j β n a e b d := by
 refine al 75 [2, 1, 0] Tryz.func101 rfl rfl rfl (aA rfl) fun K hK => ?_
 refine gR 3 rfl <| gFP 5 rfl rfl rfl rfl <| gR 6 rfl ?_
 obtain ⟨o, υ, φ, π, z, χ, r, s, ψ, ε, ζ, η, hs37, h⟩ := h
 refine gCZ hs37 [0, 1, 2, 3, 4] ⟨⟨_, rfl, ⟨rfl, rfl, (vH _ θ).symm⟩⟩, ⟨⟨_, rfl, ⟨rfl, rfl, (vF _ p0_path).symm⟩⟩, ⟨⟨_, rfl, ⟨rfl, rfl, rfl, rfl⟩⟩, ⟨⟨_, rfl, ⟨rfl, rfl, rfl, rfl⟩⟩, ⟨⟨_, rfl, ⟨rfl, an.rfl⟩⟩, trivial⟩⟩⟩⟩⟩ ?_
 refine gHR 10 (List.map (V.int .i64) r) rfl (vF _ r) rfl <| gHR 11 (List.map ae.w s) rfl (vH _ s) rfl <| gHn ⟨13, [(11, .row 42 3 (List.map ae.w s)), (10, .row 3 1 (List.map (V.int .i64) r)), (6, vB 0 0), (2, .mp 84 81 (List.map (fun p => (fun x => V.agg [(V.int .i64 x.1), (V.int .i64 x.2)]) p.1) z) (List.map (fun p => aa.w p.2) z)), (1, .mp 137 61 (List.map (fun p => (fun x => V.agg [(V.int .i64 x.1), (V.str x.2)]) p.1) π) (List.map (fun p => ac.w p.2) π)), (0, .var 63 [.row 4 (kidsV υ), .row 5 (List.map GTarget.w φ), .sl 1, .sl 2, .int .i64 χ, .sl 10, .sl 11, .int .i64 ψ, .row 1 (List.map (V.int .i64) ε), .int .i64 ζ, .int .i64 η])]⟩ rfl ⟨rfl, rfl, rfl, rfl, rfl, rfl, trivial⟩ ?_
 refine gR 16 rfl <| gB 15 rfl rfl rfl ?_ ?_ <;> intro hd
 replace h := h.1 hd
 refine gR 3 rfl ?_
 obtain ⟨r0_13, r0_14, r0_15, r0_16, n0_17, ι, κ, n0_20, r0_21, n0_22, n0_23, hs38, h⟩ := h
 refine gC hs38 [0, 1, 2, 10, 11] (by kernel_rfl) rfl rfl (.cons .rfl (.cons .rfl (.cons (.nil 1) .nil))) ⟨⟨_, rfl, ⟨rfl, rfl, (vH _ s).symm⟩⟩, ⟨⟨_, rfl, ⟨rfl, rfl, (vF _ r).symm⟩⟩, ⟨⟨_, rfl, ⟨rfl, rfl, rfl, rfl⟩⟩, ⟨⟨_, rfl, ⟨rfl, rfl, rfl, rfl⟩⟩, ⟨⟨_, rfl, ⟨rfl, an.rfl⟩⟩, trivial⟩⟩⟩⟩⟩ rfl ?_
 rintro _ _ ⟨rfl, rfl⟩
 refine gHR 18 (List.map (V.int .i64) ι) rfl (vF _ ι) rfl <| gHR 19 (List.map ae.w κ) rfl (vH _ κ) rfl <| gHn ⟨20, [(19, .row 42 3 (List.map ae.w κ)), (18, .row 3 1 (List.map (V.int .i64) ι)), (14, .var 81 [.nils, .int .i64 0, .int .i64 0]), (13, .var 120 (GTarget.c o)), (6, vB 0 0), (2, .mp 84 81 (List.map (fun p => (fun x => V.agg [(V.int .i64 x.1), (V.int .i64 x.2)]) p.1) r0_16) (List.map (fun p => aa.w p.2) r0_16)), (1, .mp 137 61 (List.map (fun p => (fun x => V.agg [(V.int .i64 x.1), (V.str x.2)]) p.1) r0_15) (List.map (fun p => ac.w p.2) r0_15)), (0, .var 63 [.row 4 (kidsV r0_13), .row 5 (List.map GTarget.w r0_14), .sl 1, .sl 2, .int .i64 n0_17, .sl 18, .sl 19, .int .i64 n0_20, .row 1 (List.map (V.int .i64) r0_21), .int .i64 n0_22, .int .i64 n0_23])]⟩ rfl ⟨rfl, rfl, rfl, rfl, rfl, rfl, rfl, rfl, trivial⟩ ?_
 exact gR 8 rfl <| gV 39 (.int .i64 (p1.kids.length : Int)) rfl (aM (aK _)) rfl <| gLB 38 rfl (aK _) fun hl39 => gR 4 rfl <| go_loop m <| gJ (h K _ hK (by omega)) [0, 1, 2, 6, 14, 18, 19] [2, 1, 0] rfl hK pq7 ⟨⟨_, rfl, rfl, rfl, (vH _ κ).symm⟩, ⟨_, rfl, rfl, rfl, (vF _ ι).symm⟩, ⟨_, rfl, rfl, (.cons (.nil 2) (.cons .rfl (.cons .rfl .nil)))⟩, pqo rfl rfl, ⟨_, rfl, rfl, rfl, rfl, rfl⟩, ⟨_, rfl, rfl, rfl, rfl, rfl⟩, (pqo1 rfl rfl)⟩ rfl
 replace h := h.2 hd
 refine gR 2 rfl <| gDs [0, 13] 10 11 rfl (by kernel_rfl) (by kernel_rfl) <| gDr [(0, 2), (1, 2), (2, 2), (3, 3), (4, 2), (5, 3), (6, 0), (7, 0), (8, 0)] (by kernel_rfl) rfl rfl ?_
 rcases hq40 : mlook (o.Module, o.Def) z with _ | i
 replace h := h.1 hq40
 refine eE (v := some (.agg [.nils, .int .i64 0, .int .i64 0])) 9 (.nop) rfl (by kernel_rfl) (pF bi (encV := aa.w) (k := (o.Module, o.Def)) (l := z) (zv := .agg [.nils, .int .i64 0, .int .i64 0]) hq40 Tryz.underlying59 Tryz.zeroValue81 (by kernel_rfl) rfl rfl rfl rfl) trivial rfl (by kernel_rfl) rfl rfl ?_
 refine gDr [(10, 1)] (by kernel_rfl) rfl rfl <| gDe (by kernel_rfl) <| gR 9 rfl <| gV 33 (.int .i64 (p1.kids.length : Int)) rfl (aM (aK _)) rfl <| gLB 32 rfl (aK _) fun hl41 => gR 3 rfl <| gB 34 rfl rfl rfl ?_ ?_ <;> intro hd
 replace hd := (ec hd)
 replace h := h.1 hd
 refine gR 3 rfl ?_
 obtain ⟨r0_25, r0_26, r0_27, r0_28, n0_29, μ, ν, n0_32, r0_33, n0_34, n0_35, hs42, h⟩ := h
 refine gC hs42 [0, 1, 2, 10, 11] (by kernel_rfl) rfl rfl (.cons .rfl (.cons .rfl (.cons (.nil 1) .nil))) ⟨⟨_, rfl, ⟨rfl, rfl, (vH _ s).symm⟩⟩, ⟨⟨_, rfl, ⟨rfl, rfl, (vF _ r).symm⟩⟩, ⟨⟨_, rfl, ⟨rfl, rfl, rfl, rfl⟩⟩, ⟨⟨_, rfl, ⟨rfl, rfl, rfl, rfl⟩⟩, ⟨⟨_, rfl, ⟨rfl, an.rfl⟩⟩, trivial⟩⟩⟩⟩⟩ rfl ?_
 rintro _ _ ⟨rfl, rfl⟩
 refine gHR 18 (List.map (V.int .i64) μ) rfl (vF _ μ) rfl <| gHR 19 (List.map ae.w ν) rfl (vH _ ν) rfl <| gHn ⟨20, [(19, .row 42 3 (List.map ae.w ν)), (18, .row 3 1 (List.map (V.int .i64) μ)), (14, .var 81 [.nils, .int .i64 0, .int .i64 0]), (13, .var 120 (GTarget.c o)), (6, vB 0 0), (2, .mp 84 81 (List.map (fun p => (fun x => V.agg [(V.int .i64 x.1), (V.int .i64 x.2)]) p.1) r0_28) (List.map (fun p => aa.w p.2) r0_28)), (1, .mp 137 61 (List.map (fun p => (fun x => V.agg [(V.int .i64 x.1), (V.str x.2)]) p.1) r0_27) (List.map (fun p => ac.w p.2) r0_27)), (0, .var 63 [.row 4 (kidsV r0_25), .row 5 (List.map GTarget.w r0_26), .sl 1, .sl 2, .int .i64 n0_29, .sl 18, .sl 19, .int .i64 n0_32, .row 1 (List.map (V.int .i64) r0_33), .int .i64 n0_34, .int .i64 n0_35])]⟩ rfl ⟨rfl, rfl, rfl, rfl, rfl, rfl, rfl, rfl, trivial⟩ ?_
 exact gR 8 rfl <| gV 39 (.int .i64 (p1.kids.length : Int)) rfl (aM (aK _)) rfl <| gR 4 rfl <| go_loop m <| gJ (h K _ hK (by omega)) [0, 1, 2, 6, 14, 18, 19] [2, 1, 0] rfl hK pq7 ⟨⟨_, rfl, rfl, rfl, (vH _ ν).symm⟩, ⟨_, rfl, rfl, rfl, (vF _ μ).symm⟩, ⟨_, rfl, rfl, (.cons (.nil 2) (.cons .rfl (.cons .rfl .nil)))⟩, pqo rfl rfl, ⟨_, rfl, rfl, rfl, rfl, rfl⟩, ⟨_, rfl, rfl, rfl, rfl, rfl⟩, (pqo1 rfl rfl)⟩ rfl
 replace hd := (cP hd)
 replace h := h.2 hd
 exact gR 9 rfl <| gV 39 (.int .i64 (p1.kids.length : Int)) rfl (aM (aK _)) rfl <| gR 4 rfl <| go_loop m <| gJ (h K _ hK (by omega)) [0, 1, 2, 6, 14, 10, 11] [2, 1, 0] rfl hK pq7 ⟨⟨_, rfl, rfl, rfl, (vH _ s).symm⟩, ⟨_, rfl, rfl, rfl, (vF _ r).symm⟩, ⟨_, rfl, rfl, (.cons (.nil 2) (.cons .rfl (.cons .rfl .nil)))⟩, pqo rfl rfl, ⟨_, rfl, rfl, rfl, rfl, rfl⟩, ⟨_, rfl, rfl, rfl, rfl, rfl⟩, (pqo1 rfl rfl)⟩ rfl
 replace h := h.2 i hq40
 refine eE (v := some (.agg (aa.c i))) 9 (.nop) rfl (by kernel_rfl) (pQ bi (encV := aa.w) (k := (o.Module, o.Def)) (l := z) (zv := .agg [.nils, .int .i64 0, .int .i64 0]) hq40 Tryz.underlying59 Tryz.zeroValue81 (by kernel_rfl) rfl rfl rfl rfl) trivial rfl (by kernel_rfl) rfl rfl ?_
 refine gDr [(10, 1)] (by kernel_rfl) rfl rfl <| gDe (by kernel_rfl) <| gR 6 rfl <| gV 30 (.int .i64 (i.params.length : Int)) rfl (aM (aF ac.w _)) rfl <| gLB 29 rfl (aF ac.w _) fun hl43 => gR 3 rfl <| gV 33 (.int .i64 (p1.kids.length : Int)) rfl (aM (aK _)) rfl <| gLB 32 rfl (aK _) fun hl44 => gR 3 rfl <| gB 34 rfl rfl rfl ?_ ?_ <;> intro hd
 replace hd := (yG hd)
 replace h := h.1 hd
 refine gR 3 rfl ?_
 obtain ⟨r0_36, r0_37, r0_38, r0_39, n0_40, ξ, ο, n0_43, r0_44, n0_45, n0_46, hs45, h⟩ := h
 refine gC hs45 [0, 1, 2, 10, 11] (by kernel_rfl) rfl rfl (.cons .rfl (.cons .rfl (.cons (.nil 1) .nil))) ⟨⟨_, rfl, ⟨rfl, rfl, (vH _ s).symm⟩⟩, ⟨⟨_, rfl, ⟨rfl, rfl, (vF _ r).symm⟩⟩, ⟨⟨_, rfl, ⟨rfl, rfl, rfl, rfl⟩⟩, ⟨⟨_, rfl, ⟨rfl, rfl, rfl, rfl⟩⟩, ⟨⟨_, rfl, ⟨rfl, an.rfl⟩⟩, trivial⟩⟩⟩⟩⟩ rfl ?_
 rintro _ _ ⟨rfl, rfl⟩
 refine gHR 18 (List.map (V.int .i64) ξ) rfl (vF _ ξ) rfl <| gHR 19 (List.map ae.w ο) rfl (vH _ ο) rfl <| gHn ⟨20, [(19, .row 42 3 (List.map ae.w ο)), (18, .row 3 1 (List.map (V.int .i64) ξ)), (14, .var 81 (aa.c i)), (13, .var 120 (GTarget.c o)), (6, vB 0 0), (2, .mp 84 81 (List.map (fun p => (fun x => V.agg [(V.int .i64 x.1), (V.int .i64 x.2)]) p.1) r0_39) (List.map (fun p => aa.w p.2) r0_39)), (1, .mp 137 61 (List.map (fun p => (fun x => V.agg [(V.int .i64 x.1), (V.str x.2)]) p.1) r0_38) (List.map (fun p => ac.w p.2) r0_38)), (0, .var 63 [.row 4 (kidsV r0_36), .row 5 (List.map GTarget.w r0_37), .sl 1, .sl 2, .int .i64 n0_40, .sl 18, .sl 19, .int .i64 n0_43, .row 1 (List.map (V.int .i64) r0_44), .int .i64 n0_45, .int .i64 n0_46])]⟩ rfl ⟨rfl, rfl, rfl, rfl, rfl, rfl, rfl, rfl, trivial⟩ ?_
 exact gR 8 rfl <| gV 39 (.int .i64 (p1.kids.length : Int)) rfl (aM (aK _)) rfl <| gR 4 rfl <| go_loop m <| gJ (h K _ hK (by omega)) [0, 1, 2, 6, 14, 18, 19] [2, 1, 0] rfl hK pq7 ⟨⟨_, rfl, rfl, rfl, (vH _ ο).symm⟩, ⟨_, rfl, rfl, rfl, (vF _ ξ).symm⟩, pqo rfl rfl, pqo rfl rfl, ⟨_, rfl, rfl, rfl, rfl, rfl⟩, ⟨_, rfl, rfl, rfl, rfl, rfl⟩, (pqo1 rfl rfl)⟩ rfl
 replace hd := (yh hd)
 replace h := h.2 hd
 exact gR 9 rfl <| gV 39 (.int .i64 (p1.kids.length : Int)) rfl (aM (aK _)) rfl <| gR 4 rfl <| go_loop m <| gJ (h K _ hK (by omega)) [0, 1, 2, 6, 14, 10, 11] [2, 1, 0] rfl hK pq7 ⟨⟨_, rfl, rfl, rfl, (vH _ s).symm⟩, ⟨_, rfl, rfl, rfl, (vF _ r).symm⟩, pqo rfl rfl, pqo rfl rfl, ⟨_, rfl, rfl, rfl, rfl, rfl⟩, ⟨_, rfl, rfl, rfl, rfl, rfl⟩, (pqo1 rfl rfl)⟩ rfl
theorem gm (m : Nat) (p1 : Tree) (p2 : List ak) (l1v1 : (List ((Int × Int) × aa))) (l1v2 : (List ((Int × (List UInt8)) × ac))) (l1v3 : List Tree) (l1v4 : List GTarget) (z1v5 : Int) (ω : List Int) (l1v7 : List ae) (z1v8 : Int) (l1v9 : List Int) (z1v10 z1v11 : Int) (l : List ac) (n o : Int) (i : Nat) (r0 : ac) (q0_p : List Tree) (k : List GTarget) (v : (List ((Int × (List UInt8)) × ac))) (g : (List ((Int × Int) × aa))) (q : Int) (y : List Int) (r : List ae) (a : Int) (e : List Int) (b d : Int) (h : ((i < p1.kids.length) → ∃ ξ, p1.kids[i]? = some ξ ∧ ∃ r1_2 r1_3, ∃ (r1_4 : (List ((Int × (List UInt8)) × ac))), ∃ (r1_5 : (List ((Int × Int) × aa))), ∃ n1_6 ο π n1_9 r1_10 n1_11 n1_12, ba l1v3 l1v4 l1v2 l1v1 z1v5 ω l1v7 z1v8 l1v9 z1v10 z1v11 (i : Int) r1_2 r1_3 r1_4 r1_5 n1_6 ο π n1_9 r1_10 n1_11 n1_12 ∧ ∃ τ r1_14 r1_15, ∃ (υ : (List ((Int × (List UInt8)) × ac))), ∃ (φ : (List ((Int × Int) × aa))), ∃ n1_18 z α n1_21 r1_22 n1_23 n1_24, aD r1_2 r1_3 r1_4 r1_5 n1_6 ο π n1_9 r1_10 n1_11 n1_12 ξ 0 p2 τ r1_14 r1_15 υ φ n1_18 z α n1_21 r1_22 n1_23 n1_24 ∧ ∃ ζ η, ∃ (β : (List ((Int × (List UInt8)) × ac))), ∃ (γ : (List ((Int × Int) × aa))), ∃ θ s t ι κ μ ν, az r1_14 r1_15 υ φ n1_18 z α n1_21 r1_22 n1_23 n1_24 ζ η β γ θ s t ι κ μ ν ∧ ((i < l.length) → ∃ x1_36, l[i]? = some x1_36 ∧ ∃ b1_37, aS τ x1_36 b1_37 ∧ ((b1_37 = true) → ∃ r1_38 r1_39, ∃ (χ : (List ((Int × (List UInt8)) × ac))), ∃ (ψ : (List ((Int × Int) × aa))), ∃ n1_42 δ ε n1_45 r1_46 n1_47 n1_48, ar ζ η β γ θ s t ι κ μ ν 4 [(i : Int), 0] r1_38 r1_39 χ ψ n1_42 δ ε n1_45 r1_46 n1_47 n1_48 ∧ L0_typing_checker_call m p1 p2 ψ χ r1_38 r1_39 n1_42 δ ε n1_45 r1_46 n1_47 n1_48 l n o (i + 1) r0 q0_p k v g q y r a e b d) ∧ ((b1_37 = false) → L0_typing_checker_call m p1 p2 γ β ζ η θ s t ι κ μ ν l n o (i + 1) r0 q0_p k v g q y r a e b d)) ∧ ((¬ i < l.length) → i + 1 ≤ 9223372036854775807 ∧ L0_typing_checker_call m p1 p2 γ β ζ η θ s t ι κ μ ν l n o (i + 1) r0 q0_p k v g q y r a e b d)) ∧ ((¬ i < p1.kids.length) → (ac.mk n o) = r0 ∧ l1v3 = q0_p ∧ l1v4 = k ∧ l1v2 = v ∧ l1v1 = g ∧ z1v5 = q ∧ ω = y ∧ l1v7 = r ∧ z1v8 = a ∧ l1v9 = e ∧ z1v10 = b ∧ z1v11 = d)) : L0_typing_checker_call (m + 1) p1 p2 l1v1 l1v2 l1v3 l1v4 z1v5 ω l1v7 z1v8 l1v9 z1v10 z1v11 l n o i r0 q0_p k v g q y r a e b d := by
 intro K j1 hK hj1
 obtain ⟨j1, rfl⟩ : ∃ j, j1 = j + 1 := ⟨j1 - 1, by omega⟩
 refine gR 6 rfl <| gB 41 rfl rfl rfl ?_ ?_ <;> intro hd
 replace hd := (dO hd)
 replace h := h.1 hd
 refine gR 8 rfl ?_
 obtain ⟨ξ, hxt1_1, h⟩ := h
 refine gY (bx (aL hxt1_1) ah rfl rfl rfl rfl) rfl rfl <| gR 10 rfl ?_
 obtain ⟨r1_2, r1_3, r1_4, r1_5, n1_6, ο, π, n1_9, r1_10, n1_11, n1_12, hs46, h⟩ := h
 refine gCZ hs46 [0, 1, 2, 5, 6] ⟨⟨_, rfl, ⟨rfl, rfl, (vH _ l1v7).symm⟩⟩, ⟨⟨_, rfl, ⟨rfl, rfl, (vF _ ω).symm⟩⟩, ⟨⟨_, rfl, ⟨rfl, rfl, rfl, rfl⟩⟩, ⟨⟨_, rfl, ⟨rfl, rfl, rfl, rfl⟩⟩, ⟨⟨_, rfl, ⟨rfl, an.rfl⟩⟩, trivial⟩⟩⟩⟩⟩ ?_
 refine gHR 11 (List.map (V.int .i64) ο) rfl (vF _ ο) rfl <| gHR 12 (List.map ae.w π) rfl (vH _ π) rfl <| gHn ⟨13, [(12, .row 42 3 (List.map ae.w π)), (11, .row 3 1 (List.map (V.int .i64) ο)), (7, .var 29 (ao ξ)), (4, .var 81 [.row 2 (List.map ac.w l), .int .i64 n, .int .i64 o]), (3, vB 0 0), (2, .mp 84 81 (List.map (fun p => (fun x => V.agg [(V.int .i64 x.1), (V.int .i64 x.2)]) p.1) r1_5) (List.map (fun p => aa.w p.2) r1_5)), (1, .mp 137 61 (List.map (fun p => (fun x => V.agg [(V.int .i64 x.1), (V.str x.2)]) p.1) r1_4) (List.map (fun p => ac.w p.2) r1_4)), (0, .var 63 [.row 4 (kidsV r1_2), .row 5 (List.map GTarget.w r1_3), .sl 1, .sl 2, .int .i64 n1_6, .sl 11, .sl 12, .int .i64 n1_9, .row 1 (List.map (V.int .i64) r1_10), .int .i64 n1_11, .int .i64 n1_12])]⟩ rfl ⟨rfl, rfl, rfl, rfl, rfl, rfl, rfl, rfl, trivial⟩ ?_
 refine gR 7 rfl ?_
 obtain ⟨τ, r1_14, r1_15, υ, φ, n1_18, z, α, n1_21, r1_22, n1_23, n1_24, hs47, h⟩ := h
 refine gCZ hs47 [0, 1, 2, 11, 12] ⟨⟨_, rfl, ⟨rfl, rfl, (vH _ π).symm⟩⟩, ⟨⟨_, rfl, ⟨rfl, rfl, (vF _ ο).symm⟩⟩, ⟨⟨_, rfl, ⟨rfl, rfl, rfl, rfl⟩⟩, ⟨⟨_, rfl, ⟨rfl, rfl, rfl, rfl⟩⟩, ⟨⟨_, rfl, ⟨rfl, an.rfl⟩⟩, trivial⟩⟩⟩⟩⟩ ?_
 refine gHR 16 (List.map (V.int .i64) z) rfl (vF _ z) rfl <| gHR 17 (List.map ae.w α) rfl (vH _ α) rfl <| gHn ⟨19, [(17, .row 42 3 (List.map ae.w α)), (16, .row 3 1 (List.map (V.int .i64) z)), (7, .var 29 (ao ξ)), (4, .var 81 [.row 2 (List.map ac.w l), .int .i64 n, .int .i64 o]), (3, vB 0 0), (2, .mp 84 81 (List.map (fun p => (fun x => V.agg [(V.int .i64 x.1), (V.int .i64 x.2)]) p.1) φ) (List.map (fun p => aa.w p.2) φ)), (1, .mp 137 61 (List.map (fun p => (fun x => V.agg [(V.int .i64 x.1), (V.str x.2)]) p.1) υ) (List.map (fun p => ac.w p.2) υ)), (0, .var 63 [.row 4 (kidsV r1_14), .row 5 (List.map GTarget.w r1_15), .sl 1, .sl 2, .int .i64 n1_18, .sl 16, .sl 17, .int .i64 n1_21, .row 1 (List.map (V.int .i64) r1_22), .int .i64 n1_23, .int .i64 n1_24])]⟩ rfl ⟨rfl, rfl, rfl, rfl, rfl, rfl, rfl, rfl, trivial⟩ ?_
 refine gR 7 rfl ?_
 obtain ⟨ζ, η, β, γ, θ, s, t, ι, κ, μ, ν, hs48, h⟩ := h
 refine gCZ hs48 [0, 1, 2, 16, 17] ⟨⟨_, rfl, ⟨rfl, rfl, (vH _ α).symm⟩⟩, ⟨⟨_, rfl, ⟨rfl, rfl, (vF _ z).symm⟩⟩, ⟨⟨_, rfl, ⟨rfl, rfl, rfl, rfl⟩⟩, ⟨⟨_, rfl, ⟨rfl, rfl, rfl, rfl⟩⟩, ⟨⟨_, rfl, ⟨rfl, an.rfl⟩⟩, trivial⟩⟩⟩⟩⟩ ?_
 refine gHR 23 (List.map (V.int .i64) s) rfl (vF _ s) rfl <| gHR 24 (List.map ae.w t) rfl (vH _ t) rfl <| gHn ⟨25, [(24, .row 42 3 (List.map ae.w t)), (23, .row 3 1 (List.map (V.int .i64) s)), (19, .var 61 (ac.c τ)), (7, .var 29 (ao ξ)), (4, .var 81 [.row 2 (List.map ac.w l), .int .i64 n, .int .i64 o]), (3, vB 0 0), (2, .mp 84 81 (List.map (fun p => (fun x => V.agg [(V.int .i64 x.1), (V.int .i64 x.2)]) p.1) γ) (List.map (fun p => aa.w p.2) γ)), (1, .mp 137 61 (List.map (fun p => (fun x => V.agg [(V.int .i64 x.1), (V.str x.2)]) p.1) β) (List.map (fun p => ac.w p.2) β)), (0, .var 63 [.row 4 (kidsV ζ), .row 5 (List.map GTarget.w η), .sl 1, .sl 2, .int .i64 θ, .sl 23, .sl 24, .int .i64 ι, .row 1 (List.map (V.int .i64) κ), .int .i64 μ, .int .i64 ν])]⟩ rfl ⟨rfl, rfl, rfl, rfl, rfl, rfl, rfl, rfl, rfl, trivial⟩ ?_
 refine gR 3 rfl <| gDs [4, 19] 14 14 rfl (by kernel_rfl) (by kernel_rfl) <| gDr [(0, 2), (1, 0), (2, 0), (3, 0)] (by kernel_rfl) rfl rfl <| gV 57 (.int .i64 (l.length : Int)) rfl (aM (aF ac.w _)) rfl <| gLB 56 rfl (aF ac.w _) fun hl52 => gDr [(4, 0), (5, 0)] (by kernel_rfl) rfl rfl <| gB 59 rfl rfl rfl ?_ ?_ <;> intro hd
 refine gT 58 rfl hd rfl ?_
 replace hd := (dO hd)
 replace h := h.1 hd
 refine gDr [(6, 3), (7, 2), (8, 3), (9, 0)] (by kernel_rfl) rfl rfl ?_
 obtain ⟨x1_36, hxx1_36, h⟩ := h
 refine nh 10 rfl (by kernel_rfl) (bx (mapget (f := ac.w) hxx1_36) ah rfl rfl rfl rfl) rfl rfl ?_
 refine gDr [(11, 0)] (by kernel_rfl) rfl rfl ?_
 obtain ⟨b1_37, hs53, h⟩ := h
 refine nd 12 hs53 (by kernel_rfl) rfl (by kernel_rfl) rfl rfl .rfl rfl rfl ?_
 refine gDr [(13, 0)] (by kernel_rfl) rfl rfl <| gDe (by kernel_rfl) <| gR 1 rfl <| gB 67 rfl rfl rfl ?_ ?_ <;> intro hd
 replace h := h.1 hd
 refine gR 5 rfl <| gFR 25 rfl rfl rfl rfl ?_
 obtain ⟨r1_38, r1_39, χ, ψ, n1_42, δ, ε, n1_45, r1_46, n1_47, n1_48, hs54, h⟩ := h
 refine gCZ hs54 [0, 1, 2, 23, 24] ⟨⟨_, rfl, ⟨rfl, rfl, (vH _ t).symm⟩⟩, ⟨⟨_, rfl, ⟨rfl, rfl, (vF _ s).symm⟩⟩, ⟨⟨_, rfl, ⟨rfl, rfl, rfl, rfl⟩⟩, ⟨⟨_, rfl, ⟨rfl, rfl, rfl, rfl⟩⟩, ⟨⟨_, rfl, ⟨rfl, an.rfl⟩⟩, trivial⟩⟩⟩⟩⟩ ?_
 refine gHR 29 (List.map (V.int .i64) δ) rfl (vF _ δ) rfl <| gHR 30 (List.map ae.w ε) rfl (vH _ ε) rfl <| gHn ⟨31, [(30, .row 42 3 (List.map ae.w ε)), (29, .row 3 1 (List.map (V.int .i64) δ)), (19, .var 61 (ac.c τ)), (7, .var 29 (ao ξ)), (4, .var 81 [.row 2 (List.map ac.w l), .int .i64 n, .int .i64 o]), (3, vB 0 0), (2, .mp 84 81 (List.map (fun p => (fun x => V.agg [(V.int .i64 x.1), (V.int .i64 x.2)]) p.1) ψ) (List.map (fun p => aa.w p.2) ψ)), (1, .mp 137 61 (List.map (fun p => (fun x => V.agg [(V.int .i64 x.1), (V.str x.2)]) p.1) χ) (List.map (fun p => ac.w p.2) χ)), (0, .var 63 [.row 4 (kidsV r1_38), .row 5 (List.map GTarget.w r1_39), .sl 1, .sl 2, .int .i64 n1_42, .sl 29, .sl 30, .int .i64 n1_45, .row 1 (List.map (V.int .i64) r1_46), .int .i64 n1_47, .int .i64 n1_48])]⟩ rfl ⟨rfl, rfl, rfl, rfl, rfl, rfl, rfl, rfl, rfl, trivial⟩ ?_
 exact gR 5 rfl <| gV 72 (.int .i64 ((i + 1 : Nat) : Int)) rfl (au (by have := hl52; omega) (by omega)) rfl <| gR 2 rfl <| go_xloop <| gJ (h K _ hK (by omega)) [0, 1, 2, 3, 4, 29, 30] [2, 1, 0] rfl hK pq7 ⟨⟨_, rfl, rfl, rfl, (vH _ ε).symm⟩, ⟨_, rfl, rfl, rfl, (vF _ δ).symm⟩, pqo rfl rfl, pqo rfl rfl, ⟨_, rfl, rfl, rfl, rfl, rfl⟩, ⟨_, rfl, rfl, rfl, rfl, rfl⟩, (pqo1 rfl rfl)⟩ rfl
 replace h := h.2 hd
 exact gR 6 rfl <| gV 72 (.int .i64 ((i + 1 : Nat) : Int)) rfl (au (by have := hl52; omega) (by omega)) rfl <| gR 2 rfl <| go_xloop <| gJ (h K _ hK (by omega)) [0, 1, 2, 3, 4, 23, 24] [2, 1, 0] rfl hK pq7 ⟨⟨_, rfl, rfl, rfl, (vH _ t).symm⟩, ⟨_, rfl, rfl, rfl, (vF _ s).symm⟩, pqo rfl rfl, pqo rfl rfl, ⟨_, rfl, rfl, rfl, rfl, rfl⟩, ⟨_, rfl, rfl, rfl, rfl, rfl⟩, (pqo1 rfl rfl)⟩ rfl
 refine gF 58 rfl hd rfl ?_
 replace hd := (dQ hd)
 replace h := h.2 hd
 refine gDr [(6, 2), (7, 2), (8, 2), (9, 0), (10, 0), (11, 0), (12, 0), (13, 0)] (by kernel_rfl) rfl rfl <| gDe (by kernel_rfl) <| gR 6 rfl ?_
 obtain ⟨hb, h⟩ := h
 exact gR 1 rfl <| gV 72 (.int .i64 ((i + 1 : Nat) : Int)) rfl (au (by omega) (by omega)) rfl <| gR 2 rfl <| go_xloop <| gJ (h K _ hK (by omega)) [0, 1, 2, 3, 4, 23, 24] [2, 1, 0] rfl hK pq7 ⟨⟨_, rfl, rfl, rfl, (vH _ t).symm⟩, ⟨_, rfl, rfl, rfl, (vF _ s).symm⟩, pqo rfl rfl, pqo rfl rfl, ⟨_, rfl, rfl, rfl, rfl, rfl⟩, ⟨_, rfl, rfl, rfl, rfl, rfl⟩, (pqo1 rfl rfl)⟩ rfl
 replace hd := (dQ hd)
 replace h := h.2 hd
 refine gR 3 rfl <| go_xloopE <| gR 10 rfl ?_
 obtain ⟨rfl, rfl, rfl, rfl, rfl, rfl, rfl, rfl, rfl, rfl, rfl, rfl⟩ := h
 refine go_sub (F' := (mkF 75 0 [(6, .ptr 5 0)])) (H' := ⟨6, [(5, .var 61 (ac.c (ac.mk n o))), (4, .row 42 3 (List.map ae.w l1v7)), (3, .row 3 1 (List.map (V.int .i64) ω)), (2, .mp 84 81 (List.map (fun p => (fun x => V.agg [(V.int .i64 x.1), (V.int .i64 x.2)]) p.1) l1v1) (List.map (fun p => aa.w p.2) l1v1)), (1, .mp 137 61 (List.map (fun p => (fun x => V.agg [(V.int .i64 x.1), (V.str x.2)]) p.1) l1v2) (List.map (fun p => ac.w p.2) l1v2)), (0, vA l1v3 (.row 5 (List.map GTarget.w l1v4)) z1v5 z1v8 l1v9 z1v10 z1v11)]⟩) [0, 1, 2, 5, 6, 3] [2, 1, 0] rfl hK pq1 ⟨pqo rfl rfl, ⟨_, rfl, rfl, rfl, (vH _ l1v7).symm⟩, ⟨_, rfl, rfl, rfl, (vF _ ω).symm⟩, ⟨_, rfl, rfl, rfl, rfl, rfl⟩, ⟨_, rfl, rfl, rfl, rfl, rfl⟩, (pqo1 rfl rfl)⟩ rfl ?_
 exact go_endD [5] ah (rs := [.cell 6 61]) rfl rfl ⟨rfl, rfl⟩
def L0_typing_checker_list (m : Nat) (p1 : Tree) (p2 : List ak) (n : (List ((Int × Int) × aa))) (o : (List ((Int × (List UInt8)) × ac))) (y : List Tree) (z : List GTarget) (α : Int) (β : List Int) (γ : List ae) (δ : Int) (ε : List Int) (q r s t : Int) (v : Nat) (r0 : ac) (ζ : List Tree) (i : List GTarget) (g : (List ((Int × (List UInt8)) × ac))) (a : (List ((Int × Int) × aa))) (j : Int) (l : List Int) (k : List ae) (b : Int) (f : List Int) (d e : Int) : Prop := ∀ (K : Ctx) (j1 : Nat), aG K [2, 1, 0] → m ≤ j1 → qLG K Tryz.f102 (fun u G => u = .agg (ac.c r0) ∧ G = ⟨6, [(4, .row 42 3 (List.map ae.w k)), (3, .row 3 1 (List.map (V.int .i64) l)), (2, .mp 84 81 (List.map (fun p => (fun x => V.agg [(V.int .i64 x.1), (V.int .i64 x.2)]) p.1) a) (List.map (fun p => aa.w p.2) a)), (1, .mp 137 61 (List.map (fun p => (fun x => V.agg [(V.int .i64 x.1), (V.str x.2)]) p.1) g) (List.map (fun p => ac.w p.2) g)), (0, vA ζ (.row 5 (List.map GTarget.w i)) j b f d e)]⟩) (xE (ai Tryz.f102)) [.loop (xE (ai Tryz.f102)) j1, .blk 0, .seq (xF (ai Tryz.f102))] 41 (mkF 41 0 [(0, .ptr 0 0), (2, .lk (List.map ak.c p2)), (4, .box (ao p1) 0), (6, .ptr 3 0), (7, .ptr 4 0), (12, .int .i64 (p1.kids.length : Int)), (13, .int .i64 (v : Int))]) ⟨7, [(6, .row 42 3 (List.map ae.w γ)), (5, .row 3 1 (List.map (V.int .i64) β)), (4, vB s t), (3, vB 0 0), (2, .mp 84 81 (List.map (fun p => (fun x => V.agg [(V.int .i64 x.1), (V.int .i64 x.2)]) p.1) n) (List.map (fun p => aa.w p.2) n)), (1, .mp 137 61 (List.map (fun p => (fun x => V.agg [(V.int .i64 x.1), (V.str x.2)]) p.1) o) (List.map (fun p => ac.w p.2) o)), (0, .var 63 [.row 4 (kidsV y), .row 5 (List.map GTarget.w z), .sl 1, .sl 2, .int .i64 α, .sl 5, .sl 6, .int .i64 δ, .row 1 (List.map (V.int .i64) ε), .int .i64 q, .int .i64 r])]⟩
theorem lm (m : Nat) (y : List Tree) (n : List GTarget) (t : (List ((Int × (List UInt8)) × ac))) (j : (List ((Int × Int) × aa))) (p : Int) (q : List Int) (l : List ae) (a : Int) (g : List Int) (b e : Int) (p1 : Tree) (p2 : List ak) (r0 : ac) (z : List Tree) (o : List GTarget) (v : (List ((Int × (List UInt8)) × ac))) (k : (List ((Int × Int) × aa))) (r : Int) (x : List Int) (s : List ae) (c : Int) (i : List Int) (d f : Int) (h : L0_typing_checker_list m p1 p2 j t y n p q l a g b e 0 0 0 r0 z o v k r x s c i d f) : ib y n t j p q l a g b e p1 p2 r0 z o v k r x s c i d f := by
 refine al 41 [2, 1, 0] Tryz.func102 rfl rfl rfl (aA rfl) fun K hK => ?_
 exact gR 3 rfl <| gFP 5 rfl rfl rfl rfl <| gR 14 rfl <| gV 12 (.int .i64 (p1.kids.length : Int)) rfl (aM (aK _)) rfl <| gLB 11 rfl (aK _) fun hl11 => gR 4 rfl <| go_loop m <| gJ (h K _ hK (by omega)) [0, 1, 2, 6, 7, 3, 4] [2, 1, 0] rfl hK pq7 ⟨⟨_, rfl, rfl, rfl, (vH _ l).symm⟩, ⟨_, rfl, rfl, rfl, (vF _ q).symm⟩, pqo rfl rfl, pqo rfl rfl, ⟨_, rfl, rfl, rfl, rfl, rfl⟩, ⟨_, rfl, rfl, rfl, rfl, rfl⟩, (pqo1 rfl rfl)⟩ rfl
theorem gh (m : Nat) (p1 : Tree) (p2 : List ak) (κ : (List ((Int × Int) × aa))) (μ : (List ((Int × (List UInt8)) × ac))) (l1v3 : List Tree) (l1v4 : List GTarget) (z1v5 : Int) (ζ : List Int) (η : List ae) (z1v8 : Int) (l1v9 : List Int) (θ ι k o : Int) (g : Nat) (r0 : ac) (ο : List Tree) (i : List GTarget) (q : (List ((Int × (List UInt8)) × ac))) (f : (List ((Int × Int) × aa))) (l : Int) (r : List Int) (n : List ae) (a : Int) (e : List Int) (b d : Int) (h : ((g < p1.kids.length) → ∃ v π τ, ∃ (ν : (List ((Int × (List UInt8)) × ac))), ∃ (ξ : (List ((Int × Int) × aa))), ∃ υ s t φ y z α, aD l1v3 l1v4 μ κ z1v5 ζ η z1v8 l1v9 θ ι p1 (g : Int) p2 v π τ ν ξ υ s t φ y z α ∧ ((k = 0) → ∃ b1_13, aS v v b1_13 ∧ ((b1_13 = true) → ∃ r1_14 r1_15, ∃ (χ : (List ((Int × (List UInt8)) × ac))), ∃ (ψ : (List ((Int × Int) × aa))), ∃ n1_18 β γ n1_21 r1_22 n1_23 n1_24, ar π τ ν ξ υ s t φ y z α 6 [(g : Int)] r1_14 r1_15 χ ψ n1_18 β γ n1_21 r1_22 n1_23 n1_24 ∧ g + 1 ≤ 9223372036854775807 ∧ L0_typing_checker_list m p1 p2 ψ χ r1_14 r1_15 n1_18 β γ n1_21 r1_22 n1_23 n1_24 v.simple v.lists (g + 1) r0 ο i q f l r n a e b d) ∧ ((b1_13 = false) → g + 1 ≤ 9223372036854775807 ∧ L0_typing_checker_list m p1 p2 ξ ν π τ υ s t φ y z α v.simple v.lists (g + 1) r0 ο i q f l r n a e b d)) ∧ ((k ≠ 0) → ∃ b1_25, aS v (ac.mk k o) b1_25 ∧ ((b1_25 = true) → ∃ r1_26 r1_27, ∃ (ω : (List ((Int × (List UInt8)) × ac))), ∃ (r1_29 : (List ((Int × Int) × aa))), ∃ n1_30 δ ε n1_33 r1_34 n1_35 n1_36, ar π τ ν ξ υ s t φ y z α 6 [(g : Int)] r1_26 r1_27 ω r1_29 n1_30 δ ε n1_33 r1_34 n1_35 n1_36 ∧ g + 1 ≤ 9223372036854775807 ∧ L0_typing_checker_list m p1 p2 r1_29 ω r1_26 r1_27 n1_30 δ ε n1_33 r1_34 n1_35 n1_36 k o (g + 1) r0 ο i q f l r n a e b d) ∧ ((b1_25 = false) → g + 1 ≤ 9223372036854775807 ∧ L0_typing_checker_list m p1 p2 ξ ν π τ υ s t φ y z α k o (g + 1) r0 ο i q f l r n a e b d))) ∧ ((¬ g < p1.kids.length) → ((k ≠ 0) → InI (o + 1) ∧ (ac.mk k (o + 1)) = r0 ∧ l1v3 = ο ∧ l1v4 = i ∧ μ = q ∧ κ = f ∧ z1v5 = l ∧ ζ = r ∧ η = n ∧ z1v8 = a ∧ l1v9 = e ∧ θ = b ∧ ι = d) ∧ ((k = 0) → (ac.mk k o) = r0 ∧ l1v3 = ο ∧ l1v4 = i ∧ μ = q ∧ κ = f ∧ z1v5 = l ∧ ζ = r ∧ η = n ∧ z1v8 = a ∧ l1v9 = e ∧ θ = b ∧ ι = d))) : L0_typing_checker_list (m + 1) p1 p2 κ μ l1v3 l1v4 z1v5 ζ η z1v8 l1v9 θ ι k o g r0 ο i q f l r n a e b d := by
 intro K j1 hK hj1
 obtain ⟨j1, rfl⟩ : ∃ j, j1 = j + 1 := ⟨j1 - 1, by omega⟩
 refine gR 6 rfl <| gB 14 rfl rfl rfl ?_ ?_ <;> intro hd
 replace hd := (dO hd)
 replace h := h.1 hd
 refine gR 17 rfl ?_
 obtain ⟨v, π, τ, ν, ξ, υ, s, t, φ, y, z, α, hs12, h⟩ := h
 refine gCZ hs12 [0, 1, 2, 5, 6] ⟨⟨_, rfl, ⟨rfl, rfl, (vH _ η).symm⟩⟩, ⟨⟨_, rfl, ⟨rfl, rfl, (vF _ ζ).symm⟩⟩, ⟨⟨_, rfl, ⟨rfl, rfl, rfl, rfl⟩⟩, ⟨⟨_, rfl, ⟨rfl, rfl, rfl, rfl⟩⟩, ⟨⟨_, rfl, ⟨rfl, an.rfl⟩⟩, trivial⟩⟩⟩⟩⟩ ?_
 refine gHR 10 (List.map (V.int .i64) s) rfl (vF _ s) rfl <| gHR 11 (List.map ae.w t) rfl (vH _ t) rfl <| gHn ⟨13, [(11, .row 42 3 (List.map ae.w t)), (10, .row 3 1 (List.map (V.int .i64) s)), (4, vB k o), (3, vB 0 0), (2, .mp 84 81 (List.map (fun p => (fun x => V.agg [(V.int .i64 x.1), (V.int .i64 x.2)]) p.1) ξ) (List.map (fun p => aa.w p.2) ξ)), (1, .mp 137 61 (List.map (fun p => (fun x => V.agg [(V.int .i64 x.1), (V.str x.2)]) p.1) ν) (List.map (fun p => ac.w p.2) ν)), (0, .var 63 [.row 4 (kidsV π), .row 5 (List.map GTarget.w τ), .sl 1, .sl 2, .int .i64 υ, .sl 10, .sl 11, .int .i64 φ, .row 1 (List.map (V.int .i64) y), .int .i64 z, .int .i64 α])]⟩ rfl ⟨rfl, rfl, rfl, rfl, rfl, rfl, rfl, trivial⟩ ?_
 refine gR 12 rfl <| gB 23 rfl rfl rfl ?_ ?_ <;> intro hd
 replace hd := (eq_of_beq hd)
 replace h := h.1 hd
 refine gR 10 rfl ?_
 obtain ⟨b1_13, hs13, h⟩ := h
 refine gC0 hs13 (by kernel_rfl) rfl rfl .rfl rfl <| gR 2 rfl <| gB 27 rfl rfl rfl ?_ ?_ <;> intro hd
 replace h := h.1 hd
 refine gR 5 rfl <| gFR 14 rfl rfl rfl rfl ?_
 obtain ⟨r1_14, r1_15, χ, ψ, n1_18, β, γ, n1_21, r1_22, n1_23, n1_24, hs14, h⟩ := h
 refine gCZ hs14 [0, 1, 2, 10, 11] ⟨⟨_, rfl, ⟨rfl, rfl, (vH _ t).symm⟩⟩, ⟨⟨_, rfl, ⟨rfl, rfl, (vF _ s).symm⟩⟩, ⟨⟨_, rfl, ⟨rfl, rfl, rfl, rfl⟩⟩, ⟨⟨_, rfl, ⟨rfl, rfl, rfl, rfl⟩⟩, ⟨⟨_, rfl, ⟨rfl, an.rfl⟩⟩, trivial⟩⟩⟩⟩⟩ ?_
 refine gHR 18 (List.map (V.int .i64) β) rfl (vF _ β) rfl <| gHR 19 (List.map ae.w γ) rfl (vH _ γ) rfl <| gHn ⟨20, [(19, .row 42 3 (List.map ae.w γ)), (18, .row 3 1 (List.map (V.int .i64) β)), (13, .var 61 (ac.c v)), (4, .var 61 (ac.c v)), (3, vB 0 0), (2, .mp 84 81 (List.map (fun p => (fun x => V.agg [(V.int .i64 x.1), (V.int .i64 x.2)]) p.1) ψ) (List.map (fun p => aa.w p.2) ψ)), (1, .mp 137 61 (List.map (fun p => (fun x => V.agg [(V.int .i64 x.1), (V.str x.2)]) p.1) χ) (List.map (fun p => ac.w p.2) χ)), (0, .var 63 [.row 4 (kidsV r1_14), .row 5 (List.map GTarget.w r1_15), .sl 1, .sl 2, .int .i64 n1_18, .sl 18, .sl 19, .int .i64 n1_21, .row 1 (List.map (V.int .i64) r1_22), .int .i64 n1_23, .int .i64 n1_24])]⟩ rfl ⟨rfl, rfl, rfl, rfl, rfl, rfl, rfl, rfl, trivial⟩ ?_
 refine gR 4 rfl ?_
 obtain ⟨hb, h⟩ := h
 exact gR 1 rfl <| gV 32 (.int .i64 ((g + 1 : Nat) : Int)) rfl (au (by omega) (by omega)) rfl <| gR 2 rfl <| go_xloop <| gJ (h K _ hK (by omega)) [0, 1, 2, 3, 4, 18, 19] [2, 1, 0] rfl hK pq7 ⟨⟨_, rfl, rfl, rfl, (vH _ γ).symm⟩, ⟨_, rfl, rfl, rfl, (vF _ β).symm⟩, pqo rfl rfl, pqo rfl rfl, ⟨_, rfl, rfl, rfl, rfl, rfl⟩, ⟨_, rfl, rfl, rfl, rfl, rfl⟩, (pqo1 rfl rfl)⟩ rfl
 replace h := h.2 hd
 refine gR 5 rfl ?_
 obtain ⟨hb, h⟩ := h
 exact gR 1 rfl <| gV 32 (.int .i64 ((g + 1 : Nat) : Int)) rfl (au (by omega) (by omega)) rfl <| gR 2 rfl <| go_xloop <| gJ (h K _ hK (by omega)) [0, 1, 2, 3, 4, 10, 11] [2, 1, 0] rfl hK pq7 ⟨⟨_, rfl, rfl, rfl, (vH _ t).symm⟩, ⟨_, rfl, rfl, rfl, (vF _ s).symm⟩, pqo rfl rfl, pqo rfl rfl, ⟨_, rfl, rfl, rfl, rfl, rfl⟩, ⟨_, rfl, rfl, rfl, rfl, rfl⟩, (pqo1 rfl rfl)⟩ rfl
 replace hd := (ne_of_beq_false hd)
 replace h := h.2 hd
 refine gR 7 rfl ?_
 obtain ⟨b1_25, hs15, h⟩ := h
 refine gC0 hs15 (by kernel_rfl) rfl rfl .rfl rfl <| gR 2 rfl <| gB 27 rfl rfl rfl ?_ ?_ <;> intro hd
 replace h := h.1 hd
 refine gR 5 rfl <| gFR 14 rfl rfl rfl rfl ?_
 obtain ⟨r1_26, r1_27, ω, r1_29, n1_30, δ, ε, n1_33, r1_34, n1_35, n1_36, hs16, h⟩ := h
 refine gCZ hs16 [0, 1, 2, 10, 11] ⟨⟨_, rfl, ⟨rfl, rfl, (vH _ t).symm⟩⟩, ⟨⟨_, rfl, ⟨rfl, rfl, (vF _ s).symm⟩⟩, ⟨⟨_, rfl, ⟨rfl, rfl, rfl, rfl⟩⟩, ⟨⟨_, rfl, ⟨rfl, rfl, rfl, rfl⟩⟩, ⟨⟨_, rfl, ⟨rfl, an.rfl⟩⟩, trivial⟩⟩⟩⟩⟩ ?_
 refine gHR 18 (List.map (V.int .i64) δ) rfl (vF _ δ) rfl <| gHR 19 (List.map ae.w ε) rfl (vH _ ε) rfl <| gHn ⟨20, [(19, .row 42 3 (List.map ae.w ε)), (18, .row 3 1 (List.map (V.int .i64) δ)), (13, .var 61 (ac.c v)), (4, vB k o), (3, vB 0 0), (2, .mp 84 81 (List.map (fun p => (fun x => V.agg [(V.int .i64 x.1), (V.int .i64 x.2)]) p.1) r1_29) (List.map (fun p => aa.w p.2) r1_29)), (1, .mp 137 61 (List.map (fun p => (fun x => V.agg [(V.int .i64 x.1), (V.str x.2)]) p.1) ω) (List.map (fun p => ac.w p.2) ω)), (0, .var 63 [.row 4 (kidsV r1_26), .row 5 (List.map GTarget.w r1_27), .sl 1, .sl 2, .int .i64 n1_30, .sl 18, .sl 19, .int .i64 n1_33, .row 1 (List.map (V.int .i64) r1_34), .int .i64 n1_35, .int .i64 n1_36])]⟩ rfl ⟨rfl, rfl, rfl, rfl, rfl, rfl, rfl, rfl, trivial⟩ ?_
 refine gR 4 rfl ?_
 obtain ⟨hb, h⟩ := h
 exact gR 1 rfl <| gV 32 (.int .i64 ((g + 1 : Nat) : Int)) rfl (au (by omega) (by omega)) rfl <| gR 2 rfl <| go_xloop <| gJ (h K _ hK (by omega)) [0, 1, 2, 3, 4, 18, 19] [2, 1, 0] rfl hK pq7 ⟨⟨_, rfl, rfl, rfl, (vH _ ε).symm⟩, ⟨_, rfl, rfl, rfl, (vF _ δ).symm⟩, pqo rfl rfl, pqo rfl rfl, ⟨_, rfl, rfl, rfl, rfl, rfl⟩, ⟨_, rfl, rfl, rfl, rfl, rfl⟩, (pqo1 rfl rfl)⟩ rfl
 replace h := h.2 hd
 refine gR 5 rfl ?_
 obtain ⟨hb, h⟩ := h
 exact gR 1 rfl <| gV 32 (.int .i64 ((g + 1 : Nat) : Int)) rfl (au (by omega) (by omega)) rfl <| gR 2 rfl <| go_xloop <| gJ (h K _ hK (by omega)) [0, 1, 2, 3, 4, 10, 11] [2, 1, 0] rfl hK pq7 ⟨⟨_, rfl, rfl, rfl, (vH _ t).symm⟩, ⟨_, rfl, rfl, rfl, (vF _ s).symm⟩, pqo rfl rfl, pqo rfl rfl, ⟨_, rfl, rfl, rfl, rfl, rfl⟩, ⟨_, rfl, rfl, rfl, rfl, rfl⟩, (pqo1 rfl rfl)⟩ rfl
 replace hd := (dQ hd)
 replace h := h.2 hd
 refine gR 3 rfl <| go_xloopE <| gR 10 rfl <| gB 35 rfl rfl rfl ?_ ?_ <;> intro hd
 replace hd := (ec hd)
 replace h := h.1 hd
 refine gR 4 rfl ?_
 obtain ⟨hb, h⟩ := h
 refine gR 1 rfl <| gV 38 (.int .i64 (o + 1)) rfl (au hb rfl) rfl <| gR 11 rfl ?_
 obtain ⟨rfl, rfl, rfl, rfl, rfl, rfl, rfl, rfl, rfl, rfl, rfl, rfl⟩ := h
 refine go_sub (F' := (mkF 41 0 [(6, .ptr 5 0)])) (H' := ⟨6, [(5, .var 61 (ac.c (ac.mk k (o + 1)))), (4, .row 42 3 (List.map ae.w η)), (3, .row 3 1 (List.map (V.int .i64) ζ)), (2, .mp 84 81 (List.map (fun p => (fun x => V.agg [(V.int .i64 x.1), (V.int .i64 x.2)]) p.1) κ) (List.map (fun p => aa.w p.2) κ)), (1, .mp 137 61 (List.map (fun p => (fun x => V.agg [(V.int .i64 x.1), (V.str x.2)]) p.1) μ) (List.map (fun p => ac.w p.2) μ)), (0, vA l1v3 (.row 5 (List.map GTarget.w l1v4)) z1v5 z1v8 l1v9 θ ι)]⟩) [0, 1, 2, 5, 6, 3] [2, 1, 0] rfl hK pq1 ⟨pqo rfl rfl, ⟨_, rfl, rfl, rfl, (vH _ η).symm⟩, ⟨_, rfl, rfl, rfl, (vF _ ζ).symm⟩, ⟨_, rfl, rfl, rfl, rfl, rfl⟩, ⟨_, rfl, rfl, rfl, rfl, rfl⟩, (pqo1 rfl rfl)⟩ rfl ?_
 exact go_endD [5] ah (rs := [.cell 6 61]) rfl rfl ⟨rfl, rfl⟩
 replace hd := (cP hd)
 replace h := h.2 hd
 refine gR 10 rfl ?_
 obtain ⟨rfl, rfl, rfl, rfl, rfl, rfl, rfl, rfl, rfl, rfl, rfl, rfl⟩ := h
 refine go_sub (F' := (mkF 41 0 [(6, .ptr 5 0)])) (H' := ⟨6, [(5, .var 61 (ac.c (ac.mk k o))), (4, .row 42 3 (List.map ae.w η)), (3, .row 3 1 (List.map (V.int .i64) ζ)), (2, .mp 84 81 (List.map (fun p => (fun x => V.agg [(V.int .i64 x.1), (V.int .i64 x.2)]) p.1) κ) (List.map (fun p => aa.w p.2) κ)), (1, .mp 137 61 (List.map (fun p => (fun x => V.agg [(V.int .i64 x.1), (V.str x.2)]) p.1) μ) (List.map (fun p => ac.w p.2) μ)), (0, vA l1v3 (.row 5 (List.map GTarget.w l1v4)) z1v5 z1v8 l1v9 θ ι)]⟩) [0, 1, 2, 5, 6, 3] [2, 1, 0] rfl hK pq1 ⟨pqo rfl rfl, ⟨_, rfl, rfl, rfl, (vH _ η).symm⟩, ⟨_, rfl, rfl, rfl, (vF _ ζ).symm⟩, ⟨_, rfl, rfl, rfl, rfl, rfl⟩, ⟨_, rfl, rfl, rfl, rfl, rfl⟩, (pqo1 rfl rfl)⟩ rfl ?_
 exact go_endD [5] ah (rs := [.cell 6 61]) rfl rfl ⟨rfl, rfl⟩
end Go.Proofs.YtkkkpdbnnjoepaaGreatDoor
