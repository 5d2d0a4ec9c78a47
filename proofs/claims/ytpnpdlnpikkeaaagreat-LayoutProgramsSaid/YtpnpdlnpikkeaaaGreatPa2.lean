/- Contracts of the functions that the law reaches, part 2. -/
import Derived.Test.YtpnpdlnpikkeaaaGreatPa1
set_option linter.unusedVariables false
set_option linter.unusedSimpArgs false
namespace Go.Proofs.YtpnpdlnpikkeaaaGreat
open Go.RowKit
inductive V where
 | int (k : IntKind) (n : Int)
 | bool (b : Bool)
 | str (l : List UInt8)
 | nilp
 | nils
 | raw (x : Value)
 | ptr (id off : Nat)
 | el (id sz i off : Nat)
 | sl (id : Nat)
 | box (cs : List V) (off : Nat)
 | row (sz : Nat) (els : List V)
 | agg (cs : List V)
 | tup (vs : List V)
 | clo (fid : FuncId) (cs : List V)
 | lk (els : List (List V))
inductive Ob where
 | free
 | gone
 | var (t : TypeId) (cs : List V)
 | row (e : TypeId) (sz : Nat) (els : List V)
 | ext (bs : List Nat) (Φ : World → Prop)
 | mp (kt et : TypeId) (ks vs : List V)
def Value.blk : Value → Option Nat
 | .pointer (some a) => some a.block
 | _ => none
abbrev ρ0 : Nat → Option Value := fun _ => none
section
variable (S : Nat → Prop) (w : World)
mutual
def VRel (ρ : Nat → Option Value) : V → Value → Prop
 | .int k n, x => x = .int k n
 | .bool b, x => x = .bool b
 | .str l, x => x = .string ⟨l.toArray⟩
 | .nilp, x => x = .pointer none
 | .nils, x => x = .slice none 0 0
 | .raw y, x => x = y ∧ y.oneCell' = true
 | .ptr id o, x => ∃ b, ρ id = some (.pointer (some ⟨b, 0, none⟩)) ∧ x = .pointer (some ⟨b, o, none⟩)
 | .el id sz i o, x => ∃ b n c, ρ id = some (.slice (some ⟨b, 0, none⟩) n c) ∧ x = .pointer (some ⟨b, i * sz + o, none⟩)
 | .sl id, x => ρ id = some x ∧ x.oneCell' = true
 | .box cs o, x => ∃ b off xs, x = .pointer (some ⟨b, off + o, none⟩) ∧ S b ∧ b < w.heap.size ∧ LRel ρ0 cs xs ∧ ∀ j, j < xs.length → w.cell? ⟨b, off + j, none⟩ = xs[j]?
 | .row sz els, x => ∃ A c xs, x = .slice A els.length c ∧ els.length ≤ c ∧ c ≤ maxLen ∧ CRel ρ0 sz els xs ∧ RowIn S w sz A els.length xs
 | .agg cs, x => ∃ xs, x = .agg xs.toArray ∧ LRel ρ cs xs
 | .tup cs, x => ∃ xs, x = .tuple xs.toArray ∧ LRel ρ cs xs
 | .clo fid cs, x => ∃ xs, x = .func (.func fid) #[] xs.toArray ∧ LRel ρ cs xs
 | .lk els, x => KRel els x
def LRel (ρ : Nat → Option Value) : List V → List Value → Prop
 | [], xs => xs = []
 | v :: r, xs => ∃ x ys, xs = x :: ys ∧ VRel ρ v x ∧ LRel ρ r ys
def KRel : List (List V) → Value → Prop
 | [], x => x = .pointer none
 | cs :: r, x => ∃ b off xs y, x = .pointer (some ⟨b, off, none⟩) ∧ S b ∧ b < w.heap.size ∧ LRel ρ0 cs xs ∧ KRel r y ∧ y.oneCell' = true ∧ ∀ j, j < xs.length + 1 → w.cell? ⟨b, off + j, none⟩ = (xs ++ [y])[j]?
def CRel (ρ : Nat → Option Value) (sz : Nat) : List V → List Value → Prop
 | [], xs => xs = []
 | v :: r, xs => ∃ x ys, xs = x.cells.toList ++ ys ∧ (x.cells.size = sz ∧ x.cells.toList.all (·.oneCell') = true) ∧ VRel ρ v x ∧ CRel ρ sz r ys
end
end
structure Up (S S' : Nat → Prop) (w w' : World) (ρ ρ' : Nat → Option Value) : Prop where
 s : ∀ b, S b → S' b
 blk : ∀ b, S b → b < w.heap.size → w'.heap[b]? = w.heap[b]?
 r : ∀ i x, ρ i = some x → ρ' i = some x
section
variable {S S' : Nat → Prop} {w w' : World}
section
variable {ρ ρ' : Nat → Option Value}
theorem Up.refl : Up S S w w ρ ρ := ⟨fun _ h => h, fun _ _ _ => rfl, fun _ _ h => h⟩
theorem Up.lt (u : Up S S' w w' ρ ρ') {b : Nat} (hs : S b) (hb : b < w.heap.size) : b < w'.heap.size := by
 have hh := u.blk b hs hb
 rcases Nat.lt_or_ge b w'.heap.size with h1 | h1
 ·exact h1
 ·rw [Array.getElem?_eq_none h1, Array.getElem?_eq_getElem hb] at hh; cases hh
theorem Up.cell (u : Up S S' w w' ρ ρ') {b i : Nat} (hs : S b) (hb : b < w.heap.size) : w'.cell? ⟨b, i, none⟩ = w.cell? ⟨b, i, none⟩ :=
 World.cell?_of_block (a := ⟨b, i, none⟩) (u.blk b hs hb)
end
theorem Up.z {ρ ρ' : Nat → Option Value} (u : Up S S' w w' ρ ρ') : Up S S' w w' ρ0 ρ0 := ⟨u.s, u.blk, fun _ _ h => h⟩
mutual
theorem VRel.up {ρ ρ' : Nat → Option Value} (u : Up S S' w w' ρ ρ') : ∀ {v : V} {x : Value}, VRel S w ρ v x → VRel S' w' ρ' v x
 | .int _ _, x, h => by simp only [VRel] at h ⊢; exact h
 | .bool _, x, h => by simp only [VRel] at h ⊢; exact h
 | .str _, x, h => by simp only [VRel] at h ⊢; exact h
 | .nilp, x, h => by simp only [VRel] at h ⊢; exact h
 | .nils, x, h => by simp only [VRel] at h ⊢; exact h
 | .raw _, x, h => by simp only [VRel] at h ⊢; exact h
 | .ptr id o, x, h => by
  simp only [VRel] at h ⊢
  obtain ⟨b, h1, h2⟩ := h
  exact ⟨b, u.r _ _ h1, h2⟩
 | .el id sz i o, x, h => by
  simp only [VRel] at h ⊢
  obtain ⟨b, n, c, h1, h2⟩ := h
  exact ⟨b, n, c, u.r _ _ h1, h2⟩
 | .sl id, x, h => by simp only [VRel] at h ⊢; exact ⟨u.r _ _ h.1, h.2⟩
 | .box cs o, x, h => by
  simp only [VRel] at h ⊢
  obtain ⟨b, off, xs, h1, h2, h3, h4, h5⟩ := h
  exact ⟨b, off, xs, h1, u.s b h2, u.lt h2 h3, LRel.up u.z h4, fun j hj => (u.cell h2 h3).trans (h5 j hj)⟩
 | .row sz els, x, h => by
  simp only [VRel] at h ⊢
  obtain ⟨A, c, xs, h1, h2, h3, h4, h5⟩ := h
  exact ⟨A, c, xs, h1, h2, h3, CRel.up u.z h4, h5.keep u.s u.blk⟩
 | .agg cs, x, h => by
  simp only [VRel] at h ⊢
  obtain ⟨xs, h1, h2⟩ := h
  exact ⟨xs, h1, LRel.up u h2⟩
 | .tup cs, x, h => by
  simp only [VRel] at h ⊢
  obtain ⟨xs, h1, h2⟩ := h
  exact ⟨xs, h1, LRel.up u h2⟩
 | .clo fid cs, x, h => by
  simp only [VRel] at h ⊢
  obtain ⟨xs, h1, h2⟩ := h
  exact ⟨xs, h1, LRel.up u h2⟩
 | .lk els, x, h => by
  simp only [VRel] at h ⊢
  exact KRel.up u h
theorem KRel.up {ρ ρ' : Nat → Option Value} (u : Up S S' w w' ρ ρ') : ∀ {els : List (List V)} {x : Value}, KRel S w els x → KRel S' w' els x
 | [], x, h => by simp only [KRel] at h ⊢; exact h
 | cs :: r, x, h => by
  simp only [KRel] at h ⊢
  obtain ⟨b, off, xs, y, h1, h2, h3, h4, h5, h6, h7⟩ := h
  exact ⟨b, off, xs, y, h1, u.s b h2, u.lt h2 h3, LRel.up u.z h4, KRel.up u h5, h6, fun j hj => (u.cell h2 h3).trans (h7 j hj)⟩
theorem LRel.up {ρ ρ' : Nat → Option Value} (u : Up S S' w w' ρ ρ') : ∀ {v : List V} {x : List Value}, LRel S w ρ v x → LRel S' w' ρ' v x
 | [], x, h => by simp only [LRel] at h ⊢; exact h
 | v :: r, x, h => by
  simp only [LRel] at h ⊢
  obtain ⟨y, ys, h1, h2, h3⟩ := h
  exact ⟨y, ys, h1, VRel.up u h2, LRel.up u h3⟩
theorem CRel.up {ρ ρ' : Nat → Option Value} (u : Up S S' w w' ρ ρ') {sz : Nat} : ∀ {v : List V} {x : List Value}, CRel S w ρ sz v x → CRel S' w' ρ' sz v x
 | [], x, h => by simp only [CRel] at h ⊢; exact h
 | v :: r, x, h => by
  simp only [CRel] at h ⊢
  obtain ⟨y, ys, h1, h2, h3, h4⟩ := h
  exact ⟨y, ys, h1, h2, VRel.up u h3, CRel.up u h4⟩
end
end
section
variable (S : Nat → Prop) (w : World) (ρ : Nat → Option Value)
def own (id : Nat) : Ob → Nat → Prop
 | .free, _ => False
 | .gone, _ => False
 | .var _ _, b => ρ id = some (.pointer (some ⟨b, 0, none⟩))
 | .row _ _ _, b => ∃ v, ρ id = some v ∧ v.ownBlock = some b
 | .ext bs _, b => b ∈ bs
 | .mp _ _ _ _, b => ρ id = some (.map (some b))
def gW (id : Nat) : Ob → Prop
 | .free => ρ id = none
 | .gone => True
 | .var t cs => ∃ b xs, ρ id = some (.pointer (some ⟨b, 0, none⟩)) ∧ Blk w b t xs ∧ LRel S w ρ cs xs
 | .row e sz els => ∃ v xs, ρ id = some v ∧ w.ownsRow 0 e sz v els.length xs ∧ CRel S w ρ sz els xs
 | .ext bs Φ => Φ w ∧ (∀ b, b ∈ bs → b < w.heap.size) ∧ ∀ w', (∀ b, b ∈ bs → w'.heap[b]? = w.heap[b]?) → Φ w'
 | .mp _ _ ks vs => ∃ b es clock, ρ id = some (.map (some b)) ∧ w.heap[b]? = some (.map es clock) ∧ LRel S w ρ0 ks (es.toList.map (·.key)) ∧ LRel S w ρ0 vs (es.toList.map (·.val))
structure HRel (h : Nat → Ob) : Prop where
 ob : ∀ id, gW S w ρ id (h id)
 sep : ∀ id b, own ρ id (h id) b → ¬ S b
 dis : ∀ i j b, own ρ i (h i) b → own ρ j (h j) b → i = j
 slt : ∀ b, S b → b < w.heap.size
end
section
variable {S S' : Nat → Prop} {w w' : World} {ρ ρ' : Nat → Option Value} {h h' : Nat → Ob}
theorem vK {base e sz n : Nat} {v : Value} {xs : List Value} (ho : w.ownsRow base e sz v n xs) (hk : ∀ b, v.ownBlock = some b → w'.heap[b]? = w.heap[b]?) : w'.ownsRow base e sz v n xs := by
 refine ⟨ho.1, ?_⟩
 rcases ho.2 with h0 | ⟨g, cap, cur, rfl, hb, hg, h4⟩
 ·exact .inl h0
 ·exact .inr ⟨g, cap, cur, rfl, hb, (hk g rfl).trans hg, h4⟩
theorem fd {id : Nat} {o : Ob} {b : Nat} (ho : gW S w ρ id o) (hb : own ρ id o b) : b < w.heap.size := by
 cases o with
 | free => exact hb.elim
 | gone => exact hb.elim
 | var t cs =>
  obtain ⟨b', xs, h1, h2, _⟩ := ho
  simp only [own] at hb
  rw [h1] at hb
  simp only [Option.some.injEq, Value.pointer.injEq, Addr.mk.injEq, and_true] at hb
  subst hb; exact h2.lt
 | row e sz els =>
  obtain ⟨v, xs, h1, h2, _⟩ := ho
  obtain ⟨v', h3, h4⟩ := hb
  rw [h1] at h3
  simp only [Option.some.injEq] at h3
  subst h3
  exact (h2.lt b h4).2
 | ext bs Φ => exact ho.2.1 b hb
 | mp kt et ks vs =>
  obtain ⟨b', es, ck, h1, h2, _⟩ := ho
  simp only [own] at hb
  rw [h1] at hb
  simp only [Option.some.injEq, Value.map.injEq] at hb
  subst hb
  rcases Nat.lt_or_ge b' w.heap.size with h3 | h3
  ·exact h3
  ·rw [Array.getElem?_eq_none h3] at h2; cases h2
theorem gW.up {id : Nat} {o : Ob} (u : Up S S' w w' ρ ρ') (hf : o = .free → ρ' id = none) (ho : gW S w ρ id o) (hk : ∀ b, own ρ id o b → w'.heap[b]? = w.heap[b]?) : gW S' w' ρ' id o := by
 cases o with
 | free => exact hf rfl
 | gone => trivial
 | var t cs =>
  obtain ⟨b', xs, h1, h2, h3⟩ := ho
  exact ⟨b', xs, u.r _ _ h1, (hk b' h1).trans h2, LRel.up u h3⟩
 | row e sz els =>
  obtain ⟨v, xs, h1, h2, h3⟩ := ho
  exact ⟨v, xs, u.r _ _ h1, vK h2 (fun b hb => hk b ⟨v, h1, hb⟩), CRel.up u h3⟩
 | mp kt et ks vs =>
  obtain ⟨b', es, ck, h1, h2, h3, h4⟩ := ho
  exact ⟨b', es, ck, u.r _ _ h1, (hk b' h1).trans h2, LRel.up u.z h3, LRel.up u.z h4⟩
 | ext bs Φ =>
  obtain ⟨h1, h2, h3⟩ := ho
  refine ⟨h3 _ hk, fun b hb => ?_, fun w'' h' => h3 w'' (fun b hb => (h' b hb).trans (hk b hb))⟩
  have hh := hk b hb
  rcases Nat.lt_or_ge b w'.heap.size with h4 | h4
  ·exact h4
  ·rw [Array.getElem?_eq_none h4, Array.getElem?_eq_getElem (h2 b hb)] at hh; cases hh
theorem Ax {id : Nat} {o : Ob} {b : Nat} (hr : ∀ i x, ρ i = some x → ρ' i = some x) (ho : gW S w ρ id o) (hb : own ρ' id o b) : own ρ id o b := by
 cases o with
 | free => exact hb
 | gone => exact hb
 | var t cs =>
  obtain ⟨b', xs, h1, h2, h3⟩ := ho
  have := hr _ _ h1
  simp only [own] at hb ⊢
  rw [this] at hb; rw [h1]; exact hb
 | row e sz els =>
  obtain ⟨v, xs, h1, h2, h3⟩ := ho
  obtain ⟨v', h4, h5⟩ := hb
  rw [hr _ _ h1] at h4
  simp only [Option.some.injEq] at h4
  subst h4
  exact ⟨v, h1, h5⟩
 | ext bs Φ => exact hb
 | mp kt et ks vs =>
  obtain ⟨b', es, ck, h1, h2, h3⟩ := ho
  have := hr _ _ h1
  simp only [own] at hb ⊢
  rw [this] at hb; rw [h1]; exact hb
theorem LRel.length : ∀ {vs : List V} {xs : List Value}, LRel S w ρ vs xs → xs.length = vs.length
 | [], xs, h => by simp only [LRel] at h; simp [h]
 | v :: r, xs, h => by
  simp only [LRel] at h
  obtain ⟨x, ys, rfl, _, h3⟩ := h
  simp [LRel.length h3]
theorem LRel.get : ∀ {vs : List V} {xs : List Value} {i : Nat} {v : V}, LRel S w ρ vs xs → vs[i]? = some v → ∃ x, xs[i]? = some x ∧ VRel S w ρ v x
 | [], xs, i, v, h, hi => by simp at hi
 | u :: r, xs, 0, v, h, hi => by
  simp only [LRel] at h
  obtain ⟨x, ys, rfl, h2, h3⟩ := h
  simp only [List.getElem?_cons_zero, Option.some.injEq] at hi
  subst hi
  exact ⟨x, by simp, h2⟩
 | u :: r, xs, i + 1, v, h, hi => by
  simp only [LRel] at h
  obtain ⟨x, ys, rfl, h2, h3⟩ := h
  simp only [List.getElem?_cons_succ] at hi ⊢
  exact LRel.get h3 hi
theorem LRel.set : ∀ {vs : List V} {xs : List Value} {i : Nat} {v : V} {x : Value}, LRel S w ρ vs xs → VRel S w ρ v x → LRel S w ρ (vs.set i v) (xs.set i x)
 | [], xs, i, v, x, h, hx => by simp only [LRel] at h; subst h; simp [LRel]
 | u :: r, xs, 0, v, x, h, hx => by
  simp only [LRel] at h
  obtain ⟨y, ys, rfl, h2, h3⟩ := h
  exact ⟨x, ys, by simp, hx, h3⟩
 | u :: r, xs, i + 1, v, x, h, hx => by
  simp only [LRel] at h
  obtain ⟨y, ys, rfl, h2, h3⟩ := h
  exact ⟨y, ys.set i x, by simp, h2, LRel.set h3 hx⟩
theorem LRel.append : ∀ {vs us : List V} {xs ys : List Value}, LRel S w ρ vs xs → LRel S w ρ us ys → LRel S w ρ (vs ++ us) (xs ++ ys)
 | [], us, xs, ys, h, hu => by simp only [LRel] at h; subst h; simpa using hu
 | v :: r, us, xs, ys, h, hu => by
  simp only [LRel] at h
  obtain ⟨y, zs, rfl, h2, h3⟩ := h
  exact ⟨y, zs ++ ys, by simp, h2, LRel.append h3 hu⟩
theorem LRel.drop : ∀ {vs : List V} {xs : List Value} (n : Nat), LRel S w ρ vs xs → LRel S w ρ (vs.drop n) (xs.drop n)
 | vs, xs, 0, h => by simpa using h
 | [], xs, n + 1, h => by simp only [LRel] at h; subst h; simp [LRel]
 | v :: r, xs, n + 1, h => by
  simp only [LRel] at h
  obtain ⟨y, zs, rfl, h2, h3⟩ := h
  simpa using LRel.drop n h3
theorem LRel.take : ∀ {vs : List V} {xs : List Value} (n : Nat), LRel S w ρ vs xs → LRel S w ρ (vs.take n) (xs.take n)
 | vs, xs, 0, h => by simp [LRel]
 | [], xs, n + 1, h => by simp only [LRel] at h; subst h; simp [LRel]
 | v :: r, xs, n + 1, h => by
  simp only [LRel] at h
  obtain ⟨y, zs, rfl, h2, h3⟩ := h
  exact ⟨y, zs.take n, by simp, h2, LRel.take n h3⟩
theorem CRel.length {sz : Nat} : ∀ {vs : List V} {xs : List Value}, CRel S w ρ sz vs xs → xs.length = vs.length * sz
 | [], xs, h => by simp only [CRel] at h; simp [h]
 | v :: r, xs, h => by
  simp only [CRel] at h
  obtain ⟨x, ys, rfl, ⟨h2, _⟩, h3, h4⟩ := h
  have := CRel.length h4
  simp [this, h2, Nat.add_mul]; omega
theorem CRel.get {sz : Nat} : ∀ {vs : List V} {xs : List Value} {i : Nat} {v : V}, CRel S w ρ sz vs xs → vs[i]? = some v → ∃ x, VRel S w ρ v x ∧ x.cells.size = sz ∧ ∀ j, j < sz → xs[i * sz + j]? = x.cells.toList[j]?
 | [], xs, i, v, h, hi => by simp at hi
 | u :: r, xs, 0, v, h, hi => by
  simp only [CRel] at h
  obtain ⟨x, ys, rfl, ⟨h2, _⟩, h3, h4⟩ := h
  simp only [List.getElem?_cons_zero, Option.some.injEq] at hi
  subst hi
  exact ⟨x, h3, h2, fun j hj => by rw [List.getElem?_append_left (by simp; omega)]; simp⟩
 | u :: r, xs, i + 1, v, h, hi => by
  simp only [CRel] at h
  obtain ⟨x, ys, rfl, ⟨h2, _⟩, h3, h4⟩ := h
  simp only [List.getElem?_cons_succ] at hi
  obtain ⟨y, g1, g2, g3⟩ := CRel.get h4 hi
  refine ⟨y, g1, g2, fun j hj => ?_⟩
  rw [List.getElem?_append_right (by simp [h2, Nat.add_mul]; omega), ← g3 j hj]
  congr 1
  simp [h2, Nat.add_mul]; omega
theorem CRel.append {sz : Nat} : ∀ {vs us : List V} {xs ys : List Value}, CRel S w ρ sz vs xs → CRel S w ρ sz us ys → CRel S w ρ sz (vs ++ us) (xs ++ ys)
 | [], us, xs, ys, h, hu => by simp only [CRel] at h; subst h; simpa using hu
 | v :: r, us, xs, ys, h, hu => by
  simp only [CRel] at h
  obtain ⟨y, zs, rfl, h2, h3, h4⟩ := h
  exact ⟨y, zs ++ ys, by simp, h2, h3, CRel.append h4 hu⟩
theorem CRel.drop {sz : Nat} : ∀ {vs : List V} {xs : List Value} (n : Nat), CRel S w ρ sz vs xs → CRel S w ρ sz (vs.drop n) (xs.drop (n * sz))
 | vs, xs, 0, h => by simpa using h
 | [], xs, n + 1, h => by simp only [CRel] at h; subst h; simp [CRel]
 | v :: r, xs, n + 1, h => by
  simp only [CRel] at h
  obtain ⟨y, zs, rfl, ⟨h2, _⟩, h3, h4⟩ := h
  have := CRel.drop n h4
  have e : (y.cells.toList ++ zs).drop ((n + 1) * sz) = zs.drop (n * sz) := by
   rw [List.drop_append, List.drop_of_length_le (by simp [h2, Nat.add_mul])]
   simp [h2, Nat.add_mul]
  rw [e]; simpa using this
theorem CRel.take {sz : Nat} : ∀ {vs : List V} {xs : List Value} (n : Nat), CRel S w ρ sz vs xs → CRel S w ρ sz (vs.take n) (xs.take (n * sz))
 | vs, xs, 0, h => by simp [CRel]
 | [], xs, n + 1, h => by simp only [CRel] at h; subst h; simp [CRel]
 | v :: r, xs, n + 1, h => by
  simp only [CRel] at h
  obtain ⟨y, zs, rfl, ⟨h2, h1⟩, h3, h4⟩ := h
  have := CRel.take n h4
  have e : (y.cells.toList ++ zs).take ((n + 1) * sz) = y.cells.toList ++ zs.take (n * sz) := by
   rw [List.take_append, List.take_of_length_le (by simp [h2, Nat.add_mul])]
   congr 2
   simp [h2, Nat.add_mul]
  rw [e]
  exact ⟨y, _, rfl, ⟨h2, h1⟩, h3, this⟩
theorem CRel.ones {sz : Nat} : ∀ {vs : List V} {xs : List Value}, CRel S w ρ sz vs xs → ∀ u ∈ xs, u.oneCell' = true
 | [], xs, h => by simp only [CRel] at h; subst h; simp
 | v :: r, xs, h => by
  simp only [CRel] at h
  obtain ⟨x, ys, rfl, ⟨h2, h1⟩, h3, h4⟩ := h
  intro u hu
  rcases List.mem_append.1 hu with h | h
  ·exact List.all_eq_true.1 h1 u h
  ·exact CRel.ones h4 u h
def V.one : V → Bool
 | .agg _ => false
 | .tup _ => false
 | _ => true
theorem VRel.one {v : V} {x : Value} (hv : VRel S w ρ v x) (h1 : v.one = true) : x.oneCell' = true := by
 cases v with
 | int _ _ => simp only [VRel] at hv; subst hv; rfl
 | bool _ => simp only [VRel] at hv; subst hv; rfl
 | str _ => simp only [VRel] at hv; subst hv; rfl
 | nilp => simp only [VRel] at hv; subst hv; rfl
 | nils => simp only [VRel] at hv; subst hv; rfl
 | raw y => simp only [VRel] at hv; obtain ⟨rfl, h⟩ := hv; exact h
 | ptr id o => simp only [VRel] at hv; obtain ⟨b, _, rfl⟩ := hv; rfl
 | el id sz i o => simp only [VRel] at hv; obtain ⟨b, n, c, _, rfl⟩ := hv; rfl
 | sl id => simp only [VRel] at hv; exact hv.2
 | box cs o => simp only [VRel] at hv; obtain ⟨b, off, xs, rfl, _⟩ := hv; rfl
 | row sz els => simp only [VRel] at hv; obtain ⟨A, c, xs, rfl, _⟩ := hv; rfl
 | agg cs => cases h1
 | tup cs => cases h1
 | clo fid cs => simp only [VRel] at hv; obtain ⟨xs, rfl, _⟩ := hv; rfl
 | lk els =>
  simp only [VRel] at hv
  cases els with
  | nil => simp only [KRel] at hv; subst hv; rfl
  | cons c r => simp only [KRel] at hv; obtain ⟨b, off, xs, y, rfl, _⟩ := hv; rfl
theorem up0 : Up S S w w ρ0 ρ := ⟨fun _ h => h, fun _ _ _ => rfl, fun _ _ h => by cases h⟩
def V.cells : V → List V
 | .agg cs => cs
 | v => [v]
theorem VRel.cells {v : V} {x : Value} (hv : VRel S w ρ v x) : LRel S w ρ v.cells x.cells.toList := by
 have one : ∀ {u : V}, u.cells = [u] → VRel S w ρ u x → x.cells = #[x] → LRel S w ρ u.cells x.cells.toList := fun h1 h2 h3 => by rw [h1, h3]; exact ⟨x, [], rfl, h2, rfl⟩
 cases v with
 | agg cs =>
  simp only [VRel] at hv
  obtain ⟨xs, rfl, h⟩ := hv
  exact h
 | tup cs =>
  refine one rfl hv ?_
  simp only [VRel] at hv
  obtain ⟨xs, rfl, h⟩ := hv
  rfl
 | _ => exact one rfl hv (uc (hv.one rfl))
end
mutual
def V.pure : V → Bool
 | .ptr _ _ => false
 | .el _ _ _ _ => false
 | .sl _ => false
 | .agg cs => pureL cs
 | .tup cs => pureL cs
 | .clo _ cs => pureL cs
 | .int _ _ => true
 | .bool _ => true
 | .str _ => true
 | .nilp => true
 | .nils => true
 | .raw _ => true
 | .box _ _ => true
 | .row _ _ => true
 | .lk _ => true
def pureL : List V → Bool
 | [] => true
 |v :: r => match v.pure with
  | true => pureL r
  | false => false
end
section
variable {S : Nat → Prop} {w : World} {ρ ρ' : Nat → Option Value}
theorem te {v : V} {r : List V} (h : pureL (v :: r) = true) : v.pure = true ∧ pureL r = true := by
 simp only [pureL] at h
 split at h
 ·exact ⟨‹_›, h⟩
 ·cases h
mutual
theorem VRel.pure : ∀ {v : V} {x : Value}, v.pure = true → VRel S w ρ v x → VRel S w ρ' v x
 | .int _ _, x, _, h => by simp only [VRel] at h ⊢; exact h
 | .bool _, x, _, h => by simp only [VRel] at h ⊢; exact h
 | .str _, x, _, h => by simp only [VRel] at h ⊢; exact h
 | .nilp, x, _, h => by simp only [VRel] at h ⊢; exact h
 | .nils, x, _, h => by simp only [VRel] at h ⊢; exact h
 | .raw _, x, _, h => by simp only [VRel] at h ⊢; exact h
 | .ptr id o, x, hp, h => by cases hp
 | .el id sz i o, x, hp, h => by cases hp
 | .sl id, x, hp, h => by cases hp
 | .box cs o, x, _, h => by simp only [VRel] at h ⊢; exact h
 | .row sz els, x, _, h => by simp only [VRel] at h ⊢; exact h
 | .agg cs, x, hp, h => by
  simp only [VRel] at h ⊢
  obtain ⟨xs, h1, h2⟩ := h
  exact ⟨xs, h1, LRel.pure (by simpa only [V.pure] using hp) h2⟩
 | .tup cs, x, hp, h => by
  simp only [VRel] at h ⊢
  obtain ⟨xs, h1, h2⟩ := h
  exact ⟨xs, h1, LRel.pure (by simpa only [V.pure] using hp) h2⟩
 | .lk _, x, _, h => by simp only [VRel] at h ⊢; exact h
 | .clo fid cs, x, hp, h => by
  simp only [VRel] at h ⊢
  obtain ⟨xs, h1, h2⟩ := h
  exact ⟨xs, h1, LRel.pure (by simpa only [V.pure] using hp) h2⟩
theorem LRel.pure : ∀ {v : List V} {x : List Value}, pureL v = true → LRel S w ρ v x → LRel S w ρ' v x
 | [], x, _, h => by simp only [LRel] at h ⊢; exact h
 | v :: r, x, hp, h => by
  simp only [LRel] at h ⊢
  obtain ⟨y, ys, h1, h2, h3⟩ := h
  have hp' := te hp
  exact ⟨y, ys, h1, VRel.pure hp'.1 h2, LRel.pure hp'.2 h3⟩
end
theorem CRel.pure {sz : Nat} : ∀ {v : List V} {x : List Value}, pureL v = true → CRel S w ρ sz v x → CRel S w ρ' sz v x
 | [], x, _, h => by simp only [CRel] at h ⊢; exact h
 | v :: r, x, hp, h => by
  simp only [CRel] at h ⊢
  obtain ⟨y, ys, h1, h2, h3, h4⟩ := h
  have hp' := te hp
  exact ⟨y, ys, h1, h2, VRel.pure hp'.1 h3, CRel.pure hp'.2 h4⟩
end
end Go.Proofs.YtpnpdlnpikkeaaaGreat
namespace Go.Proofs.YtpnpdlnpikkeaaaGreat
open Go.RowKit
theorem ur (l : List UInt8) (a b : Nat) : (ByteArray.mk l.toArray).extract a b = ⟨((l.drop a).take (b - a)).toArray⟩ := Lx.pM l a b
def Agree (S : Nat → Prop) (w w' : World) : Prop := ∀ b, S b → w'.heap[b]? = w.heap[b]?
abbrev fA (a : Act) : Nat → Option Value := fun i => a.tmps[i]?
def Opd (S : Nat → Prop) (w : World) (ρ : Nat → Option Value) (a : Act) (x : Operand) (v : V) : Prop := ∃ y, av (fA a) x = some y ∧ VRel S w ρ v y
def Yld (P : Program) (S : Nat → Prop) (w : World) (ρ : Nat → Option Value) (a : Act) (ty : TypeId) (op : Op) (v : V) : Prop := ∃ x, VRel S w ρ v x ∧ ∀ w', Agree S w w' → Runs P a ty op w' (.value x) w'
section
variable {P : Program} {S : Nat → Prop} {w : World} {ρ : Nat → Option Value} {a : Act} {n : Nat} {ty : TypeId}
theorem EC {x : Operand} {v : V} (fr : Fr a n (fA a)) (hx : Opd S w ρ a x v) : Yld P S w ρ a ty (.move x) v := by
 obtain ⟨y, h1, h2⟩ := hx; exact ⟨y, h2, fun w' _ => qR fr h1⟩
theorem By {x : Operand} {v : V} (fr : Fr a n (fA a)) (hx : Opd S w ρ a x v) : Yld P S w ρ a ty (.assign x) v := by
 obtain ⟨y, h1, h2⟩ := hx; exact ⟨y, h2, fun w' _ => qn fr h1⟩
theorem CA {c x y : Operand} {v : V} (fr : Fr a n (fA a)) (hc : Opd S w ρ a c (.bool true)) (hx : Opd S w ρ a x v) : Yld P S w ρ a ty (.pick c x y) v := by
 obtain ⟨b, h1, h2⟩ := hc; obtain ⟨z, h3, h4⟩ := hx
 simp only [VRel] at h2; subst h2
 exact ⟨z, h4, fun w' _ => vM fr h1 h3⟩
theorem Ds {c x y : Operand} {v : V} (fr : Fr a n (fA a)) (hc : Opd S w ρ a c (.bool false)) (hx : Opd S w ρ a y v) : Yld P S w ρ a ty (.pick c x y) v := by
 obtain ⟨b, h1, h2⟩ := hc; obtain ⟨z, h3, h4⟩ := hx
 simp only [VRel] at h2; subst h2
 exact ⟨z, h4, fun w' _ => vi fr h1 h3⟩
theorem Ep {x : Operand} {id o : Nat} (fr : Fr a n (fA a)) (hx : Opd S w ρ a x (.ptr id o)) : Yld P S w ρ a ty (.nilCheck x) (.ptr id o) := by
 obtain ⟨y, h1, h2⟩ := hx
 refine ⟨y, h2, fun w' _ => ?_⟩
 simp only [VRel] at h2; obtain ⟨b, _, rfl⟩ := h2
 exact tf fr h1
theorem DI {x : Operand} {id sz i o : Nat} (fr : Fr a n (fA a)) (hx : Opd S w ρ a x (.el id sz i o)) : Yld P S w ρ a ty (.nilCheck x) (.el id sz i o) := by
 obtain ⟨y, h1, h2⟩ := hx
 refine ⟨y, h2, fun w' _ => ?_⟩
 simp only [VRel] at h2; obtain ⟨b, _, _, _, rfl⟩ := h2
 exact tf fr h1
theorem Es {x : Operand} {cs : List V} {o : Nat} (fr : Fr a n (fA a)) (hx : Opd S w ρ a x (.box cs o)) : Yld P S w ρ a ty (.nilCheck x) (.box cs o) := by
 obtain ⟨y, h1, h2⟩ := hx
 refine ⟨y, h2, fun w' _ => ?_⟩
 simp only [VRel] at h2; obtain ⟨b, off, xs, rfl, _⟩ := h2
 exact tf fr h1
theorem Fb {x : Operand} {i : Nat} {vs : List V} {v : V} (fr : Fr a n (fA a)) (hx : Opd S w ρ a x (.tup vs)) (hi : vs[i]? = some v) : Yld P S w ρ a ty (.extract x i) v := by
 obtain ⟨y, h1, h2⟩ := hx
 simp only [VRel] at h2; obtain ⟨xs, rfl, h3⟩ := h2
 obtain ⟨z, h4, h5⟩ := h3.get hi
 exact ⟨z, h5, fun w' _ => sx fr h1 (by simpa using h4)⟩
theorem Ff {t : TypeId} {x : Operand} {b : Bool} (fr : Fr a n (fA a)) (hx : Opd S w ρ a x (.bool b)) : Yld P S w ρ a ty (.unOp .not t x) (.bool !b) := by
 obtain ⟨y, h1, h2⟩ := hx
 simp only [VRel] at h2; subst h2
 exact ⟨_, by simp only [VRel], fun w' _ => Aw fr h1 rfl⟩
theorem Fw {t : TypeId} {x : Operand} {i id o k : Nat} (fr : Fr a n (fA a)) (hx : Opd S w ρ a x (.ptr id o)) (hk : eZ P t i = some k) : Yld P S w ρ a ty (.fieldAddr t x i) (.ptr id (o + k)) := by
 obtain ⟨y, h1, h2⟩ := hx
 simp only [VRel] at h2; obtain ⟨b, h3, rfl⟩ := h2
 exact ⟨_, by simp only [VRel]; exact ⟨b, h3, rfl⟩, fun w' _ => uJ fr h1 hk rfl⟩
theorem FD {t : TypeId} {x : Operand} {i id sz j o k : Nat} (fr : Fr a n (fA a)) (hx : Opd S w ρ a x (.el id sz j o)) (hk : eZ P t i = some k) : Yld P S w ρ a ty (.fieldAddr t x i) (.el id sz j (o + k)) := by
 obtain ⟨y, h1, h2⟩ := hx
 simp only [VRel] at h2; obtain ⟨b, m, c, h3, rfl⟩ := h2
 exact ⟨_, by simp only [VRel]; exact ⟨b, m, c, h3, rfl⟩, fun w' _ => uJ fr h1 hk (Nat.add_assoc _ _ _)⟩
theorem FA {t : TypeId} {x : Operand} {i : Nat} {cs : List V} {o k : Nat} (fr : Fr a n (fA a)) (hx : Opd S w ρ a x (.box cs o)) (hk : eZ P t i = some k) : Yld P S w ρ a ty (.fieldAddr t x i) (.box cs (o + k)) := by
 obtain ⟨y, h1, h2⟩ := hx
 simp only [VRel] at h2; obtain ⟨b, off, xs, rfl, h3⟩ := h2
 exact ⟨_, by simp only [VRel]; exact ⟨b, off, xs, rfl, h3⟩, fun w' _ => uJ fr h1 hk (Nat.add_assoc _ _ _)⟩
theorem FP {t : TypeId} {x : Operand} {i k : Nat} {cs : List V} {v : V} (fr : Fr a n (fA a)) (hx : Opd S w ρ a x (.agg cs)) (hk : nA P t i = some k) (hv : cs[k]? = some v) : Yld P S w ρ a ty (.field t x i) v := by
 obtain ⟨y, h1, h2⟩ := hx
 simp only [VRel] at h2; obtain ⟨xs, rfl, h3⟩ := h2
 obtain ⟨z, h4, h5⟩ := h3.get hv
 exact ⟨z, h5, fun w' _ => Fp fr h1 hk h4⟩
def nq (P : Program) (t : TypeId) (i : Nat) : Option (Nat × Nat) := match P.underlying t with
 |some (.struct fs) => match fs[i]? with
  |some fl => match jj P fl.type with
   | some m => some (fl.offset, m)
   | none => none
  | none => none
 | _ => none
theorem EK {t : TypeId} {f : Nat → Option Value} {x : Operand} {i k m : Nat} {cs : List Value} (h : Fr a n f) (hx : av f x = some (.agg cs.toArray)) (ho : nq P t i = some (k, m)) : Runs P a ty (.field t x i) w (.value (.agg ((cs.drop k).take m).toArray)) w := by
 refine uQ h hx fun w => ?_
 unfold nq at ho
 split at ho
 ·rename_i fs hu
  split at ho
  ·rename_i fl hfl
   split at ho
   ·rename_i m' hs
    simp only [Option.some.injEq, Prod.mk.injEq] at ho
    obtain ⟨rfl, rfl⟩ := ho
    have hA : (isAgg fl.type).run P w = .ok true w ∧ (sizeOf fl.type).run P w = .ok m' w := by
     unfold jj at hs
     cases hu : P.underlying fl.type with
     | none => rw [hu] at hs; cases hs
     | some d =>
      rw [hu] at hs
      cases d <;> first | cases hs | (obtain ⟨i, hi, hs⟩ := Option.map_eq_some_iff.1 hs; simp [isAgg, run_underlying hu, sizeOf, typeInfo, hi, hs])
    simp [Instr.field, run_underlying hu, hfl, part, hA.1, hA.2, asAgg]
   ·cases ho
  ·cases ho
 ·cases ho
theorem Fx {t : TypeId} {x : Operand} {i k m : Nat} {cs : List V} (fr : Fr a n (fA a)) (hx : Opd S w ρ a x (.agg cs)) (hk : nq P t i = some (k, m)) : Yld P S w ρ a ty (.field t x i) (.agg ((cs.drop k).take m)) := by
 obtain ⟨y, h1, h2⟩ := hx
 simp only [VRel] at h2; obtain ⟨xs, rfl, h3⟩ := h2
 exact ⟨_, by simp only [VRel]; exact ⟨_, rfl, (h3.drop k).take m⟩, fun w' _ => EK fr h1 hk⟩
section
variable {t u : TypeId} {x y : Operand} {k : IntKind} {m l : Int}
theorem br (h : Opd S w ρ a x (.int k m)) : av (fA a) x = some (.int k m) := by
 obtain ⟨y, h1, h2⟩ := h; simp only [VRel] at h2; subst h2; exact h1
theorem mh {b : Bool} (h : Opd S w ρ a x (.bool b)) : av (fA a) x = some (.bool b) := by
 obtain ⟨y, h1, h2⟩ := h; simp only [VRel] at h2; subst h2; exact h1
theorem ic {s : List UInt8} (h : Opd S w ρ a x (.str s)) : av (fA a) x = some (.string ⟨s.toArray⟩) := by
 obtain ⟨y, h1, h2⟩ := h; simp only [VRel] at h2; subst h2; exact h1
variable (fr : Fr a n (fA a)) (hx : Opd S w ρ a x (.int k m)) (hy : Opd S w ρ a y (.int k l))
include fr hx hy
theorem Fq : Yld P S w ρ a ty (.binOp .eql t x y u) (.bool (m == l)) := ⟨_, by simp only [VRel], fun w' _ => dt fr (br hx) (br hy) rfl⟩
theorem FE : Yld P S w ρ a ty (.binOp .neq t x y u) (.bool (m != l)) := ⟨_, by simp only [VRel], fun w' _ => zC fr (br hx) (br hy) rfl⟩
theorem Fa : Yld P S w ρ a ty (.binOp .lss t x y u) (.bool (decide (m < l))) := ⟨_, by simp only [VRel], fun w' _ => ql fr (br hx) (br hy) rfl⟩
theorem Fc : Yld P S w ρ a ty (.binOp .leq t x y u) (.bool (decide (m ≤ l))) := ⟨_, by simp only [VRel], fun w' _ => EN fr (br hx) (br hy) rfl⟩
theorem Fg : Yld P S w ρ a ty (.binOp .gtr t x y u) (.bool (decide (l < m))) := ⟨_, by simp only [VRel], fun w' _ => zR fr (br hx) (br hy) rfl⟩
theorem Fy : Yld P S w ρ a ty (.binOp .geq t x y u) (.bool (decide (l ≤ m))) := ⟨_, by simp only [VRel], fun w' _ => DZ fr (br hx) (br hy) rfl⟩
end
section
variable {t u : TypeId} {x y : Operand} {m l : Int} (fr : Fr a n (fA a)) (hx : Opd S w ρ a x (.int .i64 m)) (hy : Opd S w ρ a y (.int .i64 l))
include fr hx hy
theorem Ew : Yld P S w ρ a ty (.call { callee := .builtin .max, args := #[x, y], argTypes := #[t, u] }) (.int .i64 (max m l)) := ⟨_, by simp only [VRel], fun w' _ => Dl fr (br hx) (br hy)⟩
end
theorem Fl {t u : TypeId} {x y : Operand} {m l : Bool} (fr : Fr a n (fA a)) (ht : P.underlying t = some .bool) (hx : Opd S w ρ a x (.bool m)) (hy : Opd S w ρ a y (.bool l)) : Yld P S w ρ a ty (.binOp .eql t x y u) (.bool (m == l)) :=
 ⟨_, by simp only [VRel], fun w' _ => ES ht fr (mh hx) (mh hy) rfl⟩
theorem Ev {f : Nat → Option Value} {t u : TypeId} {x y : Operand} {m l c : Bool} (ht : P.underlying t = some .bool) (h : Fr a n f) (hx : av f x = some (.bool m)) (hy : av f y = some (.bool l)) (hc : (m != l) = c) : Runs P a ty (.binOp .neq t x y u) w (.value (.bool c)) w := fun _ _ _ _ => by subst hc; simp only [execOp, h.eval hx, h.eval hy]; simp [go_sem, eqGuard, ht, bne]
theorem Fn {t u : TypeId} {x y : Operand} {m l : Bool} (fr : Fr a n (fA a)) (ht : P.underlying t = some .bool) (hx : Opd S w ρ a x (.bool m)) (hy : Opd S w ρ a y (.bool l)) : Yld P S w ρ a ty (.binOp .neq t x y u) (.bool (m != l)) :=
 ⟨_, by simp only [VRel], fun w' _ => Ev ht fr (mh hx) (mh hy) rfl⟩
section
variable {t u : TypeId} {x y : Operand} {m l : List UInt8} (fr : Fr a n (fA a)) (hx : Opd S w ρ a x (.str m)) (hy : Opd S w ρ a y (.str l))
include fr hx hy
theorem Fv : Yld P S w ρ a ty (.binOp .eql t x y u) (.bool (m == l)) := ⟨_, by simp only [VRel], fun w' _ => Az fr (ic hx) (ic hy) rfl⟩
theorem Ft : Yld P S w ρ a ty (.binOp .neq t x y u) (.bool (m != l)) := ⟨_, by simp only [VRel], fun w' _ => zw fr (ic hx) (ic hy) rfl⟩
end
theorem AB {t : TypeId} {x : Operand} {m : List UInt8} (fr : Fr a n (fA a)) (ht : P.underlying t = some .string) (hx : Opd S w ρ a x (.str m)) : Yld P S w ρ a ty (.call { callee := .builtin .len, args := #[x], argTypes := #[t] }) (.int .i64 m.length) :=
 ⟨_, by simp only [VRel], fun w' _ => Dw fr ht (ic hx)⟩
theorem DJ {t e : TypeId} {x : Operand} (fr : Fr a n (fA a)) (ht : P.underlying t = some (.slice e)) (hx : Opd S w ρ a x .nils) : Yld P S w ρ a ty (.call { callee := .builtin .len, args := #[x], argTypes := #[t] }) (.int .i64 0) := by
 obtain ⟨y, h1, h2⟩ := hx
 simp only [VRel] at h2; subst h2
 exact ⟨.int .i64 (0 : Nat), by simp only [VRel]; rfl, fun w' _ => oQ fr ht h1⟩
theorem zF {t e : TypeId} {x : Operand} {sz : Nat} {els : List V} (fr : Fr a n (fA a)) (ht : P.underlying t = some (.slice e)) (hx : Opd S w ρ a x (.row sz els)) : Yld P S w ρ a ty (.call { callee := .builtin .len, args := #[x], argTypes := #[t] }) (.int .i64 els.length) := by
 obtain ⟨y, h1, h2⟩ := hx
 simp only [VRel] at h2; obtain ⟨A, c, xs, rfl, _⟩ := h2
 exact ⟨_, by simp only [VRel], fun w' _ => oQ fr ht h1⟩
theorem eW {base e sz k : Nat} {v : Value} {xs : List Value} (h : w.ownsRow base e sz v k xs) : ∃ A c, v = .slice A k c ∧ k ≤ c ∧ c ≤ maxLen := by
 rcases h.2 with ⟨rfl, rfl⟩ | ⟨g, cap, cur, rfl, _, _, h4, h5, _⟩
 ·exact ⟨none, 0, rfl, Nat.le_refl _, by decide⟩
 ·exact ⟨_, cap, rfl, h4, h5⟩
theorem zP {h : Nat → Ob} {t e e' : TypeId} {x : Operand} {id sz : Nat} {els : List V} (hr : HRel S w ρ h) (ho : h id = .row e' sz els) (fr : Fr a n (fA a)) (ht : P.underlying t = some (.slice e)) (hx : Opd S w ρ a x (.sl id)) : Yld P S w ρ a ty (.call { callee := .builtin .len, args := #[x], argTypes := #[t] }) (.int .i64 els.length) := by
 obtain ⟨y, h1, h2⟩ := hx
 simp only [VRel] at h2
 have h3 := hr.ob id
 rw [ho] at h3
 obtain ⟨v, xs, h4, h5, h6⟩ := h3
 rw [h2.1] at h4
 cases h4
 obtain ⟨A, c, rfl, _⟩ := eW h5
 exact ⟨_, by simp only [VRel], fun w' _ => oQ fr ht h1⟩
theorem p_idxR {t e : TypeId} {x y : Operand} {sz i : Nat} {els : List V} {v : V} (fr : Fr a n (fA a)) (ht : P.underlying t = some (.slice e)) (hz : dG P e = some sz) (hx : Opd S w ρ a x (.row sz els)) (hy : Opd S w ρ a y (.int .i64 (i : Int))) (hi : els[i]? = some v) :
  Yld P S w ρ a ty (.indexAddr t x y) (.box v.cells 0) := by
 obtain ⟨y', h1, h2⟩ := hx
 simp only [VRel] at h2; obtain ⟨A, c, xs, rfl, h3, h4, h5, h6⟩ := h2
 have hlt : i < els.length := by
  rcases Nat.lt_or_ge i els.length with h | h
  ·exact h
  ·rw [List.getElem?_eq_none h] at hi; cases hi
 obtain ⟨b, off, rfl, hS, hb, hc⟩ := h6.2 (by omega)
 obtain ⟨z, g1, g2, g3⟩ := h5.get hi
 have hcell : ∀ j, j < sz → w.cell? ⟨b, off + i * sz + j, none⟩ = z.cells.toList[j]? := fun j hj => by
  rw [← g3 j hj, Nat.add_assoc]
  refine hc _ ?_
  have : (i + 1) * sz ≤ els.length * sz := Nat.mul_le_mul_right _ hlt
  rw [Nat.add_mul, Nat.one_mul] at this
  omega
 refine ⟨_, ?_, fun w' _ => az fr ht hz h1 (br hy) rfl hlt rfl⟩
 simp only [VRel]
 refine ⟨b, off + i * sz, _, by simp, hS, hb, g1.cells, fun j hj => ?_⟩
 exact hcell j (by simp at hj; omega)
theorem p_idxO {h : Nat → Ob} {t e e' : TypeId} {x y : Operand} {id sz i : Nat} {els : List V} (hr : HRel S w ρ h) (ho : h id = .row e' sz els) (fr : Fr a n (fA a)) (ht : P.underlying t = some (.slice e)) (hz : dG P e = some sz) (hx : Opd S w ρ a x (.sl id)) (hy : Opd S w ρ a y (.int .i64 (i : Int))) (hi : i < els.length) :
  Yld P S w ρ a ty (.indexAddr t x y) (.el id sz i 0) := by
 obtain ⟨y', h1, h2⟩ := hx
 simp only [VRel] at h2
 have h3 := hr.ob id
 rw [ho] at h3
 obtain ⟨v, xs, h4, h5, h6⟩ := h3
 rw [h2.1] at h4
 cases h4
 obtain ⟨g, cap, rfl, _⟩ := h5.form (by omega)
 exact ⟨_, by simp only [VRel]; exact ⟨g, _, _, h2.1, rfl⟩, fun w' _ => az fr ht hz h1 (br hy) rfl hi (by simp)⟩
theorem CP {f : Nat → Option Value} {t : TypeId} {x y : Operand} {l : List UInt8} {i : Nat} {c : UInt8} (h : Fr a n f) (ht : P.underlying t = some .string) (hx : av f x = some (.string ⟨l.toArray⟩)) (hy : av f y = some (.int .i64 (i : Int))) (hi : l[i]? = some c) : Runs P a ty (.index t x y) w (.value (.int .u8 c.toNat)) w := fun _ _ _ _ => by
 simp only [execOp, h.eval hx, h.eval hy]
 have hb : (ByteArray.mk l.toArray)[i]? = some c := by
  obtain ⟨hlt, hc⟩ := List.getElem?_eq_some_iff.1 hi
  have : i < (ByteArray.mk l.toArray).size := by simpa [ByteArray.size] using hlt
  rw [getElem?_pos (ByteArray.mk l.toArray) i this]
  simpa [ByteArray.getElem_eq_getElem_data] using hc
 simp [Instr.index, asIntOf, run_underlying ht, hb]
theorem p_idxS {t : TypeId} {x y : Operand} {l : List UInt8} {i : Nat} {c : UInt8} (fr : Fr a n (fA a)) (ht : P.underlying t = some .string) (hx : Opd S w ρ a x (.str l)) (hy : Opd S w ρ a y (.int .i64 (i : Int))) (hi : l[i]? = some c) : Yld P S w ρ a ty (.index t x y) (.int .u8 c.toNat) :=
 ⟨_, by simp only [VRel], fun w' _ => CP fr ht (ic hx) (br hy) hi⟩
theorem DR {f : Nat → Option Value} {t : TypeId} {x : Operand} {lo hi : Option Operand} {l : List UInt8} {i j : Nat} (h : Fr a n f) (ht : P.underlying t = some .string) (hx : av f x = some (.string ⟨l.toArray⟩))
  (hlo : (lo = none ∧ i = 0) ∨ ∃ y, lo = some y ∧ av f y = some (.int .i64 (i : Int))) (hhi : (hi = none ∧ j = l.length) ∨ ∃ y, hi = some y ∧ av f y = some (.int .i64 (j : Int))) (hij : i ≤ j) (hj : j ≤ l.length) :
  Runs P a ty (.slice t x lo hi none) w (.value (.string ⟨((l.drop i).take (j - i)).toArray⟩)) w := fun _ _ _ _ => by
 have hs : (ByteArray.mk l.toArray).size = l.length := by simp [ByteArray.size]
 rw [← ur]
 rcases hlo with ⟨rfl, rfl⟩ | ⟨y, rfl, hy⟩ <;> rcases hhi with ⟨rfl, rfl⟩ | ⟨z, rfl, hz⟩
 ·simp only [execOp, h.eval hx, Option.map_none]
  simp [Instr.sliceAt, Instr.slice, run_underlying ht, Instr.sliceBounds, hs]
  rw [ur]; simp
 ·simp only [execOp, h.eval hx, h.eval hz, Option.map_none, Option.map_some]
  simp [Instr.sliceAt, Instr.slice, run_underlying ht, Instr.sliceBounds, hs, run_sliceBound _ .i64 (j : Int) l.length _ (by omega) (by omega)]
 ·simp only [execOp, h.eval hx, h.eval hy, Option.map_none, Option.map_some]
  simp [Instr.sliceAt, Instr.slice, run_underlying ht, Instr.sliceBounds, hs, run_sliceBound _ .i64 (i : Int) l.length _ (by omega) (by omega)]
 ·simp only [execOp, h.eval hx, h.eval hy, h.eval hz, Option.map_some]
  simp [Instr.sliceAt, Instr.slice, run_underlying ht, Instr.sliceBounds, hs, run_sliceBound _ .i64 (j : Int) l.length _ (by omega) (by omega), run_sliceBound _ .i64 (i : Int) j _ (by omega) (by omega)]
theorem Cr {t : TypeId} {x : Operand} {lo hi : Option Operand} {l : List UInt8} {i j : Nat} (fr : Fr a n (fA a)) (ht : P.underlying t = some .string) (hx : Opd S w ρ a x (.str l))
  (hlo : (lo = none ∧ i = 0) ∨ ∃ y, lo = some y ∧ Opd S w ρ a y (.int .i64 (i : Int))) (hhi : (hi = none ∧ j = l.length) ∨ ∃ y, hi = some y ∧ Opd S w ρ a y (.int .i64 (j : Int))) (hij : i ≤ j) (hj : j ≤ l.length) :
  Yld P S w ρ a ty (.slice t x lo hi none) (.str ((l.drop i).take (j - i))) :=
 ⟨_, by simp only [VRel], fun w' _ => DR fr ht (ic hx) (hlo.imp id fun ⟨y, e, h⟩ => ⟨y, e, br h⟩) (hhi.imp id fun ⟨y, e, h⟩ => ⟨y, e, br h⟩) hij hj⟩
theorem AF {f : Nat → Option Value} {t e : TypeId} {x : Operand} {lo hi : Option Operand} {A : Option Addr} {m c sz i j : Nat} (h : Fr a n f) (ht : P.underlying t = some (.slice e)) (hz : dG P e = some sz) (hx : av f x = some (.slice A m c))
  (hlo : (lo = none ∧ i = 0) ∨ ∃ y, lo = some y ∧ av f y = some (.int .i64 (i : Int))) (hhi : (hi = none ∧ j = m) ∨ ∃ y, hi = some y ∧ av f y = some (.int .i64 (j : Int))) (hij : i ≤ j) (hj : j ≤ m) (hm : m ≤ c) :
  Runs P a ty (.slice t x lo hi none) w (.value (.slice (if c = i then A else A.map (·.add (i * sz))) (j - i) (c - i))) w := fun _ _ _ _ => by
 obtain ⟨inf, hi1, hs⟩ := Option.map_eq_some_iff.1 (show (P.info? e).map (·.size) = some sz from hz)
 have hso : (sizeOf e).run P w = .ok sz w := by simp [sizeOf, typeInfo, hi1, hs]
 rcases hlo with ⟨rfl, rfl⟩ | ⟨y, rfl, hy⟩ <;> rcases hhi with ⟨rfl, rfl⟩ | ⟨z, rfl, hz'⟩
 ·simp only [execOp, h.eval hx, Option.map_none]
  simp [Instr.sliceAt, Instr.slice, run_underlying ht, Instr.sliceBounds, hso]
 ·simp only [execOp, h.eval hx, h.eval hz', Option.map_none, Option.map_some]
  simp [Instr.sliceAt, Instr.slice, run_underlying ht, Instr.sliceBounds, hso, run_sliceBound _ .i64 (j : Int) c _ (by omega) (by omega)]
 ·simp only [execOp, h.eval hx, h.eval hy, Option.map_none, Option.map_some]
  simp [Instr.sliceAt, Instr.slice, run_underlying ht, Instr.sliceBounds, hso, run_sliceBound _ .i64 (i : Int) j _ (by omega) (by omega)]
 ·simp only [execOp, h.eval hx, h.eval hy, h.eval hz', Option.map_some]
  simp [Instr.sliceAt, Instr.slice, run_underlying ht, Instr.sliceBounds, hso, run_sliceBound _ .i64 (j : Int) c _ (by omega) (by omega), run_sliceBound _ .i64 (i : Int) j _ (by omega) (by omega)]
theorem AL {sz m c i j : Nat} {A : Option Addr} {xs : List Value} (hr : RowIn S w sz A m xs) (hij : i ≤ j) (hj : j ≤ m) (hm : m ≤ c) : RowIn S w sz (if c = i then A else A.map (·.add (i * sz))) (j - i) ((xs.drop (i * sz)).take ((j - i) * sz)) := by
 have h1 : (j - i) * sz + i * sz = j * sz := by rw [← Nat.add_mul]; congr 1; omega
 have h2 : j * sz ≤ m * sz := Nat.mul_le_mul_right _ hj
 refine ⟨by simp [hr.1]; omega, fun hn => ?_⟩
 obtain ⟨b, off, rfl, hS, hb, hc⟩ := hr.2 (by omega)
 rw [if_neg (by omega)]
 refine ⟨b, off + i * sz, by simp [no], hS, hb, fun k hk => ?_⟩
 rw [Nat.add_assoc, hc _ (by omega), List.getElem?_take, if_pos hk, List.getElem?_drop]
theorem FH {t e : TypeId} {x : Operand} {lo hi : Option Operand} {sz i j : Nat} {els : List V} (fr : Fr a n (fA a)) (ht : P.underlying t = some (.slice e)) (hz : dG P e = some sz) (hx : Opd S w ρ a x (.row sz els))
  (hlo : (lo = none ∧ i = 0) ∨ ∃ y, lo = some y ∧ Opd S w ρ a y (.int .i64 (i : Int))) (hhi : (hi = none ∧ j = els.length) ∨ ∃ y, hi = some y ∧ Opd S w ρ a y (.int .i64 (j : Int))) (hij : i ≤ j) (hj : j ≤ els.length) :
  Yld P S w ρ a ty (.slice t x lo hi none) (.row sz ((els.drop i).take (j - i))) := by
 obtain ⟨y, h1, h2⟩ := hx
 simp only [VRel] at h2; obtain ⟨A, c, xs, rfl, h3, h4, h5, h6⟩ := h2
 refine ⟨_, ?_, fun w' _ => AF fr ht hz h1 (hlo.imp id fun ⟨y, e, h⟩ => ⟨y, e, br h⟩) (hhi.imp id fun ⟨y, e, h⟩ => ⟨y, e, br h⟩) hij hj h3⟩
 simp only [VRel]
 have e : ((els.drop i).take (j - i)).length = j - i := by simp; omega
 rw [e]
 exact ⟨_, _, _, rfl, by omega, by omega, (h5.drop i).take (j - i), AL h6 hij hj h3⟩
theorem Da {t : TypeId} {x : Operand} {cs : List V} {o : Nat} {v : V} (fr : Fr a n (fA a)) (ht : du P t = true) (hx : Opd S w ρ a x (.box cs o)) (hv : cs[o]? = some v) : Yld P S w ρ a ty (.load t x) v := by
 obtain ⟨y, h1, h2⟩ := hx
 simp only [VRel] at h2; obtain ⟨b, off, xs, rfl, hS, hb, h3, h4⟩ := h2
 obtain ⟨z, h5, h6⟩ := h3.get hv
 have hlt : o < xs.length := by
  rcases Nat.lt_or_ge o xs.length with h | h
  ·exact h
  ·rw [List.getElem?_eq_none h] at h5; cases h5
 exact ⟨z, h6.up up0, fun w' hA => ex_load fr h1 ht ((World.cell?_of_block (a := ⟨b, off + o, none⟩) (hA b hS)).trans ((h4 o hlt).trans h5))⟩
theorem Bq {t : TypeId} {x : Operand} {cs : List V} {o m : Nat} (fr : Fr a n (fA a)) (ht : jj P t = some m) (hx : Opd S w ρ a x (.box cs o)) (hl : o + m ≤ cs.length) : Yld P S w ρ a ty (.load t x) (.agg ((cs.drop o).take m)) := by
 obtain ⟨y, h1, h2⟩ := hx
 simp only [VRel] at h2; obtain ⟨b, off, xs, rfl, hS, hb, h3, h4⟩ := h2
 have hlen := h3.length
 refine ⟨.agg ((xs.drop o).take m).toArray, by simp only [VRel]; exact ⟨_, rfl, ((h3.drop o).take m).up up0⟩, fun w' hA => ex_loadN fr h1 ht (by simp; omega) fun j hj => ?_⟩
 rw [World.cell?_of_block (a := ⟨b, off + o + j, none⟩) (hA b hS), Nat.add_assoc, h4 _ (by omega), List.getElem?_take, if_pos hj, List.getElem?_drop]
def nO (cs : List V) (o : Nat) (ps : List V) : List V := cs.take o ++ ps ++ cs.drop (o + ps.length)
def nX (place : Nat → Option (Nat × Nat)) : List V → List (Nat × V) → Option (List V)
 | cs, [] => some cs
 |cs, (i, v) :: r => match place i with
  |some (o, sz) => match Nat.beq v.cells.length sz && Nat.ble (o + sz) cs.length with
   | true => nX place (nO cs o v.cells) r
   | false => none
  | none => none
def PRel (S : Nat → Prop) (w : World) (ρ : Nat → Option Value) : List (Nat × V) → List (Nat × Value) → Prop
 | [], ys => ys = []
 | (i, v) :: r, ys => ∃ x zs, ys = (i, x) :: zs ∧ VRel S w ρ v x ∧ PRel S w ρ r zs
theorem tH {place pl : Nat → Option (Nat × Nat)} (hpl : ∀ i p, place i = some p → pl i = some p) : ∀ {vs : List (Nat × V)} {ys : List (Nat × Value)} {cs cs' : List V} {xs : List Value}, PRel S w ρ vs ys → LRel S w ρ cs xs → nX place cs vs = some cs' → ∃ xs', Instr.fill pl xs.toArray ys = some xs'.toArray ∧ LRel S w ρ cs' xs'
 | [], ys, cs, cs', xs, hp, hl, hf => by
  simp only [PRel] at hp; subst hp
  simp only [nX, Option.some.injEq] at hf; subst hf
  exact ⟨xs, rfl, hl⟩
 | (i, v) :: r, ys, cs, cs', xs, hp, hl, hf => by
  simp only [PRel] at hp
  obtain ⟨x, zs, rfl, hx, hr⟩ := hp
  simp only [nX] at hf
  split at hf
  ·rename_i o sz hpi
   split at hf
   ·rename_i hc
    simp only [Bool.and_eq_true, Nat.beq_eq, Nat.ble_eq] at hc
    have hcl := hx.cells.length
    simp only [Array.length_toList] at hcl
    have hlen := hl.length
    have hl' : LRel S w ρ (nO cs o v.cells) (xs.take o ++ x.cells.toList ++ xs.drop (o + x.cells.size)) := by
     unfold nO
     rw [hcl]
     exact ((hl.take o).append hx.cells).append (hl.drop _)
    obtain ⟨xs', h1, h2⟩ := tH hpl hr hl' hf
    refine ⟨xs', ?_, h2⟩
    simp only [Instr.fill, hpl i _ hpi]
    rw [if_neg (by simp; omega), ← h1]
    congr 1
    have hfs := qI o x.cells.toList 0 xs (by simp; omega)
    simp only [Nat.add_zero, Array.length_toList] at hfs
    rw [← hfs, ← Array.foldl_toList, Array.toList_zipIdx]
   ·cases hf
  ·cases hf
def rb (P : Program) (t : TypeId) : Option (List (Nat × Nat)) := match P.underlying t with
 | some (.struct fs) => fs.toList.mapM fun fl => (dG P fl.type).map fun s => (fl.offset, s)
 | _ => none
theorem sO : ∀ {fs : List Field} {ps : List (Nat × Nat)}, (fs.mapM fun fl => (dG P fl.type).map fun s => (fl.offset, s)) = some ps → (fs.mapM (m := Sem) fun fl => do pure (fl.offset, ← sizeOf fl.type)).run P w = .ok ps w
 | [], ps, h => by simp at h; subst h; simp
 | fl :: r, ps, h => by
  simp only [List.mapM_cons] at h
  obtain ⟨p, h1, h⟩ := Option.bind_eq_some_iff.1 h
  obtain ⟨qs, h2, h⟩ := Option.bind_eq_some_iff.1 h
  simp only [Option.pure_def, Option.some.injEq] at h
  subst h
  obtain ⟨s, h3, h4⟩ := Option.map_eq_some_iff.1 h1
  obtain ⟨inf, h5, h6⟩ := Option.map_eq_some_iff.1 (show (P.info? fl.type).map (·.size) = some s from h3)
  have ih := sO h2
  have h7 : (sizeOf fl.type).run P w = .ok s w := by simp [sizeOf, typeInfo, h5, h6]
  subst h4
  simp only [List.mapM_cons]
  simp [h7]
  simp at ih
  simp [ih]
theorem Dk {t : TypeId} {ps : List (Nat × Operand)} {vs : List (Nat × V)} {ys : List (Nat × Value)} {pl : List (Nat × Nat)} {z : List Value} {zv cs : List V} {place : Nat → Option (Nat × Nat)} (fr : Fr a n (fA a)) (hps : eC (fA a) ps = some ys) (hpr : PRel S w ρ vs ys) (hz : lH P t = some z) (hzv : LRel S w ρ zv z)
  (hpl : rb P t = some pl) (hplace : ∀ i p, place i = some p → pl[i]? = some p) (hf : nX place zv vs = some cs) : Yld P S w ρ a ty (.build t ps.toArray) (.agg cs) := by
 obtain ⟨xs, h1, h2⟩ := tH (pl := fun i => pl.toArray[i]?) (fun i p h => by simpa using hplace i p h) hpr hzv hf
 refine ⟨.agg xs.toArray, by simp only [VRel]; exact ⟨xs, rfl, h2⟩, fun w' _ => wd fr hps fun w => ?_⟩
 unfold lH at hz
 obtain ⟨z0, hz1, hz2⟩ := Option.map_eq_some_iff.1 hz
 obtain ⟨inf, hi, hiz⟩ := Option.bind_eq_some_iff.1 hz1
 have ez : z0.cells = z.toArray := by rw [← hz2]
 unfold rb at hpl
 cases hu : P.underlying t with
 | none => rw [hu] at hpl; cases hpl
 | some d =>
  rw [hu] at hpl
  cases d with
  | struct fs =>
   have hm := sO (w := w) hpl
   have hm' : (fs.mapM (m := Sem) fun fl => do pure (fl.offset, ← sizeOf fl.type)).run P w = .ok pl.toArray w := by
    have e : fs.mapM (m := Sem) (fun fl => do pure (fl.offset, ← sizeOf fl.type)) = List.toArray <$> fs.toList.mapM (m := Sem) (fun fl => do pure (fl.offset, ← sizeOf fl.type)) := by
     rw [← List.mapM_toArray]
    rw [e]; simp at hm; simp [hm]
   simp only [Instr.build]
   simp at hm'
   simp [zeroValue, typeInfo, hi, hiz, run_underlying hu, hm', ez]
   simp at h1
   rw [h1]; simp
  | _ => cases hpl
theorem Bf {t : TypeId} {ps : List (Nat × Operand)} {vs : List (Nat × V)} {ys : List (Nat × Value)} {sz len : Nat} {e : TypeId} {z : List Value} {zv cs : List V} (fr : Fr a n (fA a)) (hps : eC (fA a) ps = some ys) (hpr : PRel S w ρ vs ys) (hz : lH P t = some z) (hzv : LRel S w ρ zv z)
  (ht : P.underlying t = some (.array len e)) (he : dG P e = some sz) (hf : nX (fun i => some (i * sz, sz)) zv vs = some cs) : Yld P S w ρ a ty (.build t ps.toArray) (.agg cs) := by
 obtain ⟨xs, h1, h2⟩ := tH (pl := fun i => some (i * sz, sz)) (fun i p h => h) hpr hzv hf
 refine ⟨.agg xs.toArray, by simp only [VRel]; exact ⟨xs, rfl, h2⟩, fun w' _ => wd fr hps fun w => ?_⟩
 unfold lH at hz
 obtain ⟨z0, hz1, hz2⟩ := Option.map_eq_some_iff.1 hz
 obtain ⟨inf, hi, hiz⟩ := Option.bind_eq_some_iff.1 hz1
 have ez : z0.cells = z.toArray := by rw [← hz2]
 obtain ⟨inf', h5, h6⟩ := Option.map_eq_some_iff.1 (show (P.info? e).map (·.size) = some sz from he)
 have h7 : (sizeOf e).run P w = .ok sz w := by simp [sizeOf, typeInfo, h5, h6]
 simp only [Instr.build]
 simp [zeroValue, typeInfo, hi, hiz, run_underlying ht, h7, ez]
 rw [h1]; simp
end
end Go.Proofs.YtpnpdlnpikkeaaaGreat
namespace Go.Proofs.YtpnpdlnpikkeaaaGreat
open Go.RowKit
structure ChgP (X : Nat → Prop) (w w' : World) : Prop where
 os : w'.os = w.os
 tape : w'.tape = w.tape
 output : w'.output = w.output
 size : w.heap.size ≤ w'.heap.size
 block : ∀ k, k < w.heap.size → ¬ X k → w'.heap[k]? = w.heap[k]?
theorem ChgP.refl (X : Nat → Prop) (w : World) : ChgP X w w := ⟨rfl, rfl, rfl, Nat.le_refl _, fun _ _ _ => rfl⟩
theorem ChgP.trans {X Y : Nat → Prop} {w w1 w2 : World} (h : ChgP X w w1) (k : ChgP Y w1 w2) (hY : ∀ b, Y b → X b ∨ w.heap.size ≤ b) : ChgP X w w2 :=
 ⟨k.os.trans h.os, k.tape.trans h.tape, k.output.trans h.output, Nat.le_trans h.size k.size, fun b hb hX => by
  rw [k.block b (Nat.lt_of_lt_of_le hb h.size) (fun hc => by rcases hY b hc with h1 | h1; exact hX h1; omega), h.block b hb hX]⟩
theorem ChgP.mono {X Y : Nat → Prop} {w w1 : World} (h : ChgP X w w1) (hY : ∀ b, X b → Y b) : ChgP Y w w1 := ⟨h.os, h.tape, h.output, h.size, fun b hb hX => h.block b hb (fun hc => hX (hY b hc))⟩
theorem ChgP.of {X : List Nat} {w w1 : World} (h : Chg X w w1) : ChgP (· ∈ X) w w1 := ⟨h.os, h.tape, h.output, h.size, h.block⟩
theorem ChgP.of0 {X : Nat → Prop} {w w1 : World} (h : Chg [] w w1) : ChgP X w w1 := (ChgP.of h).mono (fun b hb => by simp at hb)
def cy (h : Nat → Ob) (id : Nat) (o : Ob) : Nat → Ob := fun i => match Nat.beq i id with | true => o | false => h i
def dK (ρ : Nat → Option Value) (id : Nat) (x : Value) : Nat → Option Value := fun i => match Nat.beq i id with | true => some x | false => ρ i
theorem bK (h : Nat → Ob) (id : Nat) (o : Ob) : cy h id o id = o := by simp [cy]
theorem cq (h : Nat → Ob) {id i : Nat} (o : Ob) (hi : i ≠ id) : cy h id o i = h i := by
 unfold cy; split
 ·rename_i hb; exact absurd (Nat.eq_of_beq_eq_true hb) hi
 ·rfl
theorem bg (ρ : Nat → Option Value) (id : Nat) (x : Value) : dK ρ id x id = some x := by simp [dK]
theorem lS (ρ : Nat → Option Value) {id i : Nat} (x : Value) (hi : i ≠ id) : dK ρ id x i = ρ i := by
 unfold dK; split
 ·rename_i hb; exact absurd (Nat.eq_of_beq_eq_true hb) hi
 ·rfl
structure Eff (S : Nat → Prop) (w w' : World) (ρ ρ' : Nat → Option Value) (h h' : Nat → Ob) (X : Nat → Prop) : Prop where
 hr : HRel S w' ρ' h'
 up : Up S S w w' ρ ρ'
 chg : ChgP (fun b => ∃ id, X id ∧ own ρ id (h id) b) w w'
 new : ∀ id b, own ρ' id (h' id) b → (∃ j, own ρ j (h j) b) ∨ w.heap.size ≤ b
def Does (P : Program) (S : Nat → Prop) (w : World) (ρ : Nat → Option Value) (h : Nat → Ob) (a : Act) (ty : TypeId) (op : Op) (v : Option V) (h' : Nat → Ob) (X : Nat → Prop) : Prop :=
  ∃ nx w' ρ', Runs P a ty op w nx w' ∧ Eff S w w' ρ ρ' h h' X ∧ match v with
    | some v => ∃ x, nx = .value x ∧ VRel S w' ρ' v x
    | none => nx = .skip
section
variable {P : Program} {S : Nat → Prop} {w w' : World} {ρ ρ' : Nat → Option Value} {h h' : Nat → Ob} {a : Act} {n : Nat} {ty : TypeId}
theorem Eff.refl {X : Nat → Prop} (hr : HRel S w ρ h) : Eff S w w ρ ρ h h X := ⟨hr, Up.refl, ChgP.refl _ _, fun id b hb => .inl ⟨id, hb⟩⟩
theorem vl {X Y : Nat → Prop} (k src : Nat) (hr : HRel S w ρ h) (hc : ChgP X w w') (hρ : ∀ i x, ρ i = some x → ρ' i = some x) (hX : ∀ b, X b → ∃ id, Y id ∧ own ρ id (h id) b)
  (hk : gW S w' ρ' k (h' k)) (hkb : ∀ b, own ρ' k (h' k) b → w.heap.size ≤ b ∨ own ρ src (h src) b) (hsrc : src ≠ k → h' src = .gone)
  (hi : ∀ i, i ≠ k → h' i = .gone ∨ (h' i = h i ∧ (h i = .free → ρ' i = none) ∧ ∀ b, own ρ i (h i) b → ¬ X b)) : Eff S w w' ρ ρ' h h' Y := by
 have hnS : ∀ b, S b → ¬ X b := fun b hb hx => by obtain ⟨id, _, ho⟩ := hX b hx; exact hr.sep id b ho hb
 have up : Up S S w w' ρ ρ' := ⟨fun _ h => h, fun b hb hlt => hc.block b hlt (hnS b hb), hρ⟩
 have back : ∀ i b, i ≠ k → own ρ' i (h' i) b → own ρ i (h i) b := fun i b hik hb => by
  rcases hi i hik with e | ⟨e, _, _⟩
  ·rw [e] at hb; exact hb.elim
  ·rw [e] at hb; exact Ax hρ (hr.ob i) hb
 refine ⟨⟨fun i => ?_, fun i b hb => ?_, fun i j b hbi hbj => ?_, fun b hb => Nat.lt_of_lt_of_le (hr.slt b hb) hc.size⟩, up, hc.mono hX, fun i b hb => ?_⟩
 ·by_cases hik : i = k
  ·subst hik; exact hk
  ·rcases hi i hik with e | ⟨e, hf, hb⟩
   ·rw [e]; trivial
   ·rw [e]; exact (hr.ob i).up up hf (fun b hob => hc.block b (fd (hr.ob i) hob) (hb b hob))
 ·by_cases hik : i = k
  ·subst hik
   rcases hkb b hb with h1 | h1
   ·intro hS; have := hr.slt b hS; omega
   ·exact hr.sep src b h1
  ·exact hr.sep i b (back i b hik hb)
 ·by_cases hik : i = k
  ·by_cases hjk : j = k
   ·rw [hik, hjk]
   ·subst hik
    have h1 := back j b hjk hbj
    rcases hkb b hbi with h2 | h2
    ·have := fd (hr.ob j) h1; omega
    ·have h3 := hr.dis src j b h2 h1
     subst h3
     rw [hsrc hjk] at hbj; exact hbj.elim
  ·by_cases hjk : j = k
   ·subst hjk
    have h1 := back i b hik hbi
    rcases hkb b hbj with h2 | h2
    ·have := fd (hr.ob i) h1; omega
    ·have h3 := hr.dis src i b h2 h1
     subst h3
     rw [hsrc hik] at hbi; exact hbi.elim
   ·exact hr.dis i j b (back i b hik hbi) (back j b hjk hbj)
 ·by_cases hik : i = k
  ·subst hik
   rcases hkb b hb with h1 | h1
   ·exact .inr h1
   ·exact .inl ⟨src, h1⟩
  ·exact .inl ⟨i, back i b hik hb⟩
theorem eff_new {nid : Nat} {x : Value} {o : Ob} (hr : HRel S w ρ h) (hf : h nid = .free) (hc : Chg [] w w') (hk : gW S w' (dK ρ nid x) nid o) (hb : ∀ b, own (dK ρ nid x) nid o b → w.heap.size ≤ b) : Eff S w w' ρ (dK ρ nid x) h (cy h nid o) (fun _ => False) := by
 have hn : ρ nid = none := by have := hr.ob nid; rw [hf] at this; exact this
 refine vl (X := fun _ => False) nid nid hr (ChgP.of0 hc) (fun i y hy => ?_) (fun b hb => hb.elim) (by rw [bK]; exact hk) (fun b hob => by rw [bK] at hob; exact .inl (hb b hob)) (fun h => absurd rfl h)
  (fun i hi => .inr ⟨cq _ _ hi, fun hfi => ?_, fun b _ hx => hx⟩)
 ·have : i ≠ nid := fun e => by subst e; rw [hn] at hy; cases hy
  rw [lS _ _ this]; exact hy
 ·rw [lS _ _ hi]; have := hr.ob i; rw [hfi] at this; exact this
theorem xP {id : Nat} {o : Ob} {X : List Nat} (hr : HRel S w ρ h) (hc : Chg X w w') (hX : ∀ b, b ∈ X → own ρ id (h id) b) (hk : gW S w' ρ id o) (hb : ∀ b, own ρ id o b → own ρ id (h id) b) : Eff S w w' ρ ρ h (cy h id o) (· = id) := by
 refine vl (X := (· ∈ X)) id id hr (ChgP.of hc) (fun i y hy => hy) (fun b hb => ⟨id, rfl, hX b hb⟩) (by rw [bK]; exact hk) (fun b hob => by rw [bK] at hob; exact .inr (hb b hob)) (fun h => absurd rfl h)
  (fun i hi => .inr ⟨cq _ _ hi, fun hfi => ?_, fun b hob hx => hi (hr.dis i id b hob (hX b hx))⟩)
 have := hr.ob i; rw [hfi] at this; exact this
theorem vj {id nid : Nat} {x : Value} {o : Ob} {X : List Nat} (hr : HRel S w ρ h) (hf : h nid = .free) (hid : h id ≠ .free) (hc : Chg X w w') (hX : ∀ b, b ∈ X → own ρ id (h id) b) (hk : gW S w' (dK ρ nid x) nid o) (hb : ∀ b, own (dK ρ nid x) nid o b → own ρ id (h id) b ∨ w.heap.size ≤ b) :
  Eff S w w' ρ (dK ρ nid x) h (cy (cy h id .gone) nid o) (· = id) := by
 have hn : ρ nid = none := by have := hr.ob nid; rw [hf] at this; exact this
 have hne : id ≠ nid := fun e => by subst e; exact hid hf
 refine vl (X := (· ∈ X)) nid id hr (ChgP.of hc) (fun i y hy => ?_) (fun b hb => ⟨id, rfl, hX b hb⟩) (by rw [bK]; exact hk) (fun b hob => by rw [bK] at hob; exact (hb b hob).symm) (fun _ => by rw [cq _ _ hne, bK])
  (fun i hi => ?_)
 ·have : i ≠ nid := fun e => by subst e; rw [hn] at hy; cases hy
  rw [lS _ _ this]; exact hy
 ·rw [cq _ _ hi]
  by_cases hii : i = id
  ·subst hii; exact .inl (bK _ _ _)
  ·refine .inr ⟨cq _ _ hii, fun hfi => ?_, fun b hob hx => hii (hr.dis i id b hob (hX b hx))⟩
   rw [lS _ _ hi]; have := hr.ob i; rw [hfi] at this; exact this
theorem sy {nid : Nat} {x : Value} (hr : HRel S w ρ h) (hf : h nid = .free) (hc : Chg [] w w') : Up S S w w' ρ (dK ρ nid x) := by
 have hn : ρ nid = none := by have := hr.ob nid; rw [hf] at this; exact this
 refine ⟨fun _ h => h, fun b hb hlt => hc.block b hlt (by simp), fun i y hy => ?_⟩
 have : i ≠ nid := fun e => by subst e; rw [hn] at hy; cases hy
 rw [lS _ _ this]; exact hy
theorem nw {id : Nat} {t : TypeId} {cs : List V} (hr : HRel S w ρ h) (ho : h id = .var t cs) : ∃ b xs, ρ id = some (.pointer (some ⟨b, 0, none⟩)) ∧ Blk w b t xs ∧ LRel S w ρ cs xs := by
 have := hr.ob id; rw [ho] at this; exact this
theorem kB {id : Nat} {e : TypeId} {sz : Nat} {els : List V} (hr : HRel S w ρ h) (ho : h id = .row e sz els) : ∃ v xs, ρ id = some v ∧ w.ownsRow 0 e sz v els.length xs ∧ CRel S w ρ sz els xs := by
 have := hr.ob id; rw [ho] at this; exact this
theorem tI {x : Operand} {id o b : Nat} (hx : Opd S w ρ a x (.ptr id o)) (hb : ρ id = some (.pointer (some ⟨b, 0, none⟩))) : av (fA a) x = some (.pointer (some ⟨b, o, none⟩)) := by
 obtain ⟨y, h1, h2⟩ := hx
 simp only [VRel] at h2
 obtain ⟨b', h3, rfl⟩ := h2
 rw [hb] at h3
 simp only [Option.some.injEq, Value.pointer.injEq, Addr.mk.injEq, and_true] at h3
 subst h3; exact h1
theorem xn {t tb : TypeId} {x : Operand} {id o : Nat} {cs : List V} {v : V} (hr : HRel S w ρ h) (fr : Fr a n (fA a)) (hx : Opd S w ρ a x (.ptr id o)) (ho : h id = .var tb cs) (ht : du P t = true) (hv : cs[o]? = some v) :
  ∃ b y, ρ id = some (.pointer (some ⟨b, 0, none⟩)) ∧ w.cell? ⟨b, o, none⟩ = some y ∧ VRel S w ρ v y ∧ ∀ w', w'.cell? ⟨b, o, none⟩ = some y → Runs P a ty (.load t x) w' (.value y) w' := by
 obtain ⟨b, xs, h1, h2, h3⟩ := nw hr ho
 obtain ⟨y, h4, h5⟩ := h3.get hv
 exact ⟨b, y, h1, by rw [h2.cell, h4], h5, fun w' hc => ex_load fr (tI hx h1) ht hc⟩
theorem DH {t tb : TypeId} {x : Operand} {id o : Nat} {cs : List V} {v : V} (hr : HRel S w ρ h) (fr : Fr a n (fA a)) (hx : Opd S w ρ a x (.ptr id o)) (ho : h id = .var tb cs) (ht : du P t = true) (hv : cs[o]? = some v) : Does P S w ρ h a ty (.load t x) (some v) h (fun _ => False) := by
 obtain ⟨b, y, h1, h2, h3, h4⟩ := xn (P := P) (ty := ty) hr fr hx ho ht hv
 exact ⟨_, w, ρ, h4 w h2, Eff.refl hr, y, rfl, h3⟩
theorem vx {t tb : TypeId} {x : Operand} {id o m : Nat} {cs : List V} (hr : HRel S w ρ h) (fr : Fr a n (fA a)) (hx : Opd S w ρ a x (.ptr id o)) (ho : h id = .var tb cs) (ht : jj P t = some m) (hl : o + m ≤ cs.length) :
  ∃ b ys, ρ id = some (.pointer (some ⟨b, 0, none⟩)) ∧ (∀ j, j < m → w.cell? ⟨b, o + j, none⟩ = ys[j]?) ∧ LRel S w ρ ((cs.drop o).take m) ys ∧ ∀ w', (∀ j, j < m → w'.cell? ⟨b, o + j, none⟩ = ys[j]?) → Runs P a ty (.load t x) w' (.value (.agg ys.toArray)) w' := by
 obtain ⟨b, xs, h1, h2, h3⟩ := nw hr ho
 have hlen := h3.length
 refine ⟨b, (xs.drop o).take m, h1, fun j hj => ?_, (h3.drop o).take m, fun w' hc => ex_loadN fr (tI hx h1) ht (by simp; omega) hc⟩
 rw [h2.cell, List.getElem?_take, if_pos hj, List.getElem?_drop]
theorem Dr {t tb : TypeId} {x : Operand} {id o m : Nat} {cs : List V} (hr : HRel S w ρ h) (fr : Fr a n (fA a)) (hx : Opd S w ρ a x (.ptr id o)) (ho : h id = .var tb cs) (ht : jj P t = some m) (hl : o + m ≤ cs.length) : Does P S w ρ h a ty (.load t x) (some (.agg ((cs.drop o).take m))) h (fun _ => False) := by
 obtain ⟨b, ys, h1, h2, h3, h4⟩ := vx (P := P) (ty := ty) hr fr hx ho ht hl
 exact ⟨_, w, ρ, h4 w h2, Eff.refl hr, _, rfl, by simp only [VRel]; exact ⟨ys, rfl, h3⟩⟩
theorem wk {x : Operand} {id sz i o : Nat} {v : Value} (hx : Opd S w ρ a x (.el id sz i o)) (hb : ρ id = some v) : ∃ b m c, v = .slice (some ⟨b, 0, none⟩) m c ∧ av (fA a) x = some (.pointer (some ⟨b, i * sz + o, none⟩)) := by
 obtain ⟨y, h1, h2⟩ := hx
 simp only [VRel] at h2
 obtain ⟨b', m, c, h3, rfl⟩ := h2
 rw [hb] at h3
 cases h3
 exact ⟨b', m, c, rfl, h1⟩
theorem pc {base e sz k m c b : Nat} {xs : List Value} (ho : w.ownsRow base e sz (.slice (some ⟨b, 0, none⟩) m c) k xs) {j : Nat} (hj : j < k * sz) : w.cell? ⟨b, j, none⟩ = xs[j]? := by
 rcases ho.2 with ⟨hc, _⟩ | ⟨g, cap, cur, hv, hb, hg, h4, h5, h6, h7⟩
 ·cases hc
 ·injection hv with hv1 _ hv2
  injection hv1 with hv1
  injection hv1 with hv1
  subst hv1
  rw [← h7]
  simp [World.cell?, hg, List.getElem?_take, hj]
theorem vL {t e : TypeId} {x : Operand} {id sz i o : Nat} {els : List V} {v0 v : V} (hr : HRel S w ρ h) (fr : Fr a n (fA a)) (hx : Opd S w ρ a x (.el id sz i o)) (ho : h id = .row e sz els) (ht : du P t = true) (hi : els[i]? = some v0) (hv : v0.cells[o]? = some v) :
  ∃ b u y, ρ id = some u ∧ u.ownBlock = some b ∧ w.cell? ⟨b, i * sz + o, none⟩ = some y ∧ VRel S w ρ v y ∧ ∀ w', w'.cell? ⟨b, i * sz + o, none⟩ = some y → Runs P a ty (.load t x) w' (.value y) w' := by
 obtain ⟨u, xs, h1, h2, h3⟩ := kB hr ho
 obtain ⟨b, m, c, rfl, hx'⟩ := wk hx h1
 obtain ⟨z, g1, g2, g3⟩ := h3.get hi
 obtain ⟨y, h4, h5⟩ := g1.cells.get hv
 have hlt : o < sz := by
  have := (List.getElem?_eq_some_iff.1 h4).1
  simp at this; omega
 have hle : i < els.length := (List.getElem?_eq_some_iff.1 hi).1
 have : (i + 1) * sz ≤ els.length * sz := Nat.mul_le_mul_right _ hle
 rw [Nat.add_mul, Nat.one_mul] at this
 exact ⟨b, _, y, h1, rfl, by rw [pc h2 (by omega), g3 o hlt, h4], h5, fun w' hc => ex_load fr hx' ht hc⟩
theorem xp {t e : TypeId} {x : Operand} {id sz i o : Nat} {els : List V} {v0 v : V} (hr : HRel S w ρ h) (fr : Fr a n (fA a)) (hx : Opd S w ρ a x (.el id sz i o)) (ho : h id = .row e sz els) (ht : du P t = true) (hi : els[i]? = some v0) (hv : v0.cells[o]? = some v) : Does P S w ρ h a ty (.load t x) (some v) h (fun _ => False) := by
 obtain ⟨b, u, y, h1, _, h2, h3, h4⟩ := vL (P := P) (ty := ty) hr fr hx ho ht hi hv
 exact ⟨_, w, ρ, h4 w h2, Eff.refl hr, y, rfl, h3⟩
theorem tS {t e : TypeId} {x : Operand} {id sz i o m : Nat} {els : List V} {v0 : V} (hr : HRel S w ρ h) (fr : Fr a n (fA a)) (hx : Opd S w ρ a x (.el id sz i o)) (ho : h id = .row e sz els) (ht : jj P t = some m) (hi : els[i]? = some v0) (hl : o + m ≤ v0.cells.length) :
  ∃ b u ys, ρ id = some u ∧ u.ownBlock = some b ∧ (∀ j, j < m → w.cell? ⟨b, i * sz + o + j, none⟩ = ys[j]?) ∧ LRel S w ρ ((v0.cells.drop o).take m) ys ∧ ∀ w', (∀ j, j < m → w'.cell? ⟨b, i * sz + o + j, none⟩ = ys[j]?) → Runs P a ty (.load t x) w' (.value (.agg ys.toArray)) w' := by
 obtain ⟨u, xs, h1, h2, h3⟩ := kB hr ho
 obtain ⟨b, k, c, rfl, hx'⟩ := wk hx h1
 obtain ⟨z, g1, g2, g3⟩ := h3.get hi
 have hlen := g1.cells.length
 simp only [Array.length_toList] at hlen
 have hle : i < els.length := (List.getElem?_eq_some_iff.1 hi).1
 have : (i + 1) * sz ≤ els.length * sz := Nat.mul_le_mul_right _ hle
 rw [Nat.add_mul, Nat.one_mul] at this
 refine ⟨b, _, (z.cells.toList.drop o).take m, h1, rfl, fun j hj => ?_, (g1.cells.drop o).take m, fun w' hc => ex_loadN fr hx' ht (by simp; omega) hc⟩
 rw [pc h2 (by omega), Nat.add_assoc, g3 _ (by omega), List.getElem?_take, if_pos hj, List.getElem?_drop]
theorem uT {t e : TypeId} {x : Operand} {id sz i o m : Nat} {els : List V} {v0 : V} (hr : HRel S w ρ h) (fr : Fr a n (fA a)) (hx : Opd S w ρ a x (.el id sz i o)) (ho : h id = .row e sz els) (ht : jj P t = some m) (hi : els[i]? = some v0) (hl : o + m ≤ v0.cells.length) : Does P S w ρ h a ty (.load t x) (some (.agg ((v0.cells.drop o).take m))) h (fun _ => False) := by
 obtain ⟨b, u, ys, h1, _, h2, h3, h4⟩ := tS (P := P) (ty := ty) hr fr hx ho ht hi hl
 exact ⟨_, w, ρ, h4 w h2, Eff.refl hr, _, rfl, by simp only [VRel]; exact ⟨ys, rfl, h3⟩⟩
theorem Dd {t : TypeId} {nid : Nat} {z : List Value} {zv : List V} (hr : HRel S w ρ h) (hf : h nid = .free) (hz : lH P t = some z) (hzv : ∀ S w ρ, LRel S w ρ zv z) : Does P S w ρ h a ty (.alloc t) (some (.ptr nid 0)) (cy h nid (.var t zv)) (fun _ => False) := by
 obtain ⟨w', b, h1, h2, h3, h4, h5⟩ := rG (P := P) z hz a w ty
 refine ⟨_, w', dK ρ nid (.pointer (some ⟨b, 0, none⟩)), h1, eff_new hr hf h3 ⟨b, z, bg _ _ _, h2, hzv _ _ _⟩ (fun b' hb' => ?_), _, rfl, ?_⟩
 ·simp only [own, bg, Option.some.injEq, Value.pointer.injEq, Addr.mk.injEq, and_true] at hb'; omega
 ·simp only [VRel]; exact ⟨b, bg _ _ _, rfl⟩
theorem FI {t : TypeId} {x : Operand} {nid : Nat} {v : V} (hr : HRel S w ρ h) (fr : Fr a n (fA a)) (hf : h nid = .free) (hx : Opd S w ρ a x v) : Does P S w ρ h a ty (.box t x) (some (.ptr nid 0)) (cy h nid (.var t v.cells)) (fun _ => False) := by
 obtain ⟨y, g1, g2⟩ := hx
 obtain ⟨w', b, h1, h2, h3, h4, h5⟩ := di (P := P) (t := t) (cs := y.cells.toList) fr g1 (by simp) w ty
 refine ⟨_, w', dK ρ nid (.pointer (some ⟨b, 0, none⟩)), h1, eff_new hr hf h3 ⟨b, _, bg _ _ _, h2, g2.cells.up (sy hr hf h3)⟩ (fun b' hb' => ?_), _, rfl, ?_⟩
 ·simp only [own, bg, Option.some.injEq, Value.pointer.injEq, Addr.mk.injEq, and_true] at hb'; omega
 ·simp only [VRel]; exact ⟨b, bg _ _ _, rfl⟩
theorem ud {t tb : TypeId} {f : Nat → Option Value} {x y : Operand} {b o m : Nat} {v : Value} {cs : List Value} (h : Fr a n f) (hx : av f x = some (.pointer (some ⟨b, o, none⟩))) (hy : av f y = some v) (hz : dG P t = some m) (hv : v.cells.size = m) (hone : v.cells.toList.all (·.oneCell') = true) (hb : Blk w b tb cs) (hm : o + m ≤ cs.length) (ty : TypeId) :
  ∃ w', Runs P a ty (.store t x y) w .skip w' ∧ Blk w' b tb (cs.take o ++ v.cells.toList ++ cs.drop (o + m)) ∧ Chg [b] w w' := by
 obtain ⟨i, hi, hs⟩ := Option.map_eq_some_iff.1 (show (P.info? t).map (·.size) = some m from hz)
 have key : ∀ (l : List Value) (j : Nat) (w : World) (cs : List Value), Blk w b tb cs → o + j + l.length ≤ cs.length → l.all (·.oneCell') = true → ∃ w', (storeCells ⟨b, o, none⟩ l j).run P w = .ok () w' ∧ Blk w' b tb (cs.take (o + j) ++ l ++ cs.drop (o + j + l.length)) ∧ Chg [b] w w' := by
  intro l
  induction l with
  | nil => intro j w cs hb hj _; exact ⟨w, by simp [storeCells], by simpa using hb, Chg.refl _ _⟩
  | cons c r ih =>
   intro j w cs hb hj hone
   simp only [List.all_cons, Bool.and_eq_true] at hone
   simp only [List.length_cons] at hj
   have ho : o + j < cs.length := by omega
   have hc : w.cell? ⟨b, o + j, none⟩ = some cs[o + j] := by rw [hb.cell]; simp [ho]
   have hfz := hb.frozen (o + j)
   have ha : (⟨b, o, none⟩ : Addr).add j = ⟨b, o + j, none⟩ := no b o j
   obtain ⟨w2, h1, h2, h3⟩ := ih (j + 1) (w.setCell ⟨b, o + j, none⟩ c) (cs.set (o + j) c) (hb.set (o + j) c) (by simp; omega) hone.2
   refine ⟨w2, ?_, ?_, (Chg.set w b (o + j) c).trans h3 (fun x hx => .inl hx)⟩
   ·simp only [storeCells, ha]
    have hst := run_store P w ⟨b, o + j, none⟩ c .plain hone.1
    simp [hst, stored, hc, hfz]
    exact h1
   ·have e1 : (cs.set (o + j) c).take (o + (j + 1)) = cs.take (o + j) ++ [c] := by
     rw [← Nat.add_assoc, List.take_succ_eq_append_getElem (by simpa using ho), List.take_set_of_le (Nat.le_refl _)]
     simp
    have e2 : (cs.set (o + j) c).drop (o + (j + 1) + r.length) = cs.drop (o + j + (r.length + 1)) := by
     rw [List.drop_set_of_lt (by omega)]; congr 1; omega
    rw [e1, e2] at h2
    simpa using h2
 obtain ⟨w1, h1, h2, h3⟩ := key v.cells.toList 0 w cs hb (by simp; omega) hone
 refine ⟨w1, fun _ _ _ _ => ?_, by simpa [hv] using h2, h3⟩
 simp only [execOp, h.eval hx, h.eval hy]
 simp [Instr.storeAt, Instr.sureAddr, storeVar, sizeOf, typeInfo, hi, hs, hv, h1]
theorem oX : ∀ {vs : List V} {xs : List Value}, LRel S w ρ vs xs → vs.all V.one = true → xs.all (·.oneCell') = true
 | [], xs, hl, h1 => by simp only [LRel] at hl; subst hl; rfl
 | v :: r, xs, hl, h1 => by
  simp only [LRel] at hl
  obtain ⟨x, ys, rfl, h2, h3⟩ := hl
  simp only [List.all_cons, Bool.and_eq_true] at h1 ⊢
  exact ⟨h2.one h1.1, oX h3 h1.2⟩
theorem Al {X : List Nat} {id : Nat} (hr : HRel S w ρ h) (hc : Chg X w w') (hX : ∀ b, b ∈ X → own ρ id (h id) b) : Up S S w w' ρ ρ :=
 ⟨fun _ h => h, fun b hb hlt => hc.block b hlt (fun hx => hr.sep id b (hX b hx) hb), fun _ _ h => h⟩
theorem Dx {t tb : TypeId} {x y : Operand} {id o m : Nat} {cs : List V} {v : V} (hr : HRel S w ρ h) (fr : Fr a n (fA a)) (hx : Opd S w ρ a x (.ptr id o)) (hy : Opd S w ρ a y v) (ho : h id = .var tb cs) (hz : dG P t = some m) (hv : v.cells.length = m) (h1 : v.cells.all V.one = true) (hm : o + m ≤ cs.length) :
  Does P S w ρ h a ty (.store t x y) none (cy h id (.var tb (nO cs o v.cells))) (· = id) := by
 obtain ⟨b, xs, g1, g2, g3⟩ := nw hr ho
 obtain ⟨z, k1, k2⟩ := hy
 have hlen := k2.cells.length
 simp only [Array.length_toList] at hlen
 obtain ⟨w', r1, r2, r3⟩ := ud (P := P) (t := t) (m := m) fr (tI hx g1) k1 hz (by omega) (oX k2.cells h1) g2 (by have := g3.length; omega) ty
 have hX : ∀ c, c ∈ [b] → own ρ id (h id) c := fun c hc => by simp at hc; subst hc; rw [ho]; exact g1
 have u := Al hr r3 hX
 refine ⟨_, w', ρ, r1, xP hr r3 hX ⟨b, _, g1, r2, ?_⟩ (fun c hc => by rw [ho]; exact hc), rfl⟩
 unfold nO
 rw [hv]
 exact (((g3.take o).append k2.cells).append (g3.drop _)).up u
theorem CRel.set {sz : Nat} : ∀ {vs : List V} {xs : List Value} {i : Nat} {v : V} {x : Value}, CRel S w ρ sz vs xs → i < vs.length → VRel S w ρ v x → x.cells.size = sz → x.cells.toList.all (·.oneCell') = true → CRel S w ρ sz (vs.set i v) (xs.take (i * sz) ++ x.cells.toList ++ xs.drop (i * sz + sz))
 | [], xs, i, v, x, hc, hi, hx, hs, h1 => by simp at hi
 | u :: r, xs, 0, v, x, hc, hi, hx, hs, h1 => by
  simp only [CRel] at hc
  obtain ⟨y, ys, rfl, ⟨h2, h2'⟩, h3, h4⟩ := hc
  refine ⟨x, ys, ?_, ⟨hs, h1⟩, hx, h4⟩
  simp [h2, List.drop_append]
 | u :: r, xs, i + 1, v, x, hc, hi, hx, hs, h1 => by
  simp only [CRel] at hc
  obtain ⟨y, ys, rfl, ⟨h2, h2'⟩, h3, h4⟩ := hc
  have ih := CRel.set (i := i) h4 (by simpa using hi) hx hs h1
  refine ⟨y, _, ?_, ⟨h2, h2'⟩, h3, ih⟩
  have e1 : (y.cells.toList ++ ys).take ((i + 1) * sz) = y.cells.toList ++ ys.take (i * sz) := by
   rw [List.take_append, List.take_of_length_le (by simp [h2, Nat.add_mul])]
   congr 2
   simp [h2, Nat.add_mul]
  have e2 : (y.cells.toList ++ ys).drop ((i + 1) * sz + sz) = ys.drop (i * sz + sz) := by
   rw [List.drop_append, List.drop_of_length_le (by simp [h2, Nat.add_mul])]
   simp [h2, Nat.add_mul]
  rw [e1, e2]; simp
def V.over (v0 : V) (o : Nat) (ps : List V) : V := match v0 with
 | .agg cs => .agg (nO cs o ps)
 |v0 => match ps with
  | [p] => p
  | _ => v0
theorem rP {t e : TypeId} {x y : Operand} {id sz i o m : Nat} {els : List V} {v0 v : V} (hr : HRel S w ρ h) (fr : Fr a n (fA a)) (hx : Opd S w ρ a x (.el id sz i o)) (hy : Opd S w ρ a y v) (ho : h id = .row e sz els) (hz : dG P t = some m) (hi : els[i]? = some v0) (hv : v.cells.length = m) (h1 : v.cells.all V.one = true) (hm : o + m ≤ v0.cells.length)
  (hv0 : (∃ cs, v0 = .agg cs) ∨ (v0.cells = [v0] ∧ v.cells = [v])) : Does P S w ρ h a ty (.store t x y) none (cy h id (.row e sz (els.set i (v0.over o v.cells)))) (· = id) := by
 obtain ⟨u, xs, g1, g2, g3⟩ := kB hr ho
 obtain ⟨b, k, c, rfl, hx'⟩ := wk hx g1
 obtain ⟨z, k1, k2⟩ := hy
 have hlen := k2.cells.length
 simp only [Array.length_toList] at hlen
 obtain ⟨z0, q1, q2, q3⟩ := g3.get hi
 have hle : i < els.length := (List.getElem?_eq_some_iff.1 hi).1
 have hmul : (i + 1) * sz ≤ els.length * sz := Nat.mul_le_mul_right _ hle
 rw [Nat.add_mul, Nat.one_mul] at hmul
 have hl0 := q1.cells.length
 simp only [Array.length_toList] at hl0
 have hxl := g3.length
 rcases g2.2 with ⟨hc, _⟩ | ⟨g, cap, cur, hv1, hb, hg, h4, h5, h6, h7⟩
 ·cases hc
 ·injection hv1 with hv2 hv3 hv4
  injection hv2 with hv2
  injection hv2 with hv2
  subst hv2 hv3 hv4
  have hcap : els.length * sz ≤ c * sz := Nat.mul_le_mul_right _ h4
  have hB : Blk w b e cur.toList := by unfold Blk; rw [hg]
  obtain ⟨w', r1, r2, r3⟩ := ud (P := P) (t := t) (m := m) fr hx' k1 hz (by omega) (oX k2.cells h1) hB (by simp; omega) ty
  have hX : ∀ d, d ∈ [b] → own ρ id (h id) d := fun d hd => by simp at hd; subst hd; rw [ho]; exact ⟨_, g1, rfl⟩
  have up := Al hr r3 hX
  have hnew : ∃ q, VRel S w ρ (v0.over o v.cells) q ∧ q.cells.toList = z0.cells.toList.take o ++ z.cells.toList ++ z0.cells.toList.drop (o + m) := by
   rcases hv0 with ⟨cs, rfl⟩ | ⟨e1, e2⟩
   ·refine ⟨.agg (z0.cells.toList.take o ++ z.cells.toList ++ z0.cells.toList.drop (o + m)).toArray, ?_, by simp [Value.cells]⟩
    simp only [V.over, VRel]
    refine ⟨_, rfl, ?_⟩
    unfold nO
    rw [hv]
    exact ((q1.cells.take o).append k2.cells).append (q1.cells.drop _)
   ·have : v0.over o v.cells = v := by
     rw [e2]
     cases v0 with
     | agg cs =>
      simp only [V.cells] at e1
      have hs := congrArg SizeOf.sizeOf e1
      simp at hs; omega
     | _ => rfl
    rw [this]
    refine ⟨z, k2, ?_⟩
    rw [e1] at hm hl0
    rw [e2] at hv
    simp at hm hl0 hv
    subst hv
    obtain rfl : o = 0 := by omega
    rw [List.drop_of_length_le (l := z0.cells.toList) (by simp [hl0])]
    simp
  obtain ⟨q, hn1, hn2⟩ := hnew
  have hsz' : q.cells.size = sz := by
   have := congrArg List.length hn2
   simp only [Array.length_toList, List.length_append, List.length_take, List.length_drop] at this
   rw [this]; omega
  have hones : (z0.cells.toList.take o ++ z.cells.toList ++ z0.cells.toList.drop (o + m)).all (·.oneCell') = true := by
   have hall : z0.cells.toList.all (·.oneCell') = true := by
    have h0 : ∀ j, j < sz → ∃ u, z0.cells.toList[j]? = some u ∧ u.oneCell' = true := fun j hj => by
     have hq := q3 j hj
     have : i * sz + j < xs.length := by omega
     refine ⟨xs[i * sz + j], ?_, g3.ones _ (List.getElem_mem _)⟩
     rw [← hq]; simp [this]
    rw [List.all_eq_true]
    intro u hu
    obtain ⟨j, hj, rfl⟩ := List.getElem_of_mem hu
    obtain ⟨u', e1, e2⟩ := h0 j (by simp at hj; omega)
    rw [List.getElem?_eq_getElem hj] at e1
    cases e1; exact e2
   have hall2 := oX k2.cells h1
   rw [List.all_eq_true] at hall hall2 ⊢
   intro u hu
   simp only [List.mem_append] at hu
   rcases hu with (hu | hu) | hu
   ·exact hall u (List.mem_of_mem_take hu)
   ·exact hall2 u hu
   ·exact hall u (List.mem_of_mem_drop hu)
  have hset := CRel.set (i := i) g3 hle hn1 hsz' (by rw [hn2]; exact hones)
  rw [hn2] at hset
  have hcur : cur.toList.take (els.length * sz) = xs := h7
  have e9 : xs.take (i * sz) ++ (z0.cells.toList.take o ++ z.cells.toList ++ z0.cells.toList.drop (o + m)) ++ xs.drop (i * sz + sz) = xs.take (i * sz + o) ++ z.cells.toList ++ xs.drop (i * sz + o + m) := by
   apply List.ext_getElem?
   intro j
   have hz0 : ∀ j, j < sz → z0.cells.toList[j]? = xs[i * sz + j]? := fun j hj => (q3 j hj).symm
   have L1 : (xs.take (i * sz)).length = i * sz := by simp; omega
   have L2 : (z0.cells.toList.take o).length = o := by simp; omega
   have L3 : z.cells.toList.length = m := by simp; omega
   have L4 : (z0.cells.toList.drop (o + m)).length = sz - (o + m) := by simp; omega
   have L5 : (xs.take (i * sz + o)).length = i * sz + o := by simp; omega
   simp only [List.getElem?_append, L1, L2, L3, L4, L5, List.length_append, List.getElem?_take, List.getElem?_drop]
   by_cases c1 : j < i * sz
   ·simp [c1, show j < i * sz + (o + m + (sz - (o + m))) by omega, show j < i * sz + o + m by omega, show j < i * sz + o by omega]
   ·by_cases c2 : j < i * sz + o
    ·simp [c1, c2, show j < i * sz + (o + m + (sz - (o + m))) by omega, show j < i * sz + o + m by omega, show j - i * sz < o + m by omega, show j - i * sz < o by omega]
     have := hz0 (j - i * sz) (by omega)
     simp at this
     rw [this]; congr 1; omega
    ·by_cases c3 : j < i * sz + o + m
     ·simp [c1, c2, c3, show j < i * sz + (o + m + (sz - (o + m))) by omega, show j - i * sz < o + m by omega, show ¬ j - i * sz < o by omega]
      congr 1; omega
     ·by_cases c4 : j < i * sz + sz
      ·simp [c1, c2, c3, show j < i * sz + (o + m + (sz - (o + m))) by omega, show ¬ j - i * sz < o + m by omega]
       rw [show o + m + (j - i * sz - (o + m)) = j - i * sz by omega]
       have := hz0 (j - i * sz) (by omega)
       simp at this
       rw [this]; congr 1; omega
      ·simp [c1, c2, c3, show ¬ j < i * sz + (o + m + (sz - (o + m))) by omega]
       congr 1; omega
  rw [e9] at hset
  refine ⟨_, w', ρ, r1, xP hr r3 hX ⟨_, _, g1, ⟨?_, .inr ⟨b, c, (cur.toList.take (i * sz + o) ++ z.cells.toList ++ cur.toList.drop (i * sz + o + m)).toArray, ?_, hb, r2, by simpa using h4, h5, ?_, rfl⟩⟩, ?_⟩ (fun d hd => by rw [ho]; exact hd), rfl⟩
  ·simp; omega
  ·simp
  ·simp; omega
  ·have e10 : List.take ((els.set i (v0.over o v.cells)).length * sz) (cur.toList.take (i * sz + o) ++ z.cells.toList ++ cur.toList.drop (i * sz + o + m)).toArray.toList = xs.take (i * sz + o) ++ z.cells.toList ++ xs.drop (i * sz + o + m) := by
    simp only [List.length_set]
    rw [← hcur]
    apply List.ext_getElem?
    intro j
    have K1 : (cur.toList.take (i * sz + o)).length = i * sz + o := by simp; omega
    have K2 : (List.take (i * sz + o) (List.take (els.length * sz) cur.toList)).length = i * sz + o := by simp; omega
    simp only [List.getElem?_take, List.getElem?_append, K1, K2, List.length_append, Array.length_toList, List.getElem?_drop]
    by_cases c0 : j < els.length * sz
    ·by_cases c1 : j < i * sz + o
     ·simp [c0, c1, show j < i * sz + o + z.cells.size by omega]
     ·by_cases c2 : j < i * sz + o + z.cells.size
      ·simp [c0, c1, c2]
      ·simp [c0, c1, c2, show i * sz + o + m + (j - (i * sz + o + z.cells.size)) < els.length * sz by omega]
    ·simp [c0, show ¬ j < i * sz + o + z.cells.size by omega, show ¬ i * sz + o + m + (j - (i * sz + o + z.cells.size)) < els.length * sz by omega]
   rw [e10]
   exact hset.up up
end
end Go.Proofs.YtpnpdlnpikkeaaaGreat
namespace Go.Proofs.YtpnpdlnpikkeaaaGreat
open Go.RowKit
section
variable {P : Program} {S : Nat → Prop} {w w' : World} {ρ ρ' : Nat → Option Value} {h h' : Nat → Ob} {a : Act} {n : Nat} {ty : TypeId}
def jr (sz : Nat) : Nat → List (Nat × V) → Option (List V)
 | _, [] => some []
 |i, (j, v) :: r => match Nat.beq i j && Nat.beq v.cells.length sz && v.cells.all V.one with
  |true => match jr sz (i + 1) r with
   | some vs => some (v :: vs)
   | none => none
  | false => none
theorem oE {sz : Nat} : ∀ {vs : List (Nat × V)} {ys : List (Nat × Value)} {i : Nat} {els : List V}, PRel S w ρ vs ys → jr sz i vs = some els →
  ys.map (·.1) = (List.range' i els.length) ∧ (ys.all fun p => p.2.cells.size == sz) = true ∧ CRel S w ρ sz els (ys.flatMap fun p => p.2.cells.toList)
 | [], ys, i, els, hp, hr => by
  simp only [PRel] at hp; subst hp
  simp only [jr, Option.some.injEq] at hr; subst hr
  simp [CRel]
 | (j, v) :: r, ys, i, els, hp, hr => by
  simp only [PRel] at hp
  obtain ⟨x, zs, rfl, hx, hq⟩ := hp
  simp only [jr] at hr
  split at hr
  ·rename_i hc
   simp only [Bool.and_eq_true, Nat.beq_eq] at hc
   split at hr
   ·rename_i vs hvs
    simp only [Option.some.injEq] at hr; subst hr
    obtain ⟨h1, h2, h3⟩ := oE hq hvs
    have hl := hx.cells.length
    simp only [Array.length_toList] at hl
    refine ⟨?_, ?_, ?_⟩
    ·simp [h1, hc.1.1, List.range'_succ]
    ·simp only [List.all_cons, h2, Bool.and_true, beq_iff_eq]; rw [hl, hc.1.2]
    ·simp only [List.flatMap_cons]
     exact ⟨x, _, rfl, ⟨by rw [hl, hc.1.2], oX hx.cells hc.2⟩, hx, h3⟩
   ·cases hr
  ·cases hr
theorem BD {t e : TypeId} {ps : List (Nat × Operand)} {vs : List (Nat × V)} {ys : List (Nat × Value)} {sz m nid : Nat} {z : List Value} {els : List V} (hr : HRel S w ρ h) (fr : Fr a n (fA a)) (hf : h nid = .free) (hps : eC (fA a) ps = some ys) (hpr : PRel S w ρ vs ys) (ht : P.underlying t = some (.slice e)) (hz : dG P e = some sz) (hzero : lH P e = some z)
  (hp : jr sz 0 vs = some els) (hl : els.length = m) (hsm : Nat.ble (m * sz) 16777216 = true) (hm : Nat.ble m 16777216 = true) : Does P S w ρ h a ty (.buildSlice t m ps.toArray) (some (.sl nid)) (cy h nid (.row e sz els)) (fun _ => False) := by
 obtain ⟨h1, h2, h3⟩ := oE hpr hp
 have hidx : ps.map (·.1) = List.range m := by
  have : ps.map (·.1) = ys.map (·.1) := by rw [← fr.parts hps]; simp
  rw [this, h1, hl, List.range_eq_range']
 obtain ⟨w', b, g1, g2, g3, g4, g5⟩ := tP (P := P) (t := t) (m := m) fr hps ht hz hzero hidx h2 hsm rfl w ty
 have hlen := h3.length
 have hmm : m ≤ 16777216 := Nat.le_of_ble_eq_true hm
 have own := sY (base := 0) g2 (Nat.zero_le _) (m := m) (size := sz) (by rw [hlen, hl]) (by simp only [Nat.ble_eq, maxLen]; omega)
 refine ⟨_, w', dK ρ nid (.slice (some ⟨b, 0, none⟩) m m), g1, eff_new hr hf g3 ⟨_, _, bg _ _ _, by rw [hl]; exact own, h3.up (sy hr hf g3)⟩ (fun b' hb' => ?_), _, rfl, ?_⟩
 ·obtain ⟨v, e1, e2⟩ := hb'
  rw [bg] at e1
  cases e1
  simp [Value.ownBlock] at e2; omega
 ·simp only [VRel]; exact ⟨bg _ _ _, rfl⟩
theorem ux {z : List Value} (hz : 0 < z.length) : ∀ m, (madeCells z.toArray (m * z.length)).toList = (List.replicate m z).flatten := by
 intro m
 apply List.ext_getElem?
 intro j
 have hl : ((List.replicate m z).flatten).length = m * z.length := by simp
 by_cases hj : j < m * z.length
 ·have hlt : j % z.length < z.length := Nat.mod_lt _ hz
  have h1 : (madeCells z.toArray (m * z.length)).toList[j]? = some z[j % z.length] := by
   simp [madeCells, hj, hlt]
  rw [h1]
  have key : ∀ (m j : Nat), j < m * z.length → ((List.replicate m z).flatten)[j]? = some (z[j % z.length]'(Nat.mod_lt _ hz)) := by
   intro m
   induction m with
   | zero => intro j hj; simp at hj
   | succ m ih =>
    intro j hj
    simp only [List.replicate_succ, List.flatten_cons]
    by_cases hc : j < z.length
    ·rw [List.getElem?_append_left hc]
     simp [Nat.mod_eq_of_lt hc, hc]
    ·rw [List.getElem?_append_right (by omega), ih (j - z.length) (by rw [Nat.add_mul] at hj; omega)]
     congr 1
     have : (j - z.length) % z.length = j % z.length := by
      conv => rhs; rw [show j = (j - z.length) + z.length by omega]
      simp
     simp [this]
  exact (key m j hj).symm
 ·rw [List.getElem?_eq_none (by simp [madeCells]; omega), List.getElem?_eq_none (by rw [hl]; omega)]
theorem vz {sz : Nat} {zv : V} {z : Value} (hz : z.cells.size = sz) (h1 : z.cells.toList.all (·.oneCell') = true) (hv : VRel S w ρ zv z) : ∀ m, CRel S w ρ sz (List.replicate m zv) ((List.replicate m z.cells.toList).flatten)
 | 0 => by simp [CRel]
 | m + 1 => by
  simp only [List.replicate_succ, List.flatten_cons]
  exact ⟨z, _, rfl, ⟨hz, h1⟩, hv, vz hz h1 hv m⟩
theorem Ay {t e : TypeId} {x y : Operand} {m nid sz by_ : Nat} {z : Value} {zv : V} (hr : HRel S w ρ h) (fr : Fr a n (fA a)) (hf : h nid = .free) (hx : Opd S w ρ a x (.int .i64 (m : Int))) (hy : Opd S w ρ a y (.int .i64 (m : Int))) (ht : P.underlying t = some (.slice e))
  (hi : (P.info? e).map (fun i => (i.zero, i.size, i.bytes)) = some (some z, sz, by_)) (hzs : z.cells.size = sz) (hsz : 0 < sz) (h1 : z.cells.toList.all (·.oneCell') = true) (hzv : ∀ S w ρ, VRel S w ρ zv z) (hb : by_ * m ≤ 281474976710656) (hm : m ≤ maxLen) :
  Does P S w ρ h a ty (.makeSlice t x y) (some (.sl nid)) (cy h nid (.row e sz (List.replicate m zv))) (fun _ => False) := by
 have hmm : m ≤ 9223372036854775807 := by simp only [maxLen] at hm; omega
 have hcs : madeCells z.cells (m * sz) = (List.replicate m z.cells.toList).flatten.toArray := by
  rw [← ux (by simp; omega)]; simp [hzs]
 obtain ⟨w', b, g1, g2, g3, g4, g5⟩ := CX (P := P) fr (br hx) (br hy) ht hi (by simpa using hb) (by simpa using hmm) hcs w ty
 have hcr := vz (S := S) (w := w) (ρ := ρ) hzs h1 (hzv _ _ _) m
 have hlen := hcr.length
 simp only [List.length_replicate] at hlen
 have own := sY (base := 0) g2 (Nat.zero_le _) (m := m) (size := sz) hlen (by simpa using hm)
 refine ⟨_, w', dK ρ nid (.slice (some ⟨b, 0, none⟩) m m), g1, eff_new hr hf g3 ⟨_, _, bg _ _ _, by simpa using own, hcr.up (sy hr hf g3)⟩ (fun b' hb' => ?_), _, rfl, ?_⟩
 ·obtain ⟨v, e1, e2⟩ := hb'
  rw [bg] at e1
  cases e1
  simp [Value.ownBlock] at e2; omega
 ·simp only [VRel]; exact ⟨bg _ _ _, rfl⟩
theorem su {t e : TypeId} {sz k c d : Nat} {A B : Option Addr} (ht : P.underlying t = some (.slice e)) (hz : dG P e = some sz) (hk : k ≤ c) : (Builtin.append_ #[t, t] ty #[.slice A k c, .slice B 0 d]).run P w = .ok (.slice A k c) w := by
 obtain ⟨inf, hi, hs⟩ := Option.map_eq_some_iff.1 (show (P.info? e).map (·.size) = some sz from hz)
 have hso : (sizeOf e).run P w = .ok sz w := by simp [sizeOf, typeInfo, hi, hs]
 cases A <;> cases B <;> simp [Builtin.append_, run_underlying ht, hso, Builtin.lenOf, Builtin.firstCells, hk, loadCells, loadCellsFrom, storeCells]
def oJ (S : Nat → Prop) (w : World) (ρ : Nat → Option Value) (sz : Nat) (els : List V) (y : Value) : Prop :=
 ∃ A c xs, y = .slice A els.length c ∧ CRel S w ρ sz els xs ∧ (0 < els.length → ∃ b off, A = some ⟨b, off, none⟩ ∧ ∀ j, j < els.length * sz → w.cell? ⟨b, off + j, none⟩ = xs[j]?)
theorem Dv {sz : Nat} {els : List V} {y : Value} (hy : VRel S w ρ (.row sz els) y) : oJ S w ρ sz els y := by
 simp only [VRel] at hy
 obtain ⟨A, c, xs, rfl, h3, h4, h5, h6⟩ := hy
 exact ⟨A, c, xs, rfl, h5.up up0, fun hn => by obtain ⟨b, off, e, _, _, hc⟩ := h6.2 hn; exact ⟨b, off, e, hc⟩⟩
theorem BJ {sz : Nat} {y : Value} (hy : VRel S w ρ .nils y) : oJ S w ρ sz [] y := by
 simp only [VRel] at hy; subst hy
 exact ⟨none, 0, [], rfl, by simp [CRel], fun hn => by simp at hn⟩
theorem CE {id sz : Nat} {e : TypeId} {els : List V} {y : Value} (hr : HRel S w ρ h) (ho : h id = .row e sz els) (hy : VRel S w ρ (.sl id) y) : oJ S w ρ sz els y := by
 simp only [VRel] at hy
 obtain ⟨v, xs, h1, h2, h3⟩ := kB hr ho
 rw [hy.1] at h1
 cases h1
 obtain ⟨A, c, rfl, _⟩ := eW h2
 refine ⟨A, c, xs, rfl, h3, fun hn => ?_⟩
 obtain ⟨g, cap, hv, _⟩ := h2.form hn
 injection hv with hv1 _ hv2
 subst hv1
 exact ⟨g, 0, rfl, fun j hj => by rw [Nat.zero_add]; exact pc h2 hj⟩
theorem tq {t e : TypeId} {x y : Operand} {sz by_ : Nat} {z u v : Value} {els news : List V} {xs : List Value} (fr : Fr a n (fA a)) (hx : av (fA a) x = some u) (hy : av (fA a) y = some v) (hu : w.ownsRow 0 e sz u els.length xs) (hcx : CRel S w ρ sz els xs) (hv : oJ S w ρ sz news v) (ht : P.underlying t = some (.slice e))
  (hi : (P.info? e).map (fun i => (i.zero, i.size, i.bytes)) = some (some z, sz, by_)) (hzs : z.cells.size = sz) (hsz : 0 < sz) (h63 : els.length + news.length ≤ maxLen) (hby : (els.length + news.length) * by_ ≤ 140737488355328) :
  ∃ v' w' ys, Runs P a ty (.call { callee := .builtin .append, args := #[x, y], argTypes := #[t, t] }) w (.value v') w' ∧ w'.ownsRow 0 e sz v' (els.length + news.length) ys ∧ CRel S w ρ sz (els ++ news) ys ∧ Chg u.ownBlock.toList w w' ∧ (v'.ownBlock = u.ownBlock ∨ v'.ownBlock = some w.heap.size) := by
 obtain ⟨A, c, ns, rfl, hcr, hcell⟩ := hv
 have hsize : dG P e = some sz := by
  obtain ⟨i0, hi0, hx0⟩ := Option.map_eq_some_iff.1 hi
  simp only [Prod.mk.injEq] at hx0
  simp [dG, hi0, hx0.2.1]
 by_cases hn : news = []
 ·subst hn
  simp only [CRel] at hcr; subst hcr
  obtain ⟨B, d, rfl, hd, _⟩ := eW hu
  refine ⟨.slice B els.length d, w, xs, fun _ _ _ _ => ?_, by simpa using hu, by simpa using hcx, Chg.refl _ _, .inl rfl⟩
  simp only [execOp, resolve, invoke, builtin, List.map_toArray, List.map_cons, List.map_nil, fr.eval hx, fr.eval hy]
  have := su (P := P) (w := w) (ty := ty) (A := B) (B := A) (d := c) ht hsize hd
  simp only [List.length_nil]
  simp [this]
 ·have hpos : 0 < news.length := List.length_pos_iff.2 hn
  obtain ⟨b, off, rfl, hc⟩ := hcell hpos
  obtain ⟨i0, hi0, hx0⟩ := Option.map_eq_some_iff.1 hi
  simp only [Prod.mk.injEq] at hx0
  obtain ⟨hz, hs, hbb⟩ := hx0
  obtain ⟨v', w', hrun, h2, h3, _, h5⟩ := run_append_own_at (P := P) w 0 t ty e i0 z sz by_ ht hi0 hz hs hbb hzs hsz u els.length xs hu ⟨b, off, none⟩ news.length c ns hcr.length
   (fun j q hq => by
    have hj : j < ns.length := (List.getElem?_eq_some_iff.1 hq).1
    rw [no, hc j (by rw [← hcr.length]; exact hj)]; exact hq) hcr.ones h63 hby (Nat.zero_le _)
  refine ⟨v', w', xs ++ ns, fun _ _ _ _ => ?_, h2, hcx.append hcr, Chg.grown h3, h5⟩
  simp only [execOp, resolve, invoke, builtin, List.map_toArray, List.map_cons, List.map_nil, fr.eval hx, fr.eval hy]
  simp [hrun]
theorem xb {base e sz k : Nat} {v : Value} {xs : List Value} (hv : w.ownsRow base e sz v k xs) : v.oneCell' = true := by
 obtain ⟨A, c, rfl, _⟩ := eW hv; rfl
section
variable {t e : TypeId} {x y : Operand} {sz by_ nid : Nat} {z v : Value} {els news : List V} (hr : HRel S w ρ h) (fr : Fr a n (fA a)) (hf : h nid = .free) (hy : av (fA a) y = some v) (hv : oJ S w ρ sz news v) (ht : P.underlying t = some (.slice e))
    (hi : (P.info? e).map (fun i => (i.zero, i.size, i.bytes)) = some (some z, sz, by_)) (hzs : z.cells.size = sz) (hsz : 0 < sz)
include hr fr hf hy hv ht hi hzs hsz
theorem vU {id : Nat} (hx : Opd S w ρ a x (.sl id)) (ho : h id = .row e sz els) (h63 : els.length + news.length ≤ maxLen) (hby : (els.length + news.length) * by_ ≤ 140737488355328) :
  Does P S w ρ h a ty (.call { callee := .builtin .append, args := #[x, y], argTypes := #[t, t] }) (some (.sl nid)) (cy (cy h id .gone) nid (.row e sz (els ++ news))) (· = id) := by
 obtain ⟨u, k1, k2⟩ := hx
 simp only [VRel] at k2
 obtain ⟨u', xs, h1, h2, h3⟩ := kB hr ho
 rw [k2.1] at h1
 cases h1
 obtain ⟨v', w', ys, g1, g2, g3, g4, g5⟩ := tq (P := P) (ty := ty) fr k1 hy h2 h3 hv ht hi hzs hsz h63 hby
 have hX : ∀ b, b ∈ u.ownBlock.toList → own ρ id (h id) b := fun b hb => by simp at hb; rw [ho]; exact ⟨u, k2.1, hb⟩
 have hn : ρ nid = none := by have := hr.ob nid; rw [hf] at this; exact this
 have up : Up S S w w' ρ (dK ρ nid v') := by
  refine ⟨fun _ h => h, fun b hb hlt => g4.block b hlt (fun hc => hr.sep id b (hX b hc) hb), fun i q hq => ?_⟩
  have : i ≠ nid := fun e => by subst e; rw [hn] at hq; cases hq
  rw [lS _ _ this]; exact hq
 refine ⟨_, w', dK ρ nid v', g1, vj hr hf (by rw [ho]; simp) g4 hX ⟨v', ys, bg _ _ _, by simpa using g2, g3.up up⟩ (fun b hb => ?_), _, rfl, ?_⟩
 ·obtain ⟨q, e1, e2⟩ := hb
  rw [bg] at e1
  cases e1
  rcases g5 with g5 | g5
  ·exact .inl (by rw [ho]; exact ⟨u, k2.1, by rw [← g5]; exact e2⟩)
  ·rw [g5] at e2; simp at e2; exact .inr (by omega)
 ·simp only [VRel]; exact ⟨bg _ _ _, xb g2⟩
theorem AP (hx : Opd S w ρ a x .nils) (h63 : news.length ≤ maxLen) (hby : news.length * by_ ≤ 140737488355328) :
  Does P S w ρ h a ty (.call { callee := .builtin .append, args := #[x, y], argTypes := #[t, t] }) (some (.sl nid)) (cy h nid (.row e sz news)) (fun _ => False) := by
 obtain ⟨u, k1, k2⟩ := hx
 simp only [VRel] at k2
 subst k2
 obtain ⟨v', w', ys, g1, g2, g3, g4, g5⟩ := tq (P := P) (ty := ty) (els := []) (xs := []) fr k1 hy (World.ownsRow_nil w 0 e sz) (by simp [CRel]) hv ht hi hzs hsz (by simpa using h63) (by simpa using hby)
 have up := sy (x := v') hr hf g4
 simp only [List.length_nil, Nat.zero_add, List.nil_append] at g2 g3
 refine ⟨_, w', dK ρ nid v', g1, eff_new hr hf g4 ⟨v', ys, bg _ _ _, g2, g3.up up⟩ (fun b hb => ?_), _, rfl, ?_⟩
 ·obtain ⟨q, e1, e2⟩ := hb
  rw [bg] at e1
  cases e1
  rcases g5 with g5 | g5
  ·rw [g5] at e2; cases e2
  ·rw [g5] at e2; simp at e2; omega
 ·simp only [VRel]; exact ⟨bg _ _ _, xb g2⟩
end
theorem Dq {t e : TypeId} {x y : Operand} {sz nid id k : Nat} {els : List V} (hr : HRel S w ρ h) (fr : Fr a n (fA a)) (hf : h nid = .free) (hx : Opd S w ρ a x (.sl id)) (hy : Opd S w ρ a y (.int .i64 (k : Int))) (ho : h id = .row e sz els) (ht : P.underlying t = some (.slice e)) (hz : dG P e = some sz) (hk : k ≤ els.length) :
  Does P S w ρ h a ty (.slice t x none (some y) none) (some (.sl nid)) (cy (cy h id .gone) nid (.row e sz (els.take k))) (· = id) := by
 obtain ⟨u, k1, k2⟩ := hx
 simp only [VRel] at k2
 obtain ⟨u', xs, h1, h2, h3⟩ := kB hr ho
 rw [k2.1] at h1
 cases h1
 obtain ⟨A, c, rfl, hc, hcm⟩ := eW h2
 have hrun := AF (P := P) (w := w) (ty := ty) (lo := none) (hi := some y) (i := 0) (j := k) fr ht hz k1 (.inl ⟨rfl, rfl⟩) (.inr ⟨y, rfl, br hy⟩) (Nat.zero_le _) hk hc
 have eA : (if c = 0 then A else A.map (·.add (0 * sz))) = A := by
  split
  ·rfl
  ·cases A with
   | none => rfl
   | some ad => simp [Addr.add]
 rw [eA] at hrun
 simp only [Nat.sub_zero] at hrun
 have hn : ρ nid = none := by have := hr.ob nid; rw [hf] at this; exact this
 have up : Up S S w w ρ (dK ρ nid (.slice A k c)) := by
  refine ⟨fun _ h => h, fun b hb hlt => rfl, fun i q hq => ?_⟩
  have : i ≠ nid := fun e => by subst e; rw [hn] at hq; cases hq
  rw [lS _ _ this]; exact hq
 have hlen : (els.take k).length = k := by simp; omega
 have own' : w.ownsRow 0 e sz (.slice A k c) k (xs.take (k * sz)) := by
  have hmul : k * sz ≤ els.length * sz := Nat.mul_le_mul_right _ hk
  refine ⟨by rw [List.length_take, h2.1, Nat.min_eq_left hmul], ?_⟩
  rcases h2.2 with ⟨h0, h0'⟩ | ⟨g, cap, cur, hv, q1, q2, q3, q4, q5, q6⟩
  ·injection h0 with e1 e2 e3
   subst e1 e3
   exact .inl ⟨by rw [show k = 0 by omega], by omega⟩
  ·injection hv with e1 e2 e3
   subst e1 e3
   refine .inr ⟨g, c, cur, rfl, q1, q2, by omega, q4, q5, ?_⟩
   rw [← q6, List.take_take, Nat.min_eq_left hmul]
 refine ⟨_, w, dK ρ nid (.slice A k c), hrun, vj (X := []) hr hf (by rw [ho]; simp) (Chg.refl _ _) (by simp) ⟨_, _, bg _ _ _, by rw [hlen]; exact own', (h3.take k).up up⟩ (fun b hb => ?_), _, rfl, ?_⟩
 ·obtain ⟨q, e1, e2⟩ := hb
  rw [bg] at e1
  cases e1
  exact .inl (by rw [ho]; exact ⟨_, k2.1, by cases A <;> simp [Value.ownBlock] at e2 ⊢; exact e2⟩)
 ·simp only [VRel]; exact ⟨bg _ _ _, rfl⟩
theorem gh {id : Nat} (hr : HRel S w ρ h) : HRel (fun b => S b ∨ own ρ id (h id) b) w ρ (cy h id .gone) ∧ Up S (fun b => S b ∨ own ρ id (h id) b) w w ρ ρ := by
 have up : Up S (fun b => S b ∨ own ρ id (h id) b) w w ρ ρ := ⟨fun _ h => .inl h, fun _ _ _ => rfl, fun _ _ h => h⟩
 have back : ∀ i b, own ρ i (cy h id .gone i) b → i ≠ id ∧ own ρ i (h i) b := fun i b hb => by
  by_cases hi : i = id
  ·subst hi; rw [bK] at hb; exact hb.elim
  ·rw [cq _ _ hi] at hb; exact ⟨hi, hb⟩
 refine ⟨⟨fun i => ?_, fun i b hb => ?_, fun i j b hbi hbj => hr.dis i j b (back i b hbi).2 (back j b hbj).2, fun b hb => ?_⟩, up⟩
 ·by_cases hi : i = id
  ·subst hi; rw [bK]; trivial
  ·rw [cq _ _ hi]
   refine (hr.ob i).up up (fun hf => ?_) (fun _ _ => rfl)
   have := hr.ob i; rw [hf] at this; exact this
 ·obtain ⟨h1, h2⟩ := back i b hb
  rintro (h3 | h3)
  ·exact hr.sep i b h2 h3
  ·exact h1 (hr.dis i id b h2 h3)
 ·rcases hb with hb | hb
  ·exact hr.slt b hb
  ·exact fd (hr.ob id) hb
theorem sC {id sz : Nat} {e : TypeId} {els : List V} {x : Value} (hr : HRel S w ρ h) (ho : h id = .row e sz els) (hp : pureL els = true) (hx : VRel S w ρ (.sl id) x) : VRel (fun b => S b ∨ own ρ id (h id) b) w ρ (.row sz els) x := by
 simp only [VRel] at hx
 obtain ⟨v, xs, h1, h2, h3⟩ := kB hr ho
 rw [hx.1] at h1
 cases h1
 obtain ⟨A, c, rfl, hc, hcm⟩ := eW h2
 simp only [VRel]
 refine ⟨A, c, xs, rfl, hc, hcm, (h3.up (gh hr).2).pure hp, h3.length, fun hn => ?_⟩
 obtain ⟨g, cap, hv, _, hlt⟩ := h2.form hn
 injection hv with e1 e2 e3
 subst e1 e3
 exact ⟨g, 0, rfl, .inr (by rw [ho]; exact ⟨_, hx.1, rfl⟩), hlt, fun j hj => by rw [Nat.zero_add]; exact pc h2 hj⟩
theorem yG {id o : Nat} {t : TypeId} {cs : List V} {x : Value} (hr : HRel S w ρ h) (ho : h id = .var t cs) (hp : pureL cs = true) (hx : VRel S w ρ (.ptr id o) x) : VRel (fun b => S b ∨ own ρ id (h id) b) w ρ (.box cs o) x := by
 simp only [VRel] at hx
 obtain ⟨b, xs, h1, h2, h3⟩ := nw hr ho
 obtain ⟨b', h4, rfl⟩ := hx
 rw [h1] at h4
 simp only [Option.some.injEq, Value.pointer.injEq, Addr.mk.injEq, and_true] at h4
 subst h4
 simp only [VRel]
 exact ⟨b, 0, xs, by simp, .inr (by rw [ho]; exact h1), h2.lt, (h3.up (gh hr).2).pure hp, fun j hj => by rw [Nat.zero_add, h2.cell]⟩
end
end Go.Proofs.YtpnpdlnpikkeaaaGreat
namespace Go.Proofs.YtpnpdlnpikkeaaaGreat
open Go.RowKit
abbrev Fm := List (Option V)
def Fm.get : Fm → Nat → Option V
 | [], _ => none
 | x :: _, 0 => x
 | _ :: r, i + 1 => Fm.get r i
def Fm.put {α : Type} : Fm → Nat → Option V → (Fm → α) → α
 | [], _, _, c => c []
 | _ :: r, 0, v, c => c (v :: r)
 | x :: r, i + 1, v, c => Fm.put r i v fun r' => c (x :: r')
def Fm.puto {α : Type} (F : Fm) (d : Option Tmp) (v : Option V) (c : Fm → α) : α := match d with
 | some d => F.put d v c
 | none => c F
def fu {α : Type} (n : Nat) (c : Nat → α) : α := match n with
 | 0 => c 0
 | m + 1 => c (Nat.succ m)
def yl {α : Type} (n : Int) (c : Int → α) : α := match n with
 | .ofNat m => fu m fun m => c (.ofNat m)
 | .negSucc m => fu m fun m => c (.negSucc m)
def listK {α β : Type} : List β → (List β → α) → α
 | [], c => c []
 | x :: r, c => listK r fun r' => c (x :: r')
theorem dg {α : Type} (n : Nat) (c : Nat → α) : fu n c = c n := by cases n <;> rfl
theorem wU {α : Type} (n : Int) (c : Int → α) : yl n c = c n := by cases n <;> simp [yl, dg]
theorem cw {α β : Type} : ∀ (l : List β) (c : List β → α), listK l c = c l
 | [], c => rfl
 | x :: r, c => by simp [listK, cw r]
theorem Fm.get_eq : ∀ (F : Fm) (i : Nat), F.get i = (F[i]?).bind id
 | [], i => by simp [Fm.get]
 | x :: r, 0 => by simp [Fm.get]
 | x :: r, i + 1 => by simp [Fm.get, Fm.get_eq r i]
theorem Fm.put_eq {α : Type} : ∀ (F : Fm) (i : Nat) (v : Option V) (c : Fm → α), F.put i v c = c (F.set i v)
 | [], i, v, c => by simp [Fm.put]
 | x :: r, 0, v, c => by simp [Fm.put]
 | x :: r, i + 1, v, c => by simp [Fm.put, Fm.put_eq r i]
def Fm.seto (F : Fm) (d : Option Tmp) (v : Option V) : Fm := match d with
 | some d => F.set d v
 | none => F
theorem Fm.puto_eq {α : Type} (F : Fm) (d : Option Tmp) (v : Option V) (c : Fm → α) : F.puto d v c = c (F.seto d v) := by
 cases d with
 | none => rfl
 | some d => exact Fm.put_eq F d v c
inductive TK where
 | sc
 | bool
 | str
 | sl (e : TypeId)
 | struct (fs : List (Nat × Nat × Bool))
 | arr (len : Nat) (e : TypeId)
structure TD where
 size : Nat
 bytes : Nat
 zero : V
 kind : TK
structure Tab where
 frc : Bool
 ty : TypeId → Option TD
 fn : FuncId → Option Func
 nat : FuncId → List V → Option V
 keep : FuncId → Bool
def yY : Value → V → Bool
 | .int k n, .int k' m => k == k' && n == m
 | .bool b, .bool c => b == c
 | .string s, .str l => s.data.toList == l
 | .pointer none, .nilp => true
 | .slice none 0 0, .nils => true
 | .map none, .raw (.map none) => true
 | _, _ => false
def yt : List Value → List V → Bool
 | [], [] => true
 | x :: r, v :: q => yY x v && yt r q
 | _, _ => false
def zEq : Value → V → Bool
 | .agg cs, .agg vs => yt cs.toList vs
 | x, v => yY x v
def oS (P : Program) (t : TypeId) : Nat → List (Nat × Nat × Bool) → Bool
 | _, [] => true
 |i, (o, s, b) :: r => (match b with
  | true => nA P t i == some o
  | false => nq P t i == some (o, s)) && eZ P t i == some o && oS P t (i + 1) r
def kE (P : Program) (t : TypeId) (size : Nat) : TK → Bool
 | .sc => du P t
 | .bool => du P t && match P.underlying t with | some .bool => true | _ => false
 | .str => du P t && match P.underlying t with | some .string => true | _ => false
 | .sl e => du P t && match P.underlying t with | some (.slice e') => e == e' | _ => false
 | .struct fs => jj P t == some size && rb P t == some (fs.map fun p => (p.1, p.2.1)) && oS P t 0 fs
 | .arr len e => jj P t == some size && match P.underlying t with | some (.array len' e') => len == len' && e == e' | _ => false
def tdB (P : Program) (t : TypeId) (d : TD) : Bool :=
 match P.info? t with
 |some inf => match inf.zero with
  | some z => inf.size == d.size && inf.bytes == d.bytes && zEq z d.zero && z.cells.size == d.size && kE P t d.size d.kind && z.cells.toList.all (·.oneCell')
  | none => false
 | none => false
structure TdOk (P : Program) (t : TypeId) (d : TD) : Prop where
 size : dG P t = some d.size
 info : ∃ z : Value, (P.info? t).map (fun i => (i.zero, i.size, i.bytes)) = some (some z, d.size, d.bytes) ∧ (∀ S w ρ, VRel S w ρ d.zero z) ∧ z.cells.size = d.size ∧ z.cells.toList.all (·.oneCell') = true
 kind : kE P t d.size d.kind = true
theorem xy {S : Nat → Prop} {w : World} {ρ : Nat → Option Value} {x : Value} {v : V} (h : yY x v = true) : VRel S w ρ v x := by
 unfold yY at h
 split at h
 ·simp only [Bool.and_eq_true, beq_iff_eq] at h; simp only [VRel]; rw [h.1, h.2]
 ·simp only [beq_iff_eq] at h; simp only [VRel]; rw [h]
 ·simp only [beq_iff_eq] at h; simp only [VRel]; rw [← h]
 ·simp only [VRel]
 ·simp only [VRel]
 ·simp only [VRel]; exact ⟨trivial, rfl⟩
 ·cases h
theorem xm {S : Nat → Prop} {w : World} {ρ : Nat → Option Value} : ∀ {xs : List Value} {vs : List V}, yt xs vs = true → LRel S w ρ vs xs
 | [], [], h => by simp [LRel]
 | x :: r, v :: q, h => by
  simp only [yt, Bool.and_eq_true] at h
  exact ⟨x, r, rfl, xy h.1, xm h.2⟩
 | [], _ :: _, h => by cases h
 | _ :: _, [], h => by cases h
theorem Eb {S : Nat → Prop} {w : World} {ρ : Nat → Option Value} {x : Value} {v : V} (h : zEq x v = true) : VRel S w ρ v x := by
 unfold zEq at h
 split at h
 ·simp only [VRel]; exact ⟨_, rfl, xm h⟩
 ·exact xy h
theorem ET {P : Program} {t : TypeId} {d : TD} (h : tdB P t d = true) : TdOk P t d := by
 unfold tdB at h
 split at h
 ·rename_i inf hi
  split at h
  ·rename_i z hz
   simp only [Bool.and_eq_true, beq_iff_eq] at h
   obtain ⟨⟨⟨⟨⟨h1, h2⟩, h3⟩, h4⟩, h5⟩, h6⟩ := h
   exact ⟨by simp [dG, hi, h1], ⟨z, by simp [hi, hz, h1, h2], fun S w ρ => Eb h3, h4, h6⟩, h5⟩
  ·cases h
 ·cases h
theorem TdOk.zeroT {P : Program} {t : TypeId} {d : TD} (h : TdOk P t d) : ∃ z, lH P t = some z ∧ ∀ S w ρ, LRel S w ρ d.zero.cells z := by
 obtain ⟨z, h1, h2, _⟩ := h.info
 obtain ⟨i0, hi0, hx0⟩ := Option.map_eq_some_iff.1 h1
 simp only [Prod.mk.injEq] at hx0
 exact ⟨z.cells.toList, by unfold Go.Proofs.YtpnpdlnpikkeaaaGreat.lH; simp [hi0, hx0.1], fun S w ρ => (h2 S w ρ).cells⟩
def TD.agg (d : TD) : Bool := match d.kind with
 | .struct _ => true
 | .arr _ _ => true
 | _ => false
theorem TdOk.sc {P : Program} {t : TypeId} {d : TD} (h : TdOk P t d) (ha : d.agg = false) : du P t = true := by
 have hk := h.kind
 unfold TD.agg at ha
 cases hd : d.kind with
 | sc => rw [hd] at hk; exact hk
 | bool => rw [hd] at hk; simp only [kE, Bool.and_eq_true] at hk; exact hk.1
 | str => rw [hd] at hk; simp only [kE, Bool.and_eq_true] at hk; exact hk.1
 | sl e => rw [hd] at hk; simp only [kE, Bool.and_eq_true] at hk; exact hk.1
 | struct fs => rw [hd] at ha; cases ha
 | arr _ _ => rw [hd] at ha; cases ha
theorem TdOk.ag {P : Program} {t : TypeId} {d : TD} (h : TdOk P t d) (ha : d.agg = true) : jj P t = some d.size := by
 have hk := h.kind
 unfold TD.agg at ha
 cases hd : d.kind with
 | struct fs => rw [hd] at hk; simp only [kE, Bool.and_eq_true, beq_iff_eq] at hk; exact hk.1.1
 | arr _ _ => rw [hd] at hk; simp only [kE, Bool.and_eq_true, beq_iff_eq] at hk; exact hk.1
 | _ => rw [hd] at ha; cases ha
theorem TdOk.bool {P : Program} {t : TypeId} {d : TD} (h : TdOk P t d) (hd : d.kind = .bool) : P.underlying t = some .bool := by
 have hk := h.kind
 rw [hd] at hk; simp only [kE, Bool.and_eq_true] at hk
 have := hk.2
 split at this
 ·assumption
 ·cases this
theorem TdOk.str {P : Program} {t : TypeId} {d : TD} (h : TdOk P t d) (hd : d.kind = .str) : P.underlying t = some .string := by
 have hk := h.kind
 rw [hd] at hk; simp only [kE, Bool.and_eq_true] at hk
 have := hk.2
 split at this
 ·assumption
 ·cases this
theorem TdOk.sl {P : Program} {t e : TypeId} {d : TD} (h : TdOk P t d) (hd : d.kind = .sl e) : P.underlying t = some (.slice e) := by
 have hk := h.kind
 rw [hd] at hk; simp only [kE, Bool.and_eq_true] at hk
 have := hk.2
 split at this
 ·rename_i e' hu; simp only [beq_iff_eq] at this; rw [this]; exact hu
 ·cases this
theorem TdOk.arr {P : Program} {t e : TypeId} {n : Nat} {d : TD} (h : TdOk P t d) (hd : d.kind = .arr n e) : P.underlying t = some (.array n e) := by
 have hk := h.kind
 rw [hd] at hk; simp only [kE, Bool.and_eq_true] at hk
 have := hk.2
 split at this
 ·rename_i n' e' hu; simp only [Bool.and_eq_true, beq_iff_eq] at this; rw [this.1, this.2]; exact hu
 ·cases this
theorem sw {P : Program} {t : TypeId} : ∀ {fs : List (Nat × Nat × Bool)} {k : Nat}, oS P t k fs = true → ∀ i o s b, fs[i]? = some (o, s, b) → eZ P t (k + i) = some o ∧ (b = true → nA P t (k + i) = some o) ∧ (b = false → nq P t (k + i) = some (o, s))
 | [], k, h, i, o, s, b, hi => by simp at hi
 | (o', s', b') :: r, k, h, 0, o, s, b, hi => by
  simp only [List.getElem?_cons_zero, Option.some.injEq, Prod.mk.injEq] at hi
  obtain ⟨rfl, rfl, rfl⟩ := hi
  simp only [oS, Bool.and_eq_true, beq_iff_eq] at h
  refine ⟨h.1.2, fun hb => ?_, fun hb => ?_⟩
  ·subst hb; have := h.1.1; simpa using this
  ·subst hb; have := h.1.1; simpa using this
 | (o', s', b') :: r, k, h, i + 1, o, s, b, hi => by
  simp only [oS, Bool.and_eq_true] at h
  have := sw h.2 i o s b (by simpa using hi)
  rw [show k + 1 + i = k + (i + 1) by omega] at this
  exact this
theorem TdOk.fields {P : Program} {t : TypeId} {d : TD} {fs : List (Nat × Nat × Bool)} (h : TdOk P t d) (hd : d.kind = .struct fs) : rb P t = some (fs.map fun p => (p.1, p.2.1)) ∧ ∀ i o s b, fs[i]? = some (o, s, b) → eZ P t i = some o ∧ (b = true → nA P t i = some o) ∧ (b = false → nq P t i = some (o, s)) := by
 have hk := h.kind
 rw [hd] at hk; simp only [kE, Bool.and_eq_true, beq_iff_eq] at hk
 refine ⟨hk.1.2, fun i o s b hi => ?_⟩
 have := sw hk.2 i o s b hi
 rwa [Nat.zero_add] at this
structure TabOk (P : Program) (T : Tab) : Prop where
 ty : ∀ t d, T.ty t = some d → TdOk P t d
 fn : ∀ i f, T.fn i = some f → P.funcs[i]? = some f ∧ cF P i = true
 nat : ∀ i vs v, T.nat i vs = some v → cF P i = true ∧ ∀ S w ρ xs, LRel S w ρ vs xs → ∃ x, VRel S w ρ v x ∧ Calls P i xs.toArray w fun e w' => e = .returned x ∧ w = w'
structure FRel (S : Nat → Prop) (w : World) (ρ : Nat → Option Value) (a : Act) (n : Nat) (F : Fm) : Prop where
 size : a.tmps.size = n
 defers : a.defers = []
 len : F.length ≤ n
 get : ∀ i v, F.get i = some v → ∃ x, a.tmps[i]? = some x ∧ VRel S w ρ v x
section
variable {S S' : Nat → Prop} {w w' : World} {ρ ρ' : Nat → Option Value} {a : Act} {n : Nat} {F : Fm}
theorem FRel.fr (h : FRel S w ρ a n F) : Fr a n (fA a) := ⟨h.size, h.defers, fun _ _ h => h⟩
theorem FRel.up (u : Up S S' w w' ρ ρ') (h : FRel S w ρ a n F) : FRel S' w' ρ' a n F :=
 ⟨h.size, h.defers, h.len, fun i v hv => by obtain ⟨x, h1, h2⟩ := h.get i v hv; exact ⟨x, h1, h2.up u⟩⟩
theorem FRel.set (h : FRel S w ρ a n F) (d : Option Tmp) {v : Option V} {x : Value} (hx : ∀ u, v = some u → VRel S w ρ u x) : FRel S w ρ (a.put d x) n (F.seto d v) := by
 cases d with
 | none => exact h
 | some d =>
  refine ⟨by simp [Act.put, h.size], h.defers, by simp [Fm.seto]; exact h.len, fun i u hu => ?_⟩
  simp only [Fm.seto, Fm.get_eq, List.getElem?_set] at hu
  simp only [Act.put, Array.getElem?_setIfInBounds, h.size]
  by_cases hid : d = i
  ·subst hid
   simp only [if_true] at hu ⊢
   split at hu
   ·rename_i hlt
    simp only [Option.bind_some, id_eq] at hu
    exact ⟨x, by simp [Nat.lt_of_lt_of_le hlt h.len], hx u hu⟩
   ·cases hu
  ·simp only [if_neg hid] at hu ⊢
   exact h.get i u (by rw [Fm.get_eq]; exact hu)
end
def zi : Value → Option V
 | .int k n => some (.int k n)
 | .bool b => some (.bool b)
 | .string s => some (.str s.data.toList)
 | .pointer none => some .nilp
 | .slice none 0 0 => some .nils
 | _ => none
def ve : List Value → Option (List V)
 | [] => some []
 |v :: r => match zi v with
  |some x => match ve r with
   | some xs => some (x :: xs)
   | none => none
  | none => none
def ofV : Value → Option V
 |.agg cs => match ve cs.toList with
  | some l => some (.agg l)
  | none => none
 | v => zi v
def aT (F : Fm) : Operand → Option V
 | .tmp t => F.get t
 | .const v => ofV v
 | _ => none
def jb (F : Fm) : List Operand → Option (List V)
 | [] => some []
 |x :: r => match aT F x with
  |some v => match jb F r with
   | some vs => some (v :: vs)
   | none => none
  | none => none
def kC (F : Fm) : List (Nat × Operand) → Option (List (Nat × V))
 | [] => some []
 |(i, x) :: r => match aT F x with
  |some v => match kC F r with
   | some vs => some ((i, v) :: vs)
   | none => none
  | none => none
section
variable {S S' : Nat → Prop} {w w' : World} {ρ ρ' : Nat → Option Value} {a : Act} {n : Nat} {F : Fm}
theorem xc {x : Value} {v : V} (h : zi x = some v) : VRel S w ρ v x := by
 unfold zi at h
 split at h <;> first | (simp only [Option.some.injEq] at h; subst h; simp only [VRel]; done) | cases h
theorem wO : ∀ {xs : List Value} {vs : List V}, ve xs = some vs → LRel S w ρ vs xs
 | [], vs, h => by simp only [ve, Option.some.injEq] at h; subst h; simp [LRel]
 | x :: r, vs, h => by
  simp only [ve] at h
  split at h
  ·rename_i v hv
   split at h
   ·rename_i us hu
    simp only [Option.some.injEq] at h; subst h
    exact ⟨x, r, rfl, xc hv, wO hu⟩
   ·cases h
  ·cases h
theorem EA {x : Value} {v : V} (h : ofV x = some v) : VRel S w ρ v x := by
 unfold ofV at h
 split at h
 ·split at h
  ·rename_i l hl
   simp only [Option.some.injEq] at h; subst h
   simp only [VRel]; exact ⟨_, rfl, wO hl⟩
  ·cases h
 ·exact xc h
theorem al (hF : FRel S w ρ a n F) {x : Operand} {v : V} (h : aT F x = some v) : Opd S w ρ a x v := by
 unfold aT at h
 split at h
 ·rename_i t
  obtain ⟨y, h1, h2⟩ := hF.get t v h
  exact ⟨y, h1, h2⟩
 ·rename_i c
  exact ⟨c, rfl, EA h⟩
 ·cases h
theorem pe (hF : FRel S w ρ a n F) : ∀ {l : List Operand} {vs : List V}, jb F l = some vs → ∃ xs, mv (fA a) l = some xs ∧ LRel S w ρ vs xs
 | [], vs, h => by simp only [jb, Option.some.injEq] at h; subst h; exact ⟨[], rfl, by simp [LRel]⟩
 | x :: r, vs, h => by
  simp only [jb] at h
  split at h
  ·rename_i v hv
   split at h
   ·rename_i us hu
    simp only [Option.some.injEq] at h; subst h
    obtain ⟨y, h1, h2⟩ := al hF hv
    obtain ⟨ys, h3, h4⟩ := pe hF hu
    exact ⟨y :: ys, by simp only [mv, h1, h3], ⟨y, ys, rfl, h2, h4⟩⟩
   ·cases h
  ·cases h
theorem mG (hF : FRel S w ρ a n F) : ∀ {l : List (Nat × Operand)} {vs : List (Nat × V)}, kC F l = some vs → ∃ ys, eC (fA a) l = some ys ∧ PRel S w ρ vs ys
 | [], vs, h => by simp only [kC, Option.some.injEq] at h; subst h; exact ⟨[], rfl, by simp [PRel]⟩
 | (i, x) :: r, vs, h => by
  simp only [kC] at h
  split at h
  ·rename_i v hv
   split at h
   ·rename_i us hu
    simp only [Option.some.injEq] at h; subst h
    obtain ⟨y, h1, h2⟩ := al hF hv
    obtain ⟨ys, h3, h4⟩ := mG hF hu
    exact ⟨(i, y) :: ys, by simp only [eC, h1, h3], ⟨y, ys, rfl, h2, h4⟩⟩
   ·cases h
  ·cases h
end
end Go.Proofs.YtpnpdlnpikkeaaaGreat
namespace Go.Proofs.YtpnpdlnpikkeaaaGreat
open Go.RowKit
def iEq : Int → Int → Bool
 | .ofNat a, .ofNat b => Nat.beq a b
 | .negSucc a, .negSucc b => Nat.beq a b
 | _, _ => false
def iLt : Int → Int → Bool
 | .ofNat a, .ofNat b => Nat.blt a b
 | .negSucc a, .negSucc b => Nat.blt b a
 | .negSucc _, .ofNat _ => true
 | .ofNat _, .negSucc _ => false
def inR : Int → Bool
 | .ofNat a => Nat.ble a 9223372036854775807
 | .negSucc a => Nat.ble a 9223372036854775807
def lEq : List UInt8 → List UInt8 → Bool
 | [], [] => true
 |a :: r, b :: q => match Nat.beq a.toNat b.toNat with
  | true => lEq r q
  | false => false
 | _, _ => false
def kEq : IntKind → IntKind → Bool
 | .i64, .i64 => true
 | .u8, .u8 => true
 | _, _ => false
theorem oV (m l : Int) : iEq m l = (m == l) := by
 rw [Bool.eq_iff_iff]; cases m <;> cases l <;> simp [iEq] <;> omega
theorem oY (m l : Int) : iLt m l = decide (m < l) := by
 rw [Bool.eq_iff_iff]; cases m <;> cases l <;> simp [iLt] <;> omega
theorem Eq {n : Int} (h : inR n = true) : -9223372036854775808 ≤ n ∧ n ≤ 9223372036854775807 := by
 cases n with
 | ofNat a => simp only [inR, Nat.ble_eq] at h; simp only [Int.ofNat_eq_natCast]; omega
 | negSucc a => simp only [inR, Nat.ble_eq] at h; omega
theorem mw : ∀ (m l : List UInt8), lEq m l = (m == l)
 | [], [] => rfl
 | [], _ :: _ => rfl
 | _ :: _, [] => rfl
 | a :: r, b :: q => by
  simp only [lEq]
  split
  ·rename_i hb
   have : a = b := UInt8.toNat_inj.1 (Nat.eq_of_beq_eq_true hb)
   subst this
   simp [mw r q]
  ·rename_i hb
   have : a ≠ b := fun e => by subst e; simp at hb
   simp [this]
theorem Ez {k k' : IntKind} (h : kEq k k' = true) : k = k' := by
 unfold kEq at h; split at h <;> first | rfl | cases h
def mkB (b : Bool) : Option V := match b with
 | true => some (.bool true)
 | false => some (.bool false)
theorem EH (b : Bool) : mkB b = some (.bool b) := by cases b <;> rfl
def mi (f : Bool) (fast slow : Bool) : Option V := match f with
 | true => mkB fast
 | false => some (.bool slow)
theorem hW {f fast slow : Bool} {v : V} (he : fast = slow) (h : mi f fast slow = some v) : v = .bool slow := by
 subst he
 unfold mi at h
 split at h
 ·rw [EH] at h; simpa using h.symm
 ·simpa using h.symm
def yS (f : Bool) (k : IntKind) (n : Int) : Option V := match f with
 |true => match k with
  |.i64 => yl n fun n => match inR n with
   | true => some (.int .i64 n)
   | false => none
  | _ => none
 | false => some (.int k (k.wrap n))
theorem xo {f : Bool} {k : IntKind} {n : Int} {v : V} (h : yS f k n = some v) : v = .int k (k.wrap n) := by
 unfold yS at h
 split at h
 ·split at h
  ·rw [wU] at h
   split at h
   ·rename_i hr
    have e : IntKind.i64.wrap n = n := IntWalk.i64_in _ (by have := Eq hr; omega)
    rw [e]; simpa using h.symm
   ·cases h
  ·cases h
 ·simpa using h.symm
def Ce (T : Tab) (op : BinOp) (t : TypeId) : V → V → Option V
 |.int k m, .int k' l => match kEq k k' with
  | false => none
  |true => match op with
   | .eql => mi T.frc (iEq m l) (m == l)
   | .neq => mi T.frc (!iEq m l) (m != l)
   | .lss => mi T.frc (iLt m l) (decide (m < l))
   | .gtr => mi T.frc (iLt l m) (decide (l < m))
   | .leq => mi T.frc (!iLt l m) (decide (m ≤ l))
   | .geq => mi T.frc (!iLt m l) (decide (l ≤ m))
   | .add => yS T.frc k (m + l)
   | .sub => yS T.frc k (m - l)
   | _ => none
 |.str m, .str l => match op with
  | .eql => mi T.frc (lEq m l) (m == l)
  | .neq => mi T.frc (!lEq m l) (m != l)
  |.add => match T.frc with
   |true => match Nat.ble (m.length + l.length) 9223372036854775807 with
    | true => listK (m ++ l) fun r => some (.str r)
    | false => none
   | false => none
  | _ => none
 |.bool m, .bool l => match T.ty t with
  |some ⟨_, _, _, .bool⟩ => match op with
   | .eql => mi T.frc (m == l) (m == l)
   | .neq => mi T.frc (m != l) (m != l)
   | _ => none
  | _ => none
 | _, _ => none
def atV : List V → Nat → Option V
 | [], _ => none
 | x :: _, 0 => some x
 | _ :: r, i + 1 => atV r i
theorem ll : ∀ (l : List V) (i : Nat), atV l i = l[i]?
 | [], i => by simp [atV]
 | x :: r, 0 => by simp [atV]
 | x :: r, i + 1 => by simp [atV, ll r i]
def atB : List UInt8 → Nat → Option UInt8
 | [], _ => none
 | x :: _, 0 => some x
 | _ :: r, i + 1 => atB r i
theorem zS : ∀ (l : List UInt8) (i : Nat), atB l i = l[i]?
 | [], i => by simp [atB]
 | x :: r, 0 => by simp [atB]
 | x :: r, i + 1 => by simp [atB, zS r i]
def atF : List (Nat × Nat × Bool) → Nat → Option (Nat × Nat × Bool)
 | [], _ => none
 | x :: _, 0 => some x
 | _ :: r, i + 1 => atF r i
theorem vk : ∀ (l : List (Nat × Nat × Bool)) (i : Nat), atF l i = l[i]?
 | [], i => by simp [atF]
 | x :: r, 0 => by simp [atF]
 | x :: r, i + 1 => by simp [atF, vk r i]
def ya (T : Tab) (t : TypeId) (i : Nat) : Option (Nat × Nat × Bool) := match T.ty t with
 | some ⟨_, _, _, .struct fs⟩ => atF fs i
 | _ => none
def re : List V → Nat → List V
 | l, 0 => l
 | [], _ + 1 => []
 | _ :: r, i + 1 => re r i
theorem pP : ∀ (l : List V) (i : Nat), re l i = l.drop i
 | [], 0 => rfl
 | _ :: _, 0 => rfl
 | [], i + 1 => by simp [re]
 | _ :: r, i + 1 => by simp [re, pP r i]
def pH {α : Type} : List V → Nat → (List V → Option α) → Option α
 | _, 0, c => c []
 | [], _ + 1, _ => none
 | x :: r, i + 1, c => pH r i fun r' => c (x :: r')
theorem pi {α : Type} : ∀ {l : List V} {i : Nat} {c : List V → Option α} {v : α}, pH l i c = some v → i ≤ l.length ∧ c (l.take i) = some v
 | l, 0, c, v, h => by simpa [pH] using h
 | [], i + 1, c, v, h => by simp [pH] at h
 | x :: r, i + 1, c, v, h => by
  simp only [pH] at h
  have := pi h
  simpa using this
def ml (d : TD) (cs : List V) (o : Nat) : Option V := match d.agg with
 |true => match Nat.blt 0 d.size with
  | true => pH (re cs o) d.size fun l => some (.agg l)
  | false => none
 | false => atV cs o
def BL (f : Bool) (m l : Int) : Option V := match f with
 |true => match iLt m l with
  | true => some (.int .i64 l)
  | false => some (.int .i64 m)
 | false => some (.int .i64 (max m l))
theorem Dm {f : Bool} {m l : Int} {v : V} (h : BL f m l = some v) : v = .int .i64 (max m l) := by
 unfold BL at h
 split at h
 ·split at h
  ·rename_i hb
   rw [oY] at hb
   simp only [decide_eq_true_eq] at hb
   injection h with h; rw [← h, Int.max_eq_right (by omega)]
  ·rename_i hb
   rw [oY] at hb
   simp only [decide_eq_false_iff_not] at hb
   injection h with h; rw [← h, Int.max_eq_left (by omega)]
 ·injection h with h; exact h.symm
def lE (T : Tab) (h : Nat → Ob) (F : Fm) (op : Op) : Option V :=
 match op with
 | .move x => aT F x
 | .assign x => aT F x
 |.pick c x y => match aT F c with
  | some (.bool true) => aT F x
  | some (.bool false) => aT F y
  | _ => none
 |.nilCheck x => match aT F x with
  | some (.ptr id o) => some (.ptr id o)
  | some (.el id sz i o) => some (.el id sz i o)
  | some (.box cs o) => some (.box cs o)
  | _ => none
 |.extract x i => match aT F x with
  | some (.tup vs) => atV vs i
  | _ => none
 |.unOp .not _ x => match aT F x with
  | some (.bool b) => mi T.frc (!b) (!b)
  | _ => none
 |.fieldAddr t x i => match ya T t i with
  |some (k, _, _) => match aT F x with
   | some (.ptr id o) => fu (o + k) fun r => some (.ptr id r)
   | some (.el id sz j o) => fu (o + k) fun r => some (.el id sz j r)
   | some (.box cs o) => fu (o + k) fun r => some (.box cs r)
   | _ => none
  | none => none
 |.field t x i => match aT F x with
  |some (.agg cs) => match ya T t i with
   | some (k, _, true) => atV cs k
   | some (k, m, false) => pH (re cs k) m fun l => some (.agg l)
   | none => none
  | _ => none
 |.binOp op t x y _ => match aT F x with
  |some a => match aT F y with
   | some b => Ce T op t a b
   | none => none
  | none => none
 |.call ⟨.builtin .len, ⟨[x]⟩, ⟨[t]⟩⟩ => match T.ty t with
  |some ⟨_, _, _, .sl _⟩ => match aT F x with
   | some .nils => some (.int .i64 0)
   |some (.row _ els) => match T.frc with
    | true => fu els.length fun n => some (.int .i64 (.ofNat n))
    | false => some (.int .i64 els.length)
   |some (.sl id) => match h id with
    |.row _ _ els => match T.frc with
     | true => fu els.length fun n => some (.int .i64 (.ofNat n))
     | false => some (.int .i64 els.length)
    | _ => none
   | _ => none
  |some ⟨_, _, _, .str⟩ => match aT F x with
   |some (.str l) => match T.frc with
    | true => fu l.length fun n => some (.int .i64 (.ofNat n))
    | false => some (.int .i64 l.length)
   | _ => none
  | _ => none
 |.call ⟨.builtin .max, ⟨[x, y]⟩, ⟨[t, u]⟩⟩ => match aT F x with
  |some (.int .i64 m) => match aT F y with
   | some (.int .i64 l) => BL T.frc m l
   | _ => none
  | _ => none
 |.index t x y => match T.ty t with
  |some ⟨_, _, _, .str⟩ => match aT F x with
   |some (.str l) => match aT F y with
    |some (.int .i64 (.ofNat i)) => match atB l i with
     | some c => fu c.toNat fun c => some (.int .u8 (.ofNat c))
     | none => none
    | _ => none
   | _ => none
  | _ => none
 |.indexAddr t x y => match T.ty t with
  |some ⟨_, _, _, .sl e⟩ => match T.ty e with
   |some d => match aT F x with
    |some (.row sz els) => match aT F y with
     |some (.int .i64 (.ofNat i)) => match Nat.beq sz d.size with
      |true => match atV els i with
       | some v => listK v.cells fun cs => some (.box cs 0)
       | none => none
      | false => none
     | _ => none
    |some (.sl id) => match h id with
     |.row _ sz els => match aT F y with
      |some (.int .i64 (.ofNat i)) => match Nat.beq sz d.size && Nat.blt i els.length with
       | true => some (.el id sz i 0)
       | false => none
      | _ => none
     | _ => none
    | _ => none
   | none => none
  | _ => none
 |.build t ⟨ps⟩ => match T.ty t with
  |some ⟨_, _, z, .struct fs⟩ => match kC F ps with
   |some vs => match nX (fun i => match atF fs i with | some (o, s, _) => some (o, s) | none => none) z.cells vs with
    | some cs => listK cs fun cs => some (.agg cs)
    | none => none
   | none => none
  |some ⟨_, _, z, .arr _ e⟩ => match T.ty e with
   |some d => match kC F ps with
    |some vs => match nX (fun i => some (i * d.size, d.size)) z.cells vs with
     | some cs => listK cs fun cs => some (.agg cs)
     | none => none
    | none => none
   | none => none
  | _ => none
 |.slice t x lo hi none => match T.ty t with
  |some ⟨_, _, _, .str⟩ => match aT F x with
   |some (.str l) => match (match lo with | none => some (V.int .i64 (.ofNat 0)) | some y => aT F y) with
    |some (.int .i64 (.ofNat i)) => match (match hi with | none => some (V.int .i64 (.ofNat l.length)) | some y => aT F y) with
     |some (.int .i64 (.ofNat j)) => match Nat.ble i j && Nat.ble j l.length with
      | true => listK ((l.drop i).take (j - i)) fun r => some (.str r)
      | false => none
     | _ => none
    | _ => none
   | _ => none
  |some ⟨_, _, _, .sl e⟩ => match T.ty e with
   |some d => match aT F x with
    |some (.row sz els) => match (match lo with | none => some (V.int .i64 (.ofNat 0)) | some y => aT F y) with
     |some (.int .i64 (.ofNat i)) => match (match hi with | none => some (V.int .i64 (.ofNat els.length)) | some y => aT F y) with
      |some (.int .i64 (.ofNat j)) => match Nat.ble i j && Nat.ble j els.length && Nat.beq sz d.size with
       | true => listK ((els.drop i).take (j - i)) fun r => some (.row sz r)
       | false => none
      | _ => none
     | _ => none
    | _ => none
   | none => none
  | _ => none
 |.load t x => match aT F x with
  |some (.box cs o) => match T.ty t with
   | some d => ml d cs o
   | none => none
  | _ => none
 | _ => none
section
variable {P : Program} {T : Tab} {S : Nat → Prop} {w : World} {ρ : Nat → Option Value} {h : Nat → Ob} {a : Act} {n : Nat} {F : Fm} {ty : TypeId}
theorem DV {t u : TypeId} {x y : Operand} {k : IntKind} {m l : Int} (fr : Fr a n (fA a)) (hx : Opd S w ρ a x (.int k m)) (hy : Opd S w ρ a y (.int k l)) : Yld P S w ρ a ty (.binOp .add t x y u) (.int k (k.wrap (m + l))) :=
 ⟨.int k (k.wrap (m + l)), by simp only [VRel], fun w' _ _ _ _ _ => by simp only [execOp, fr.eval (br hx), fr.eval (br hy)]; simp [go_sem, eqGuard]⟩
theorem EE {t u : TypeId} {x y : Operand} {k : IntKind} {m l : Int} (fr : Fr a n (fA a)) (hx : Opd S w ρ a x (.int k m)) (hy : Opd S w ρ a y (.int k l)) : Yld P S w ρ a ty (.binOp .sub t x y u) (.int k (k.wrap (m - l))) :=
 ⟨.int k (k.wrap (m - l)), by simp only [VRel], fun w' _ _ _ _ _ => by simp only [execOp, fr.eval (br hx), fr.eval (br hy)]; simp [go_sem, eqGuard]⟩
theorem Ao (m l : List UInt8) : (ByteArray.mk m.toArray ++ ByteArray.mk l.toArray) = ⟨(m ++ l).toArray⟩ := by
 apply ByteArray.ext; simp [ByteArray.data_append]
theorem Ee {t u : TypeId} {x y : Operand} {m l : List UInt8} (fr : Fr a n (fA a)) (hx : Opd S w ρ a x (.str m)) (hy : Opd S w ρ a y (.str l)) (hl : m.length + l.length ≤ 9223372036854775807) : Yld P S w ρ a ty (.binOp .add t x y u) (.str (m ++ l)) :=
 ⟨.string ⟨(m ++ l).toArray⟩, by simp only [VRel], fun w' _ _ _ _ _ => by simp only [execOp, fr.eval (ic hx), fr.eval (ic hy)]; simp [go_sem, eqGuard, Ao, show ¬ 9223372036854775807 < m.length + l.length by omega]⟩
theorem CQ (hT : TabOk P T) {op : BinOp} {t u : TypeId} {x y : Operand} {c d v : V} (fr : Fr a n (fA a)) (hx : Opd S w ρ a x c) (hy : Opd S w ρ a y d) (hv : Ce T op t c d = some v) : Yld P S w ρ a ty (.binOp op t x y u) v := by
 unfold Ce at hv
 split at hv
 ·split at hv
  ·cases hv
  ·rename_i hk
   have := Ez hk
   subst this
   split at hv
   ·rw [hW (oV _ _) hv]; exact Fq fr hx hy
   ·rw [hW (by rw [oV]; rfl) hv]; exact FE fr hx hy
   ·rw [hW (oY _ _) hv]; exact Fa fr hx hy
   ·rw [hW (oY _ _) hv]; exact Fg fr hx hy
   ·rw [hW (by rw [oY, Bool.eq_iff_iff]; simp) hv]; exact Fc fr hx hy
   ·rw [hW (by rw [oY, Bool.eq_iff_iff]; simp) hv]; exact Fy fr hx hy
   ·rw [xo hv]; exact DV fr hx hy
   ·rw [xo hv]; exact EE fr hx hy
   ·cases hv
 ·split at hv
  ·rw [hW (mw _ _) hv]; exact Fv fr hx hy
  ·rw [hW (by rw [mw]; rfl) hv]; exact Ft fr hx hy
  ·split at hv
   ·split at hv
    ·rename_i hb
     rw [cw] at hv
     simp only [Option.some.injEq] at hv; subst hv
     exact Ee fr hx hy (by simpa using hb)
    ·cases hv
   ·cases hv
  ·cases hv
 ·split at hv
  ·rename_i hd
   have ht := (hT.ty _ _ hd).bool rfl
   split at hv
   ·rw [hW rfl hv]; exact Fl fr ht hx hy
   ·rw [hW rfl hv]; exact Fn fr ht hx hy
   ·cases hv
  ·cases hv
 ·cases hv
theorem tB (hT : TabOk P T) {t : TypeId} {i o s : Nat} {b : Bool} (hf : ya T t i = some (o, s, b)) : eZ P t i = some o ∧ (b = true → nA P t i = some o) ∧ (b = false → nq P t i = some (o, s)) := by
 unfold ya at hf
 split at hf
 ·rename_i hd
  rw [vk] at hf
  exact ((hT.ty _ _ hd).fields rfl).2 i o s b hf
 ·cases hf
theorem pL (hT : TabOk P T) (hr : HRel S w ρ h) (hF : FRel S w ρ a n F) {op : Op} {v : V} (hv : lE T h F op = some v) : Yld P S w ρ a ty op v := by
 have fr := hF.fr
 unfold lE at hv
 split at hv
 ·exact EC fr (al hF hv)
 ·exact By fr (al hF hv)
 ·split at hv
  ·exact CA fr (al hF ‹_›) (al hF hv)
  ·exact Ds fr (al hF ‹_›) (al hF hv)
  ·cases hv
 ·split at hv
  ·injection hv with hv; subst hv; exact Ep fr (al hF ‹_›)
  ·injection hv with hv; subst hv; exact DI fr (al hF ‹_›)
  ·injection hv with hv; subst hv; exact Es fr (al hF ‹_›)
  ·cases hv
 ·split at hv
  ·rw [ll] at hv; exact Fb fr (al hF ‹_›) hv
  ·cases hv
 ·split at hv
  ·rw [hW rfl hv]; exact Ff fr (al hF ‹_›)
  ·cases hv
 ·split at hv
  ·rename_i hfl
   have hfo := (tB hT hfl).1
   split at hv
   ·rw [dg] at hv; injection hv with hv; subst hv; exact Fw fr (al hF ‹_›) hfo
   ·rw [dg] at hv; injection hv with hv; subst hv; exact FD fr (al hF ‹_›) hfo
   ·rw [dg] at hv; injection hv with hv; subst hv; exact FA fr (al hF ‹_›) hfo
   ·cases hv
  ·cases hv
 ·split at hv
  ·split at hv
   ·rename_i hfl
    rw [ll] at hv
    exact FP fr (al hF ‹_›) ((tB hT hfl).2.1 rfl) hv
   ·rename_i hfl
    obtain ⟨_, hv⟩ := pi hv
    rw [pP] at hv
    injection hv with hv; subst hv
    exact Fx fr (al hF ‹_›) ((tB hT hfl).2.2 rfl)
   ·cases hv
  ·cases hv
 ·split at hv
  ·split at hv
   ·exact CQ hT fr (al hF ‹_›) (al hF ‹_›) hv
   ·cases hv
  ·cases hv
 ·split at hv
  ·rename_i hd
   have ht := (hT.ty _ _ hd).sl rfl
   split at hv
   ·injection hv with hv; subst hv; exact DJ fr ht (al hF ‹_›)
   ·split at hv
    ·rw [dg] at hv; injection hv with hv; subst hv; exact zF fr ht (al hF ‹_›)
    ·injection hv with hv; subst hv; exact zF fr ht (al hF ‹_›)
   ·split at hv
    ·split at hv
     ·rw [dg] at hv; injection hv with hv; subst hv; exact zP hr ‹_› fr ht (al hF ‹_›)
     ·injection hv with hv; subst hv; exact zP hr ‹_› fr ht (al hF ‹_›)
    ·cases hv
   ·cases hv
  ·rename_i hd
   have ht := (hT.ty _ _ hd).str rfl
   split at hv
   ·split at hv
    ·rw [dg] at hv; injection hv with hv; subst hv; exact AB fr ht (al hF ‹_›)
    ·injection hv with hv; subst hv; exact AB fr ht (al hF ‹_›)
   ·cases hv
  ·cases hv
 ·split at hv
  ·split at hv
   ·rw [Dm hv]; exact Ew fr (al hF ‹_›) (al hF ‹_›)
   ·cases hv
  ·cases hv
 ·split at hv
  ·rename_i hd
   have ht := (hT.ty _ _ hd).str rfl
   split at hv
   ·split at hv
    ·split at hv
     ·rename_i hb
      rw [zS] at hb
      rw [dg] at hv; injection hv with hv; subst hv
      exact p_idxS fr ht (al hF ‹_›) (al hF ‹_›) hb
     ·cases hv
    ·cases hv
   ·cases hv
  ·cases hv
 ·split at hv
  ·rename_i hd
   have ht := (hT.ty _ _ hd).sl rfl
   split at hv
   ·rename_i d he
    have hz := (hT.ty _ _ he).size
    split at hv
    ·split at hv
     ·split at hv
      ·rename_i hb
       have := Nat.eq_of_beq_eq_true hb
       subst this
       split at hv
       ·rename_i hi
        rw [ll] at hi
        rw [cw] at hv
        injection hv with hv; subst hv
        exact p_idxR fr ht hz (al hF ‹_›) (al hF ‹_›) hi
       ·cases hv
      ·cases hv
     ·cases hv
    ·split at hv
     ·split at hv
      ·split at hv
       ·rename_i hb
        simp only [Bool.and_eq_true, Nat.beq_eq, Nat.blt_eq] at hb
        obtain ⟨rfl, hlt⟩ := hb
        injection hv with hv; subst hv
        exact p_idxO hr ‹_› fr ht hz (al hF ‹_›) (al hF ‹_›) hlt
       ·cases hv
      ·cases hv
     ·cases hv
    ·cases hv
   ·cases hv
  ·cases hv
 ·split at hv
  ·rename_i fs hd
   have hf := (hT.ty _ _ hd).fields rfl
   obtain ⟨z, hz1, hz2⟩ := (hT.ty _ _ hd).zeroT
   split at hv
   ·rename_i vs hps
    obtain ⟨ys, g1, g2⟩ := mG hF hps
    split at hv
    ·rename_i cs hfl
     rw [cw] at hv; injection hv with hv; subst hv
     refine Dk fr g1 g2 hz1 (hz2 _ _ _) hf.1 (fun i p hp => ?_) hfl
     rw [vk] at hp
     split at hp
     ·rename_i o s b hi
      simp only [Option.some.injEq] at hp; subst hp
      simp [hi]
     ·cases hp
    ·cases hv
   ·cases hv
  ·rename_i e hd
   have ht := (hT.ty _ _ hd).arr rfl
   obtain ⟨z, hz1, hz2⟩ := (hT.ty _ _ hd).zeroT
   split at hv
   ·rename_i d he
    have hz := (hT.ty _ _ he).size
    split at hv
    ·rename_i vs hps
     obtain ⟨ys, g1, g2⟩ := mG hF hps
     split at hv
     ·rename_i cs hfl
      rw [cw] at hv; injection hv with hv; subst hv
      exact Bf fr g1 g2 hz1 (hz2 _ _ _) ht hz hfl
     ·cases hv
    ·cases hv
   ·cases hv
  ·cases hv
 ·rename_i t x lo hi
  split at hv
  ·rename_i hd
   have ht := (hT.ty _ _ hd).str rfl
   split at hv
   ·split at hv
    ·rename_i i hi1
     split at hv
     ·rename_i j hj1
      split at hv
      ·rename_i hb
       simp only [Bool.and_eq_true, Nat.ble_eq] at hb
       rw [cw] at hv; injection hv with hv; subst hv
       refine Cr fr ht (al hF ‹_›) ?_ ?_ hb.1 hb.2
       ·cases lo with
        | none => injection hi1 with hi1; injection hi1 with _ hi1; injection hi1 with hi1; exact .inl ⟨rfl, hi1.symm⟩
        | some y => exact .inr ⟨y, rfl, al hF hi1⟩
       ·cases hi with
        | none => injection hj1 with hj1; injection hj1 with _ hj1; injection hj1 with hj1; exact .inl ⟨rfl, hj1.symm⟩
        | some y => exact .inr ⟨y, rfl, al hF hj1⟩
      ·cases hv
     ·cases hv
    ·cases hv
   ·cases hv
  ·rename_i hd
   have ht := (hT.ty _ _ hd).sl rfl
   split at hv
   ·rename_i d he
    have hz := (hT.ty _ _ he).size
    split at hv
    ·split at hv
     ·rename_i i hi1
      split at hv
      ·rename_i j hj1
       split at hv
       ·rename_i hb
        simp only [Bool.and_eq_true, Nat.ble_eq, Nat.beq_eq] at hb
        obtain ⟨⟨hb1, hb2⟩, rfl⟩ := hb
        rw [cw] at hv; injection hv with hv; subst hv
        refine FH fr ht hz (al hF ‹_›) ?_ ?_ hb1 hb2
        ·cases lo with
         | none => injection hi1 with hi1; injection hi1 with _ hi1; injection hi1 with hi1; exact .inl ⟨rfl, hi1.symm⟩
         | some y => exact .inr ⟨y, rfl, al hF hi1⟩
        ·cases hi with
         | none => injection hj1 with hj1; injection hj1 with _ hj1; injection hj1 with hj1; exact .inl ⟨rfl, hj1.symm⟩
         | some y => exact .inr ⟨y, rfl, al hF hj1⟩
       ·cases hv
      ·cases hv
     ·cases hv
    ·cases hv
   ·cases hv
  ·cases hv
 ·split at hv
  ·rename_i cs o hx
   split at hv
   ·rename_i d hd
    have td := hT.ty _ _ hd
    unfold ml at hv
    split at hv
    ·rename_i ha
     split at hv
     ·rename_i h0
      obtain ⟨hl, hv⟩ := pi hv
      rw [pP] at hv hl
      injection hv with hv; subst hv
      have h0' : 0 < d.size := by simpa using h0
      exact Bq fr (td.ag ha) (al hF hx) (by simp at hl; omega)
     ·cases hv
    ·rename_i ha
     rw [ll] at hv
     exact Da fr (td.sc ha) (al hF hx) hv
   ·cases hv
  ·cases hv
 ·cases hv
end
end Go.Proofs.YtpnpdlnpikkeaaaGreat
namespace Go.Proofs.YtpnpdlnpikkeaaaGreat
open Go.RowKit
inductive ED where
 | nop
 | new (o : Ob)
 | set (id : Nat) (o : Ob)
 | repl (id : Nat) (o : Ob)
def ED.app (h : Nat → Ob) (nid : Nat) : ED → Nat → Ob
 | .nop => h
 | .new o => cy h nid o
 | .set id o => cy h id o
 | .repl id o => cy (cy h id .gone) nid o
def ED.tch : ED → Nat → Prop
 | .nop, _ => False
 | .new _, _ => False
 | .set id _, i => i = id
 | .repl id _, i => i = id
def vG (h : Nat → Ob) (sz : Nat) : V → Option (List V)
 | .nils => some []
 |.row sz' els => match Nat.beq sz sz' with
  | true => some els
  | false => none
 |.sl g => match h g with
  |.row _ sz' els => match Nat.beq sz sz' with
   | true => some els
   | false => none
  | _ => none
 | _ => none
def kP (T : Tab) (h : Nat → Ob) (F : Fm) (nid : Nat) (op : Op) : Option (Option V × ED) :=
 match op with
 |.load t x => match aT F x with
  |some (.ptr id o) => match T.ty t with
   |some d => match h id with
    |.var _ cs => match ml d cs o with
     | some v => some (some v, .nop)
     | none => none
    | _ => none
   | none => none
  |some (.el id sz i o) => match T.ty t with
   |some d => match h id with
    |.row _ sz' els => match Nat.beq sz sz' with
     |true => match atV els i with
      |some v0 => match ml d v0.cells o with
       | some v => some (some v, .nop)
       | none => none
      | none => none
     | false => none
    | _ => none
   | none => none
  | _ => none
 |.alloc t => match T.ty t with
  | some d => listK d.zero.cells fun cs => some (some (.ptr nid 0), .new (.var t cs))
  | none => none
 |.box t x => match aT F x with
  | some v => listK v.cells fun cs => some (some (.ptr nid 0), .new (.var t cs))
  | none => none
 |.store t x y => match T.ty t with
  |some d => match aT F y with
   |some v => match Nat.beq v.cells.length d.size && v.cells.all V.one with
    |true => match aT F x with
     |some (.ptr id o) => match h id with
      |.var tb cs => match Nat.ble (o + d.size) cs.length with
       | true => listK (nO cs o v.cells) fun cs => some (none, .set id (.var tb cs))
       | false => none
      | _ => none
     |some (.el id sz i o) => match h id with
      |.row e sz' els => match Nat.beq sz sz' with
       |true => match atV els i with
        |some v0 => match Nat.ble (o + d.size) v0.cells.length with
         |true => match v0 with
          | .agg cs => listK (els.set i (V.over (.agg cs) o v.cells)) fun els => some (none, .set id (.row e sz els))
          |v0 => match v.one with
           | true => listK (els.set i (v0.over o v.cells)) fun els => some (none, .set id (.row e sz els))
           | false => none
         | false => none
        | none => none
       | false => none
      | _ => none
     | _ => none
    | false => none
   | none => none
  | none => none
 |.buildSlice t m ⟨ps⟩ => match T.ty t with
  |some ⟨_, _, _, .sl e⟩ => match T.ty e with
   |some d => match kC F ps with
    |some vs => match jr d.size 0 vs with
     |some els => match Nat.beq els.length m && Nat.ble (m * d.size) 16777216 && Nat.ble m 16777216 with
      | true => fu d.size fun sz => some (some (.sl nid), .new (.row e sz els))
      | false => none
     | none => none
    | none => none
   | none => none
  | _ => none
 |.makeSlice t x y => match T.ty t with
  |some ⟨_, _, _, .sl e⟩ => match T.ty e with
   |some d => match aT F x with
    |some (.int .i64 (.ofNat m)) => match aT F y with
     |some (.int .i64 (.ofNat m')) => match Nat.beq m m' && Nat.ble (d.bytes * m) 1000000 && Nat.ble m 1000000 && Nat.blt 0 d.size with
      | true => listK (List.replicate m d.zero) fun els => fu d.size fun sz => some (some (.sl nid), .new (.row e sz els))
      | false => none
     | _ => none
    | _ => none
   | none => none
  | _ => none
 |.call ⟨.builtin .append, ⟨[x, y]⟩, ⟨[t, t']⟩⟩ => match T.frc && Nat.beq t t' with
  |true => match T.ty t with
   |some ⟨_, _, _, .sl e⟩ => match T.ty e with
    |some d => match aT F y with
     |some v => match vG h d.size v with
      |some news => match aT F x with
       |some .nils => match Nat.ble news.length 100000 && Nat.ble d.bytes 100000 && Nat.blt 0 d.size with
        | true => fu d.size fun sz => some (some (.sl nid), .new (.row e sz news))
        | false => none
       |some (.sl id) => match h id with
        |.row e' sz els => match Nat.beq e e' && Nat.beq sz d.size && Nat.ble (els.length + news.length) 100000 && Nat.ble d.bytes 100000 && Nat.blt 0 d.size with
         | true => listK (els ++ news) fun els => some (some (.sl nid), .repl id (.row e sz els))
         | false => none
        | _ => none
       | _ => none
      | none => none
     | none => none
    | none => none
   | _ => none
  | false => none
 |.slice t x none (some y) none => match T.ty t with
  |some ⟨_, _, _, .sl e⟩ => match T.ty e with
   |some d => match aT F x with
    |some (.sl id) => match h id with
     |.row e' sz els => match aT F y with
      |some (.int .i64 (.ofNat k)) => match Nat.beq e e' && Nat.beq sz d.size && Nat.ble k els.length with
       | true => listK (els.take k) fun els => some (some (.sl nid), .repl id (.row e sz els))
       | false => none
      | _ => none
     | _ => none
    | _ => none
   | none => none
  | _ => none
 | _ => none
section
variable {P : Program} {T : Tab} {S : Nat → Prop} {w : World} {ρ : Nat → Option Value} {h : Nat → Ob} {a : Act} {n : Nat} {F : Fm} {ty : TypeId}
theorem mf {t : TypeId} {d : TD} (td : TdOk P t d) {cs : List V} {o : Nat} {v : V} (hv : ml d cs o = some v) : (du P t = true ∧ cs[o]? = some v) ∨ (jj P t = some d.size ∧ o + d.size ≤ cs.length ∧ v = .agg ((cs.drop o).take d.size)) := by
 unfold ml at hv
 split at hv
 ·rename_i ha
  split at hv
  ·rename_i h0
   obtain ⟨hl, hv⟩ := pi hv
   rw [pP] at hv hl
   injection hv with hv; subst hv
   have h0' : 0 < d.size := by simpa using h0
   exact .inr ⟨td.ag ha, by simp at hl; omega, rfl⟩
  ·cases hv
 ·rename_i ha
  rw [ll] at hv
  exact .inl ⟨td.sc ha, hv⟩
theorem pq {v : V} (h : v.one = true) : v.cells = [v] := by cases v <;> first | rfl | cases h
theorem xf (hr : HRel S w ρ h) (hF : FRel S w ρ a n F) {y : Operand} {sz : Nat} {v : V} {news : List V} (hy : aT F y = some v) (hs : vG h sz v = some news) : ∃ u, av (fA a) y = some u ∧ oJ S w ρ sz news u := by
 obtain ⟨u, h1, h2⟩ := al hF hy
 refine ⟨u, h1, ?_⟩
 unfold vG at hs
 split at hs
 ·injection hs with hs; subst hs; exact BJ h2
 ·split at hs
  ·rename_i hb
   have := Nat.eq_of_beq_eq_true hb
   subst this
   injection hs with hs; subst hs; exact Dv h2
  ·cases hs
 ·split at hs
  ·split at hs
   ·rename_i ho _ hb
    have := Nat.eq_of_beq_eq_true hb
    subst this
    injection hs with hs; subst hs; exact CE hr ho h2
   ·cases hs
  ·cases hs
 ·cases hs
theorem rc (hT : TabOk P T) (hr : HRel S w ρ h) (hF : FRel S w ρ a n F) {nid : Nat} (hn : h nid = .free) {op : Op} {v : Option V} {ed : ED} (hv : kP T h F nid op = some (v, ed)) : Does P S w ρ h a ty op v (ed.app h nid) ed.tch := by
 have fr := hF.fr
 unfold kP at hv
 split at hv
 ·split at hv
  ·split at hv
   ·rename_i d hd
    split at hv
    ·rename_i ho
     split at hv
     ·rename_i u hu
      simp only [Option.some.injEq, Prod.mk.injEq] at hv
      obtain ⟨rfl, rfl⟩ := hv
      rcases mf (hT.ty _ _ hd) hu with ⟨h1, h2⟩ | ⟨h1, h2, rfl⟩
      ·exact DH hr fr (al hF ‹_›) ho h1 h2
      ·exact Dr hr fr (al hF ‹_›) ho h1 h2
     ·cases hv
    ·cases hv
   ·cases hv
  ·split at hv
   ·rename_i d hd
    split at hv
    ·rename_i ho
     split at hv
     ·rename_i hb
      have := Nat.eq_of_beq_eq_true hb
      subst this
      split at hv
      ·rename_i v0 hi
       rw [ll] at hi
       split at hv
       ·rename_i u hu
        simp only [Option.some.injEq, Prod.mk.injEq] at hv
        obtain ⟨rfl, rfl⟩ := hv
        rcases mf (hT.ty _ _ hd) hu with ⟨h1, h2⟩ | ⟨h1, h2, rfl⟩
        ·exact xp hr fr (al hF ‹_›) ho h1 hi h2
        ·exact uT hr fr (al hF ‹_›) ho h1 hi h2
       ·cases hv
      ·cases hv
     ·cases hv
    ·cases hv
   ·cases hv
  ·cases hv
 ·split at hv
  ·rename_i d hd
   rw [cw] at hv
   simp only [Option.some.injEq, Prod.mk.injEq] at hv
   obtain ⟨rfl, rfl⟩ := hv
   obtain ⟨z, h1, h2⟩ := (hT.ty _ _ hd).zeroT
   exact Dd hr hn h1 h2
  ·cases hv
 ·split at hv
  ·rw [cw] at hv
   simp only [Option.some.injEq, Prod.mk.injEq] at hv
   obtain ⟨rfl, rfl⟩ := hv
   exact FI hr fr hn (al hF ‹_›)
  ·cases hv
 ·split at hv
  ·rename_i d hd
   have hz := (hT.ty _ _ hd).size
   split at hv
   ·rename_i u hu
    split at hv
    ·rename_i hb
     simp only [Bool.and_eq_true, Nat.beq_eq] at hb
     split at hv
     ·split at hv
      ·split at hv
       ·rename_i ho _ hle
        rw [cw] at hv
        simp only [Option.some.injEq, Prod.mk.injEq] at hv
        obtain ⟨rfl, rfl⟩ := hv
        exact Dx hr fr (al hF ‹_›) (al hF hu) ho hz hb.1 hb.2 (Nat.le_of_ble_eq_true hle)
       ·cases hv
      ·cases hv
     ·split at hv
      ·rename_i ho
       split at hv
       ·rename_i hq
        have := Nat.eq_of_beq_eq_true hq
        subst this
        split at hv
        ·rename_i v0 hi
         rw [ll] at hi
         split at hv
         ·rename_i hle
          split at hv
          ·rename_i cs
           rw [cw] at hv
           simp only [Option.some.injEq, Prod.mk.injEq] at hv
           obtain ⟨rfl, rfl⟩ := hv
           exact rP hr fr (al hF ‹_›) (al hF hu) ho hz hi hb.1 hb.2 (Nat.le_of_ble_eq_true hle) (.inl ⟨cs, rfl⟩)
          ·rename_i hna
           split at hv
           ·rename_i h1
            rw [cw] at hv
            simp only [Option.some.injEq, Prod.mk.injEq] at hv
            obtain ⟨rfl, rfl⟩ := hv
            refine rP hr fr (al hF ‹_›) (al hF hu) ho hz hi hb.1 hb.2 (Nat.le_of_ble_eq_true hle) (.inr ⟨?_, pq h1⟩)
            cases v0 with
            | agg cs => exact absurd rfl (hna cs)
            | _ => rfl
           ·cases hv
         ·cases hv
        ·cases hv
       ·cases hv
      ·cases hv
     ·cases hv
    ·cases hv
   ·cases hv
  ·cases hv
 ·split at hv
  ·rename_i e ht
   split at hv
   ·rename_i d hd
    split at hv
    ·rename_i vs hps
     split at hv
     ·rename_i els hrp
      split at hv
      ·rename_i hb
       simp only [Bool.and_eq_true, Nat.beq_eq] at hb
       rw [dg] at hv
       simp only [Option.some.injEq, Prod.mk.injEq] at hv
       obtain ⟨rfl, rfl⟩ := hv
       obtain ⟨ys, g1, g2⟩ := mG hF hps
       obtain ⟨z, h1, h2⟩ := (hT.ty _ _ hd).zeroT
       exact BD hr fr hn g1 g2 ((hT.ty _ _ ht).sl rfl) (hT.ty _ _ hd).size h1 hrp hb.1.1 hb.1.2 hb.2
      ·cases hv
     ·cases hv
    ·cases hv
   ·cases hv
  ·cases hv
 ·split at hv
  ·rename_i e ht
   split at hv
   ·rename_i d hd
    split at hv
    ·split at hv
     ·split at hv
      ·rename_i hb
       simp only [Bool.and_eq_true, Nat.beq_eq, Nat.ble_eq, Nat.blt_eq] at hb
       obtain ⟨⟨⟨rfl, hb1⟩, hb2⟩, hb3⟩ := hb
       rw [cw, dg] at hv
       simp only [Option.some.injEq, Prod.mk.injEq] at hv
       obtain ⟨rfl, rfl⟩ := hv
       obtain ⟨z, h1, h2, h3, h4⟩ := (hT.ty _ _ hd).info
       exact Ay hr fr hn (al hF ‹_›) (al hF ‹_›) ((hT.ty _ _ ht).sl rfl) h1 h3 hb3 h4 h2 (by omega) (by simp only [maxLen]; omega)
      ·cases hv
     ·cases hv
    ·cases hv
   ·cases hv
  ·cases hv
 ·split at hv
  ·rename_i hb0
   simp only [Bool.and_eq_true, Nat.beq_eq] at hb0
   obtain ⟨_, rfl⟩ := hb0
   split at hv
   ·rename_i e ht
    split at hv
    ·rename_i d hd
     obtain ⟨z, h1, h2, h3, h4⟩ := (hT.ty _ _ hd).info
     split at hv
     ·rename_i u hu
      split at hv
      ·rename_i news hs
       obtain ⟨y', g1, g2⟩ := xf hr hF hu hs
       split at hv
       ·split at hv
        ·rename_i hb
         simp only [Bool.and_eq_true, Nat.ble_eq, Nat.blt_eq] at hb
         obtain ⟨⟨hb1, hb2⟩, hb3⟩ := hb
         rw [dg] at hv
         simp only [Option.some.injEq, Prod.mk.injEq] at hv
         obtain ⟨rfl, rfl⟩ := hv
         refine AP hr fr hn g1 g2 ((hT.ty _ _ ht).sl rfl) h1 h3 hb3 (al hF ‹_›) (by simp only [maxLen]; omega) ?_
         exact Nat.le_trans (Nat.mul_le_mul hb1 hb2) (by decide)
        ·cases hv
       ·split at hv
        ·rename_i ho
         split at hv
         ·rename_i hb
          simp only [Bool.and_eq_true, Nat.ble_eq, Nat.blt_eq, Nat.beq_eq] at hb
          obtain ⟨⟨⟨⟨rfl, rfl⟩, hb1⟩, hb2⟩, hb3⟩ := hb
          rw [cw] at hv
          simp only [Option.some.injEq, Prod.mk.injEq] at hv
          obtain ⟨rfl, rfl⟩ := hv
          refine vU hr fr hn g1 g2 ((hT.ty _ _ ht).sl rfl) h1 h3 hb3 (al hF ‹_›) ho (by simp only [maxLen]; omega) ?_
          exact Nat.le_trans (Nat.mul_le_mul hb1 hb2) (by decide)
         ·cases hv
        ·cases hv
       ·cases hv
      ·cases hv
     ·cases hv
    ·cases hv
   ·cases hv
  ·cases hv
 ·split at hv
  ·rename_i e ht
   split at hv
   ·rename_i d hd
    split at hv
    ·split at hv
     ·rename_i ho
      split at hv
      ·split at hv
       ·rename_i hb
        simp only [Bool.and_eq_true, Nat.ble_eq, Nat.beq_eq] at hb
        obtain ⟨⟨rfl, rfl⟩, hb1⟩ := hb
        rw [cw] at hv
        simp only [Option.some.injEq, Prod.mk.injEq] at hv
        obtain ⟨rfl, rfl⟩ := hv
        exact Dq hr fr hn (al hF ‹_›) (al hF ‹_›) ho ((hT.ty _ _ ht).sl rfl) (hT.ty _ _ hd).size hb1
       ·cases hv
      ·cases hv
     ·cases hv
    ·cases hv
   ·cases hv
  ·cases hv
 ·cases hv
def ED.ok (h : Nat → Ob) : ED → Prop
 | .nop => True
 | .new o => True
 | .set id o => h id ≠ .gone ∧ h id ≠ .free
 | .repl id o => h id ≠ .gone ∧ h id ≠ .free
theorem od {nid : Nat} {op : Op} {v : Option V} {ed : ED} (hv : kP T h F nid op = some (v, ed)) : ed.ok h := by
 unfold kP at hv
 repeat' (split at hv)
 all_goals first
  | (cases hv; done)
  | (simp only [cw, dg, Option.some.injEq, Prod.mk.injEq] at hv; obtain ⟨_, rfl⟩ := hv; first | exact trivial | (constructor <;> simp_all))
end
end Go.Proofs.YtpnpdlnpikkeaaaGreat
namespace Go.Proofs.YtpnpdlnpikkeaaaGreat
open Go.RowKit
section
variable {P : Program} {ops : Array Oper} {Q : Exit → Act → World → Prop} {B S : World → Prop}
def wpB (P : Program) (ops : Array Oper) (Q : Exit → Act → World → Prop) (B S : World → Prop) (m : Nat) : Nat → Array Bool → Act → World → Prop
 | 0, listed, a, w => Region.ready .any ops listed = [] ∧ Q .normal a w
 | fuel + 1, listed, a, w =>
  (Region.ready .any ops listed = [] → Q .normal a w) ∧
  ∀ i ∈ Region.ready .any ops listed, wpOp P ops Q i (fun a' w' => B w' ∧ (S w' ∨ (listed.setIfInBounds i true).getD m false = true) ∧ wpB P ops Q B S m fuel (listed.setIfInBounds i true) a' w') a w
theorem sJ {m : Nat} : ∀ (fuel : Nat) (listed : Array Bool) (a : Act) (w : World), wpB P ops Q B S m fuel listed a w → wpAny P .any ops Q fuel listed a w
 | 0, _, _, _, h => h
 | fuel + 1, _, _, _, h => ⟨h.1, fun i hi => wpOp_mono (fun a' w' h' => sJ fuel _ a' w' h'.2.2) (h.2 i hi)⟩
theorem rM {B' S' : World → Prop} {m : Nat} (hB : ∀ w, B' w → B w) (hS : ∀ w, B' w → S' w → S w) : ∀ (fuel : Nat) (listed : Array Bool) (a : Act) (w : World), wpB P ops Q B' S' m fuel listed a w → wpB P ops Q B S m fuel listed a w
 | 0, _, _, _, h => h
 | fuel + 1, _, _, _, h => ⟨h.1, fun i hi => wpOp_mono (fun a' w' h' => ⟨hB _ h'.1, h'.2.1.imp (hS _ h'.1) id, rM hB hS fuel _ a' w' h'.2.2⟩) (h.2 i hi)⟩
theorem wpB_pure {m : Nat} {i : Nat} {oi : Oper} {v : Value} (him : i ≠ m) (hi : ops[i]? = some oi) (hsel : ∀ (j : Nat) (o : Oper) cs b, ops[j]? = some o → o.op ≠ .select cs b)
    (hQ : ∀ c a w, Q (.panic c) (a.put oi.dst v) w → Q (.panic c) a w) :
    ∀ (fuel : Nat) (listed : Array Bool) (a : Act) (w : World),
      (∀ j oj, ops[j]? = some oj → j ≠ i → listed.getD j true = false → (∀ e ∈ oj.after, Region.binds .any e = true → e.on ≠ i) → oi.apart ops oj = true) →
      i ∈ Region.ready .any ops listed → YieldsIf P ops B oi v a → B w → (S w ∨ listed.getD m false = true) →
      wpB P ops Q B S m fuel (listed.setIfInBounds i true) (a.put oi.dst v) w → wpB P ops Q B S m (fuel + 1) listed a w := by
  intro fuel
  induction fuel with
  | zero =>
    intro listed a w _ hr hy hB hS H
    refine ⟨fun h => (by rw [h] at hr; cases hr), fun j hj => ?_⟩
    by_cases hji : j = i
    · subst hji; exact hy.wpOp hi hB ⟨hB, hS.imp id fX, H⟩
    · have := ready_mono hj hji
      rw [H.1] at this
      cases this
  | succ fuel ih =>
    intro listed a w hfree hr hy hB hS H
    refine ⟨fun h => (by rw [h] at hr; cases hr), fun j hj => ?_⟩
    by_cases hji : j = i
    · subst hji; exact hy.wpOp hi hB ⟨hB, hS.imp id fX, H⟩
    · have h1 := H.2 j (ready_mono hj hji)
      obtain ⟨hjun, oj, hoj, hall⟩ := mem_ready.1 hj
      have hnot := oq (j := j) hr hall
      have h2 := wpOp_putIf hoj (hfree j oj hoj hji hjun hnot) (fun cs b => hsel i oi cs b hi) (fun cs b => hsel j oj cs b hoj) hQ hy h1
      have hfree' : ∀ k ok, ops[k]? = some ok → k ≠ i → (listed.setIfInBounds j true).getD k true = false →
          (∀ e ∈ ok.after, Region.binds .any e = true → e.on ≠ i) → oi.apart ops ok = true := fun k ok hk hki hun hno => by
        refine hfree k ok hk hki ?_ hno
        by_cases hjk : j = k
        · subst hjk; exact hjun
        · rw [getD_set_ne true hjk] at hun; exact hun
      refine wpOp_mono (fun a' w' h3 => ?_) h2
      have hS3 : S w' ∨ (listed.setIfInBounds j true).getD m false = true := h3.2.2.1.imp id fun h => by
        rw [Array.setIfInBounds_comm _ _ (fun e => hji e.symm), getD_set_ne false him] at h
        exact h
      refine ⟨h3.2.1, hS3, ih (listed.setIfInBounds j true) a' w' hfree' (ready_mono hr (Ne.symm hji)) h3.1 h3.2.1 hS3 ?_⟩
      rw [Array.setIfInBounds_comm _ _ hji]
      exact h3.2.2.2
theorem BX {m : Nat} {i : Nat} {oi : Oper} {v : Value} (him : i ≠ m) (hwt : mS .any ops m i = true) (hi : ops[i]? = some oi) (hsel : ∀ (j : Nat) (o : Oper) cs b, ops[j]? = some o → o.op ≠ .select cs b)
    (hQ : ∀ c a w, Q (.panic c) (a.put oi.dst v) w → Q (.panic c) a w) :
    ∀ (fuel : Nat) (listed : Array Bool) (a : Act) (w : World),
      (∀ j oj, ops[j]? = some oj → j ≠ i → listed.getD j true = false → (∀ e ∈ oj.after, Region.binds .any e = true → e.on ≠ i) → oi.apart ops oj = true) →
      i ∈ Region.ready .any ops listed → YieldsIf P ops (fun w => B w ∧ S w) oi v a → B w → S w → listed.getD m false = false →
      wpB P ops Q B S m fuel (listed.setIfInBounds i true) (a.put oi.dst v) w → wpB P ops Q B S m (fuel + 1) listed a w := by
  intro fuel
  induction fuel with
  | zero =>
    intro listed a w _ hr hy hB hS _ H
    refine ⟨fun h => (by rw [h] at hr; cases hr), fun j hj => ?_⟩
    by_cases hji : j = i
    · subst hji; exact hy.wpOp hi ⟨hB, hS⟩ ⟨hB, .inl hS, H⟩
    · have := ready_mono hj hji
      rw [H.1] at this
      cases this
  | succ fuel ih =>
    intro listed a w hfree hr hy hB hS hlm H
    refine ⟨fun h => (by rw [h] at hr; cases hr), fun j hj => ?_⟩
    by_cases hji : j = i
    · subst hji; exact hy.wpOp hi ⟨hB, hS⟩ ⟨hB, .inl hS, H⟩
    · have h1 := H.2 j (ready_mono hj hji)
      obtain ⟨hjun, oj, hoj, hall⟩ := mem_ready.1 hj
      have hnot := oq (j := j) hr hall
      have hjm : j ≠ m := by
        rintro rfl
        unfold mS at hwt
        rw [hoj] at hwt
        obtain ⟨e, he, hb⟩ := Array.any_eq_true'.1 hwt
        simp only [Bool.and_eq_true, beq_iff_eq] at hb
        exact hnot e he hb.1 hb.2
      have h2 := wpOp_putIf hoj (hfree j oj hoj hji hjun hnot) (fun cs b => hsel i oi cs b hi) (fun cs b => hsel j oj cs b hoj) hQ hy h1
      have hfree' : ∀ k ok, ops[k]? = some ok → k ≠ i → (listed.setIfInBounds j true).getD k true = false →
          (∀ e ∈ ok.after, Region.binds .any e = true → e.on ≠ i) → oi.apart ops ok = true := fun k ok hk hki hun hno => by
        refine hfree k ok hk hki ?_ hno
        by_cases hjk : j = k
        · subst hjk; exact hjun
        · rw [getD_set_ne true hjk] at hun; exact hun
      refine wpOp_mono (fun a' w' h3 => ?_) h2
      have hlm' : (listed.setIfInBounds j true).getD m false = false := by rw [getD_set_ne false hjm]; exact hlm
      have hS' : S w' := by
        rcases h3.2.2.1 with h | h
        · exact h
        · rw [Array.setIfInBounds_comm _ _ (fun e => hji e.symm), getD_set_ne false him, hlm'] at h
          cases h
      refine ⟨h3.2.1, .inl hS', ih (listed.setIfInBounds j true) a' w' hfree' (ready_mono hr (Ne.symm hji)) h3.1 h3.2.1 hS' hlm' ?_⟩
      rw [Array.setIfInBounds_comm _ _ hji]
      exact h3.2.2.2
end
inductive EI where
 | seq (c : Code)
 | blk (id : Nat)
 | loop (c : Code) (j : Nat)
 | scp
inductive EP where
 | code (c : Code)
 | ops (all : Array Oper) (rest : List Oper)
 | ex (e : Exit)
 | drw (all : Array Oper) (L : List Nat) (m left : Nat) (listed : Array Bool)
def dF (P : Program) (Q : Exit → Act → World → Prop) : List EI → Exit → Act → World → Prop
 | [] => Q
 | .seq c :: s => Exit.then (c.wp P (dF P Q s)) (dF P Q s)
 | .blk id :: s => Exit.inBlock id (dF P Q s)
 | .loop c j :: s => Exit.then (Code.rounds P c (dF P Q s) j) (dF P Q s)
 | .scp :: s => Exit.noGoto (dF P Q s)
def vblk : Value → Option Nat
 | .pointer (some a) => some a.block
 | .slice (some a) _ _ => some a.block
 | _ => none
def Ls (ρ : Nat → Option Value) (L : List Nat) (w w' : World) : Prop := ∀ id, id ∈ L → ∀ x b, ρ id = some x → vblk x = some b → w'.heap[b]? = w.heap[b]?
def EP.wp (P : Program) (Q : Exit → Act → World → Prop) (p : EP) (s : List EI) (S : Nat → Prop) (w : World) (ρ : Nat → Option Value) (a : Act) : Prop :=
 match p with
 | .code c => c.wp P (dF P Q s) a w
 | .ops all rest => wpList P all (dF P Q s) rest a w
 | .ex e => dF P Q s e a w
 | .drw all L m left listed => Region.noSelect all = true → wpB P all (NoPanic (dF P Q s)) (Agree S w) (Ls ρ L w) m left listed a w
structure Hp where
 nx : Nat
 es : List (Nat × Ob)
def an : List (Nat × Ob) → Nat → Ob
 | [], _ => .gone
 |(i, o) :: r, j => match Nat.beq i j with
  | true => o
  | false => an r j
def Hp.get (H : Hp) (i : Nat) : Ob := match Nat.blt i H.nx with
 | true => an H.es i
 | false => .free
def zk {α : Type} (id : Nat) (o : Ob) : List (Nat × Ob) → (List (Nat × Ob) → α) → α
 | [], c => c []
 |(i, p) :: r, c => match Nat.beq i id with
  | true => c ((i, o) :: r)
  | false => zk id o r fun r' => c ((i, p) :: r')
def tN {α : Type} (id : Nat) : List (Nat × Ob) → (List (Nat × Ob) → α) → α
 | [], c => c []
 |(i, p) :: r, c => match Nat.beq i id with
  | true => tN id r c
  | false => tN id r fun r' => c ((i, p) :: r')
def Hp.ap {α : Type} (H : Hp) (e : ED) (c : Hp → α) : α := match e with
 | .nop => c H
 | .new o => fu H.nx fun k => fu (k + 1) fun n => c ⟨n, (k, o) :: H.es⟩
 | .set id o => zk id o H.es fun es => fu H.nx fun k => c ⟨k, es⟩
 | .repl id o => tN id H.es fun es => fu H.nx fun k => fu (k + 1) fun n => c ⟨n, (k, o) :: es⟩
def og (id : Nat) (o : Ob) : List (Nat × Ob) → List (Nat × Ob)
 | [] => []
 |(i, p) :: r => match Nat.beq i id with
  | true => (i, o) :: r
  | false => (i, p) :: og id o r
def mq (id : Nat) : List (Nat × Ob) → List (Nat × Ob)
 | [] => []
 |(i, p) :: r => match Nat.beq i id with
  | true => mq id r
  | false => (i, p) :: mq id r
theorem xr {α : Type} {id : Nat} {o : Ob} : ∀ (l : List (Nat × Ob)) (c : List (Nat × Ob) → α), zk id o l c = c (og id o l)
 | [], c => rfl
 | (i, p) :: r, c => by
  simp only [zk, og]
  split
  ·rfl
  ·rw [xr r]
theorem qZ {α : Type} {id : Nat} : ∀ (l : List (Nat × Ob)) (c : List (Nat × Ob) → α), tN id l c = c (mq id l)
 | [], c => rfl
 | (i, p) :: r, c => by
  simp only [tN, mq]
  split
  ·rw [qZ r]
  ·rw [qZ r]
theorem nbF {a b : Nat} (h : a ≠ b) : Nat.beq a b = false := by
 cases hb : Nat.beq a b
 ·rfl
 ·exact absurd (Nat.eq_of_beq_eq_true hb) h
theorem nbT (a : Nat) : Nat.beq a a = true := by simp
theorem nlT {a b : Nat} (h : a < b) : Nat.blt a b = true := by simpa [Nat.blt_eq] using h
theorem rx {id i : Nat} {o : Ob} (hi : i ≠ id) : ∀ {l : List (Nat × Ob)}, an (og id o l) i = an l i
 | [] => rfl
 | (j, p) :: r => by
  simp only [og]
  split
  ·rename_i hb
   have e1 := Nat.eq_of_beq_eq_true hb
   subst e1
   simp only [an, nbF (Ne.symm hi)]
  ·simp only [an]
   rw [rx hi]
theorem pR {id : Nat} {o : Ob} : ∀ {l : List (Nat × Ob)}, an l id ≠ .gone → an (og id o l) id = o
 | [], h => absurd rfl h
 | (j, p) :: r, h => by
  simp only [og]
  split
  ·rename_i hb
   simp only [an, hb]
  ·rename_i hb
   simp only [an, hb] at h ⊢
   exact pR h
theorem lW {id i : Nat} : ∀ {l : List (Nat × Ob)}, an (mq id l) i = if i = id then .gone else an l i
 | [] => by simp [an, mq]
 | (j, p) :: r => by
  simp only [mq, an]
  split
  ·rename_i hb
   have e1 := Nat.eq_of_beq_eq_true hb
   subst e1
   rw [lW]
   by_cases hi : i = j
   ·simp [hi]
   ·simp [hi, nbF (Ne.symm hi)]
  ·rename_i hb
   have hne := Nat.ne_of_beq_eq_false hb
   simp only [an]
   split
   ·rename_i hb2
    have e2 := Nat.eq_of_beq_eq_true hb2
    subst e2
    rw [if_neg hne]
   ·exact lW
def Hp.app (H : Hp) : ED → Hp
 | .nop => H
 | .new o => ⟨H.nx + 1, (H.nx, o) :: H.es⟩
 | .set id o => ⟨H.nx, og id o H.es⟩
 | .repl id o => ⟨H.nx + 1, (H.nx, o) :: mq id H.es⟩
theorem Hp.ap_eq {α : Type} (H : Hp) (e : ED) (c : Hp → α) : H.ap e c = c (H.app e) := by
 cases e <;> simp [Hp.ap, Hp.app, dg, xr, qZ]
theorem Hp.get_free (H : Hp) : H.get H.nx = .free := by
 unfold Hp.get
 have : Nat.blt H.nx H.nx = false := by simp [Bool.eq_false_iff]
 rw [this]
theorem Hp.get_app {H : Hp} {e : ED} (he : e.ok H.get) : (H.app e).get = e.app H.get H.nx := by
 funext i
 cases e with
 | nop => rfl
 | new o =>
  simp only [Hp.app, ED.app]
  by_cases hi : i = H.nx
  ·subst hi
   rw [bK]
   simp only [Hp.get, an, nlT (Nat.lt_succ_self H.nx), nbT]
  ·rw [cq _ _ hi]
   have hb : Nat.beq H.nx i = false := nbF (Ne.symm hi)
   have : Nat.blt i (H.nx + 1) = Nat.blt i H.nx := by rw [Bool.eq_iff_iff]; simp [Nat.blt_eq]; omega
   simp [Hp.get, an, hb, this]
 | set id o =>
  simp only [Hp.app, ED.app]
  have h1 : an H.es id ≠ .gone := by
   have := he.1
   unfold Hp.get at this
   split at this
   ·exact this
   ·rename_i hc
    exact absurd (by unfold Hp.get; rw [hc]) he.2
  by_cases hi : i = id
  ·subst hi
   rw [bK]
   have h2 := he.2
   unfold Hp.get at h2 ⊢
   split at h2
   ·rename_i hc
    simp only [hc]
    exact pR h1
   ·exact absurd rfl h2
  ·rw [cq _ _ hi]
   unfold Hp.get
   simp only []
   rw [rx hi]
 | repl id o =>
  simp only [Hp.app, ED.app]
  have hid : id < H.nx := by
   have h2 := he.2
   unfold Hp.get at h2
   split at h2
   ·rename_i hc; simpa [Nat.blt_eq] using hc
   ·exact absurd rfl h2
  by_cases hi : i = H.nx
  ·subst hi
   rw [bK]
   simp only [Hp.get, an, nlT (Nat.lt_succ_self H.nx), nbT]
  ·rw [cq _ _ hi]
   have hb : Nat.beq H.nx i = false := nbF (Ne.symm hi)
   have hlt : Nat.blt i (H.nx + 1) = Nat.blt i H.nx := by rw [Bool.eq_iff_iff]; simp [Nat.blt_eq]; omega
   by_cases hii : i = id
   ·subst hii
    rw [bK]
    have : Nat.blt i H.nx = true := by simpa [Nat.blt_eq] using hid
    simp [Hp.get, an, hb, hlt, this, lW]
   ·rw [cq _ _ hii]
    simp [Hp.get, an, hb, hlt, lW, hii]
theorem vY (a b : List (Nat × Ob)) (i : Nat) : an (a ++ b) i = an a i ∨ (an a i = .gone ∧ an (a ++ b) i = an b i) := by
 induction a with
 | nil => exact .inr ⟨rfl, rfl⟩
 | cons p r ih =>
  obtain ⟨j, o⟩ := p
  simp only [List.cons_append, an]
  split
  ·exact .inl rfl
  ·exact ih
end Go.Proofs.YtpnpdlnpikkeaaaGreat
namespace Go.Proofs.YtpnpdlnpikkeaaaGreat
open Go.RowKit
structure Ctx where
 w0 : World
 S0 : Nat → Prop
 X0 : Nat → Prop
 pin : Nat → Option Value
structure Inv (K : Ctx) (S : Nat → Prop) (w : World) (ρ : Nat → Option Value) (h : Nat → Ob) : Prop where
 chg : ChgP K.X0 K.w0 w
 s0 : ∀ b, K.S0 b → S b
 s1 : ∀ b, S b → K.S0 b ∨ K.X0 b ∨ K.w0.heap.size ≤ b
 ow : ∀ id b, own ρ id (h id) b → K.X0 b ∨ K.w0.heap.size ≤ b
 pin : ∀ id x, K.pin id = some x → ρ id = some x
section
variable {P : Program} {T : Tab} {K : Ctx} {S S' : Nat → Prop} {w w' : World} {ρ ρ' : Nat → Option Value} {h h' : Nat → Ob} {a : Act} {n : Nat} {F : Fm} {X : Nat → Prop}
theorem Inv.eff (hi : Inv K S w ρ h) (he : Eff S w w' ρ ρ' h h' X) : Inv K S w' ρ' h' :=
 ⟨hi.chg.trans he.chg (fun b ⟨id, _, hb⟩ => hi.ow id b hb), hi.s0, hi.s1, fun id b hb => by
  rcases he.new id b hb with ⟨j, hj⟩ | hj
  ·exact hi.ow j b hj
  ·exact .inr (Nat.le_trans hi.chg.size hj), fun id x hx => he.up.r _ _ (hi.pin id x hx)⟩
theorem Inv.frz (hr : HRel S w ρ h) (hi : Inv K S w ρ h) (id : Nat) : Inv K (fun b => S b ∨ own ρ id (h id) b) w ρ (cy h id .gone) :=
 ⟨hi.chg, fun b hb => .inl (hi.s0 b hb), fun b hb => by
  rcases hb with hb | hb
  ·exact hi.s1 b hb
  ·exact .inr (hi.ow id b hb), fun i b hb => by
  by_cases hii : i = id
  ·subst hii; rw [bK] at hb; exact hb.elim
  ·rw [cq _ _ hii] at hb; exact hi.ow i b hb, hi.pin⟩
theorem HRel.chg0 (hr : HRel S w ρ h) (hc : Chg [] w w') : HRel S w' ρ h := by
 have up : Up S S w w' ρ ρ := ⟨fun _ h => h, fun b _ hb => hc.block b hb (by simp), fun _ _ h => h⟩
 refine ⟨fun i => (hr.ob i).up up (fun hf => ?_) (fun b hb => hc.block b (fd (hr.ob i) hb) (by simp)), hr.sep, hr.dis, fun b hb => Nat.lt_of_lt_of_le (hr.slt b hb) hc.size⟩
 have := hr.ob i; rw [hf] at this; exact this
theorem Up.chg0 (hc : Chg [] w w') : Up S S w w' ρ ρ := ⟨fun _ h => h, fun b _ hb => hc.block b hb (by simp), fun _ _ h => h⟩
theorem Inv.chg0 (hi : Inv K S w ρ h) (hc : Chg [] w w') : Inv K S w' ρ h := ⟨hi.chg.trans (ChgP.of hc) (fun b hb => by simp at hb), hi.s0, hi.s1, hi.ow, hi.pin⟩
theorem HRel.drop (hr : HRel S w ρ h) (hh : ∀ i, h' i = h i ∨ h' i = .gone) : HRel S w ρ h' := by
 have back : ∀ i b, own ρ i (h' i) b → own ρ i (h i) b := fun i b hb => by
  rcases hh i with e | e
  ·rw [e] at hb; exact hb
  ·rw [e] at hb; exact hb.elim
 refine ⟨fun i => ?_, fun i b hb => hr.sep i b (back i b hb), fun i j b hbi hbj => hr.dis i j b (back i b hbi) (back j b hbj), hr.slt⟩
 rcases hh i with e | e
 ·rw [e]; exact hr.ob i
 ·rw [e]; trivial
theorem Inv.drop (hi : Inv K S w ρ h) (hh : ∀ i, h' i = h i ∨ h' i = .gone) : Inv K S w ρ h' :=
 ⟨hi.chg, hi.s0, hi.s1, fun i b hb => by
  rcases hh i with e | e
  ·rw [e] at hb; exact hi.ow i b hb
  ·rw [e] at hb; exact hb.elim, hi.pin⟩
theorem Agree.refl : Agree S w w := fun _ _ => rfl
theorem nu (hr : HRel S w ρ h) (he : Eff S w w' ρ ρ' h h' X) : Agree S w w' := fun b hb => he.up.blk b hb (hr.slt b hb)
def bA (F : Fm) (all : Array Oper) (g : Option (Nat × Bool)) : Option Bool := match g with
 | none => some true
 |some (j, b) => match (all[j]?).bind (·.dst) with
  |some d => match F.get d with
   | some (.bool true) => some b
   | some (.bool false) => some (!b)
   | some (.tup _) => some false
   | _ => none
  | none => none
theorem cM (hF : FRel S w ρ a n F) {all : Array Oper} {o : Oper} {c : Bool} (hw : bA F all o.guard = some c) : Region.wanted o (yielded all a.tmps) = c := by
 unfold bA at hw
 split at hw
 ·rename_i hg
  injection hw with hw; subst hw
  exact jC hF.fr (by rw [hg]; rfl)
 ·rename_i j b hg
  split at hw
  ·rename_i d hd
   split at hw
   ·rename_i hv
    obtain ⟨x, h1, h2⟩ := hF.get d _ hv
    simp only [VRel] at h2; subst h2
    injection hw with hw; subst hw
    cases b
    ·exact oM hF.fr (by rw [hg]; simp only [nW, look, hd]; simp [fA, h1])
    ·exact jC hF.fr (by rw [hg]; simp only [dZ, look, hd]; simp [fA, h1])
   ·rename_i hv
    obtain ⟨x, h1, h2⟩ := hF.get d _ hv
    simp only [VRel] at h2; subst h2
    injection hw with hw; subst hw
    cases b
    ·exact jC hF.fr (by rw [hg]; simp only [dZ, look, hd]; simp [fA, h1])
    ·exact oM hF.fr (by rw [hg]; simp only [nW, look, hd]; simp [fA, h1])
   ·rename_i hv
    obtain ⟨x, h1, h2⟩ := hF.get d _ hv
    simp only [VRel] at h2; obtain ⟨xs, rfl, _⟩ := h2
    injection hw with hw; subst hw
    exact oM hF.fr (by rw [hg]; simp only [nW, look, hd]; simp [fA, h1])
   ·cases hw
  ·cases hw
end
def Go (P : Program) (K : Ctx) (Q : Exit → Act → World → Prop) (p : EP) (s : List EI) (n : Nat) (F : Fm) (H : Hp) : Prop :=
 ∀ S w ρ a, HRel S w ρ H.get → Inv K S w ρ H.get → FRel S w ρ a n F → EP.wp P Q p s S w ρ a
def CallR (P : Program) (K : Ctx) (fid : FuncId) (vs : List V) (H : Hp) (L : List Nat) (Post : V → Hp → Prop) : Prop :=
  ∀ S w ρ xs, HRel S w ρ H.get → Inv K S w ρ H.get → LRel S w ρ vs xs → Calls P fid xs.toArray w fun e w' =>
    ∃ x S' ρ' v H', e = .returned x ∧ Post v H' ∧ HRel S' w' ρ' H'.get ∧ Inv K S' w' ρ' H'.get ∧ Up S S' w w' ρ ρ' ∧ VRel S' w' ρ' v x ∧ Ls ρ L w w'
def wh (v : Option V) : Option V := match v with
 | some v => some v
 | none => some (.tup [])
section
variable {P : Program} {T : Tab} {K : Ctx} {Q : Exit → Act → World → Prop} {s : List EI} {n : Nat} {F : Fm} {H : Hp}
theorem pE {S : Nat → Prop} {w : World} {ρ : Nat → Option Value} : VRel S w ρ (.tup []) undef := by
 simp only [VRel]; exact ⟨[], rfl, by simp [LRel]⟩
theorem nf {S : Nat → Prop} {w : World} {ρ : Nat → Option Value} {a : Act} (hF : FRel S w ρ a n F) (d : Option Tmp) : FRel S w ρ (a.put d undef) n (F.seto d (some (.tup []))) :=
 hF.set d (fun u hu => by injection hu with hu; subst hu; exact pE)
theorem dr {S : Nat → Prop} {w : World} {ρ : Nat → Option Value} {a : Act} {v : V} {x : Value} (hF : FRel S w ρ a n F) (d : Option Tmp) (hx : VRel S w ρ v x) : FRel S w ρ (a.put d x) n (F.seto d (some v)) :=
 hF.set d (fun u hu => by injection hu with hu; subst hu; exact hx)
theorem Ar {x y : Code} (k : Go P K Q (.code x) (.seq y :: s) n F H) : Go P K Q (.code (.seq x y)) s n F H := fun S w ρ a hr hi hF => wp_seq (k S w ρ a hr hi hF)
theorem wa {id : Nat} {c : Code} (k : Go P K Q (.code c) (.blk id :: s) n F H) : Go P K Q (.code (.block id c)) s n F H := fun S w ρ a hr hi hF => wp_block (k S w ρ a hr hi hF)
theorem xz (k : Go P K Q (.ex .normal) s n F H) : Go P K Q (.code .skip) s n F H := fun S w ρ a hr hi hF => wp_skip (k S w ρ a hr hi hF)
theorem go_ret (k : Go P K Q (.ex .ret) s n F H) : Go P K Q (.code .ret) s n F H := fun S w ρ a hr hi hF => wp_ret (k S w ρ a hr hi hF)
theorem xx {id : Nat} (k : Go P K Q (.ex (.exit id)) s n F H) : Go P K Q (.code (.exit id)) s n F H := fun S w ρ a hr hi hF => wp_exit (k S w ρ a hr hi hF)
theorem BI {l : Nat} (k : Go P K Q (.ex .normal) s n F H) : Go P K Q (.code (.label l)) s n F H := fun S w ρ a hr hi hF => wp_label (k S w ρ a hr hi hF)
theorem Bm {c : Code} (k : Go P K Q (.code c) (.scp :: s) n F H) : Go P K Q (.code (.scope c)) s n F H := fun S w ρ a hr hi hF => wp_scope_straight (k S w ρ a hr hi hF)
theorem go_loop {c : Code} (j : Nat) (k : Go P K Q (.code c) (.loop c j :: s) n F H) : Go P K Q (.code (.loop c)) s n F H := fun S w ρ a hr hi hF => wp_loop_rounds (j + 1) (k S w ρ a hr hi hF)
theorem vT {c : Operand} {x y : Code} (hc : aT F c = some (.bool true)) (k : Go P K Q (.code x) s n F H) : Go P K Q (.code (.cond c x y)) s n F H := fun S w ρ a hr hi hF => rU hF.fr (mh (al hF hc)) (k S w ρ a hr hi hF)
theorem wm {c : Operand} {x y : Code} (hc : aT F c = some (.bool false)) (k : Go P K Q (.code y) s n F H) : Go P K Q (.code (.cond c x y)) s n F H := fun S w ρ a hr hi hF => sg hF.fr (mh (al hF hc)) (k S w ρ a hr hi hF)
theorem go_region {id : Nat} {l : List Oper} (k : Go P K Q (.ops l.toArray l) s n F H) : Go P K Q (.code (.region id l.toArray false)) s n F H := fun S w ρ a hr hi hF => wp_region_lit (k S w ρ a hr hi hF)
theorem AA {all : Array Oper} (k : Go P K Q (.ex .normal) s n F H) : Go P K Q (.ops all []) s n F H := fun S w ρ a hr hi hF => k S w ρ a hr hi hF
theorem xO {c : Code} (k : Go P K Q (.code c) s n F H) : Go P K Q (.ex .normal) (.seq c :: s) n F H := k
theorem vp {c : Code} {i : Nat} (k : Go P K Q (.ex (.exit i)) s n F H) : Go P K Q (.ex (.exit i)) (.seq c :: s) n F H := k
theorem vy {c : Code} (k : Go P K Q (.ex .ret) s n F H) : Go P K Q (.ex .ret) (.seq c :: s) n F H := k
theorem go_xloop {c : Code} {j : Nat} (k : Go P K Q (.code c) (.loop c j :: s) n F H) : Go P K Q (.ex .normal) (.loop c (j + 1) :: s) n F H := fun S w ρ a hr hi hF => k S w ρ a hr hi hF
theorem go_xloopE {c : Code} {j i : Nat} (k : Go P K Q (.ex (.exit i)) s n F H) : Go P K Q (.ex (.exit i)) (.loop c j :: s) n F H := k
theorem go_xloopR {c : Code} {j : Nat} (k : Go P K Q (.ex .ret) s n F H) : Go P K Q (.ex .ret) (.loop c j :: s) n F H := k
theorem wn {id : Nat} (k : Go P K Q (.ex .normal) s n F H) : Go P K Q (.ex .normal) (.blk id :: s) n F H := k
theorem wj {id : Nat} (k : Go P K Q (.ex .ret) s n F H) : Go P K Q (.ex .ret) (.blk id :: s) n F H := k
theorem vW {id i : Nat} (hb : Nat.beq i id = true) (k : Go P K Q (.ex .normal) s n F H) : Go P K Q (.ex (.exit i)) (.blk id :: s) n F H := fun S w ρ a hr hi hF => by
 have := Nat.eq_of_beq_eq_true hb
 subst this
 simp only [EP.wp, dF, Exit.inBlock, if_true]
 exact k S w ρ a hr hi hF
theorem vo {id i : Nat} (hb : Nat.beq i id = false) (k : Go P K Q (.ex (.exit i)) s n F H) : Go P K Q (.ex (.exit i)) (.blk id :: s) n F H := fun S w ρ a hr hi hF => by
 simp only [EP.wp, dF, Exit.inBlock, if_neg (Nat.ne_of_beq_eq_false hb)]
 exact k S w ρ a hr hi hF
theorem Bo (k : Go P K Q (.ex .normal) s n F H) : Go P K Q (.ex .normal) (.scp :: s) n F H := k
theorem Bt {i : Nat} (k : Go P K Q (.ex (.exit i)) s n F H) : Go P K Q (.ex (.exit i)) (.scp :: s) n F H := k
theorem Bn (k : Go P K Q (.ex .ret) s n F H) : Go P K Q (.ex .ret) (.scp :: s) n F H := k
variable {all : Array Oper} {rest : List Oper} {o : Oper}
theorem Am (hw : bA F all o.guard = some false) (k : Go P K Q (.ops all rest) s n (F.seto o.dst (some (.tup []))) H) : Go P K Q (.ops all (o :: rest)) s n F H := fun S w ρ a hr hi hF => by
 show wpList P all (dF P Q s) (o :: rest) a w
 unfold wpList
 rw [cM hF hw]
 simp only [Bool.false_eq_true, if_false]
 exact k S w ρ _ hr hi (nf hF o.dst)
theorem go_opY {v : V} (hw : bA F all o.guard = some true) (hy : ∀ S w ρ a, HRel S w ρ H.get → FRel S w ρ a n F → Yld P S w ρ a o.type o.op v) (k : Go P K Q (.ops all rest) s n (F.seto o.dst (some v)) H) : Go P K Q (.ops all (o :: rest)) s n F H := fun S w ρ a hr hi hF => by
 show wpList P all (dF P Q s) (o :: rest) a w
 unfold wpList
 rw [if_pos (cM hF hw)]
 refine .inl ?_
 obtain ⟨x, h1, h2⟩ := hy S w ρ a hr hF
 obtain ⟨d, op, ty, ps, af, g⟩ := o
 unfold Oper.wp
 rw [h2 w Agree.refl d ps af g]
 exact k S w ρ _ hr hi (dr hF d h1)
theorem go_opP (hT : TabOk P T) {v : V} (hw : bA F all o.guard = some true) (hv : lE T H.get F o.op = some v) (k : Go P K Q (.ops all rest) s n (F.seto o.dst (some v)) H) : Go P K Q (.ops all (o :: rest)) s n F H :=
 go_opY hw (fun S w ρ a hr hF => pL hT hr hF hv) k
theorem go_opD {v : Option V} {ed : ED} (hw : bA F all o.guard = some true) (hd : ∀ S w ρ a, HRel S w ρ H.get → FRel S w ρ a n F → Does P S w ρ H.get a o.type o.op v (ed.app H.get H.nx) ed.tch) (hl : ed.ok H.get) (k : Go P K Q (.ops all rest) s n (F.seto o.dst (wh v)) (H.app ed)) : Go P K Q (.ops all (o :: rest)) s n F H := fun S w ρ a hr hi hF => by
 show wpList P all (dF P Q s) (o :: rest) a w
 unfold wpList
 rw [if_pos (cM hF hw)]
 refine .inl ?_
 obtain ⟨nx, w', ρ', h1, h2, h3⟩ := hd S w ρ a hr hF
 have hr' := h2.hr
 have hi' := hi.eff h2
 rw [← Hp.get_app hl] at hr' hi'
 obtain ⟨d, op, ty, ps, af, g⟩ := o
 unfold Oper.wp
 rw [h1 d ps af g]
 cases v with
 | none =>
  subst h3
  exact k S w' ρ' _ hr' hi' (nf (hF.up h2.up) d)
 | some v =>
  obtain ⟨x, rfl, h4⟩ := h3
  exact k S w' ρ' _ hr' hi' (dr (hF.up h2.up) d h4)
theorem go_opE (hT : TabOk P T) {v : Option V} {ed : ED} (hw : bA F all o.guard = some true) (hv : kP T H.get F H.nx o.op = some (v, ed)) (k : Go P K Q (.ops all rest) s n (F.seto o.dst (wh v)) (H.app ed)) : Go P K Q (.ops all (o :: rest)) s n F H :=
 go_opD hw (fun S w ρ a hr hF => rc hT hr hF H.get_free hv) (od hv) k
theorem go_opC {fid : FuncId} {args : List Operand} {tys : Array TypeId} {vs : List V} {Post : V → Hp → Prop} (he : cF P fid = true) (ho : o.op = .call { callee := .value (.func fid), args := args.toArray, argTypes := tys }) (hw : bA F all o.guard = some true) (hv : jb F args = some vs) (hC : CallR P K fid vs H [] Post)
  (k : ∀ v H', Post v H' → Go P K Q (.ops all rest) s n (F.seto o.dst (some v)) H') : Go P K Q (.ops all (o :: rest)) s n F H := fun S w ρ a hr hi hF => by
 show wpList P all (dF P Q s) (o :: rest) a w
 unfold wpList
 rw [if_pos (cM hF hw)]
 refine .inl ?_
 obtain ⟨xs, h1, h2⟩ := pe hF hv
 have hc := hC S w ρ xs hr hi h2
 obtain ⟨d, op, ty, ps, af, g⟩ := o
 simp only at ho
 subst ho
 have hx : (execOp a.eval ⟨d, .call { callee := .value (.func fid), args := args.toArray, argTypes := tys }, ty, ps, af, g⟩).run P w = .ok (.enter fid xs.toArray) w := by
  have e : args.toArray.map a.eval = xs.toArray := by rw [← hF.fr.vals h1]; simp
  simp only [execOp, resolve, e]
  simp [Act.eval, Deferred.ofValue, invoke, ly he]
 unfold Oper.wp
 rw [hx, Oper.upon_enter]
 refine hc.mono fun e w1 hR => ?_
 obtain ⟨x, S', ρ', v, H', rfl, hp, hr', hi', hu, hvr, _⟩ := hR
 exact k v H' hp S' w1 ρ' _ hr' hi' (dr (hF.up hu) d hvr)
theorem xl {id : Nat} {l : List Oper} (L : List Nat) (m sz : Nat) (hsz : l.length = sz) (hm : P.follows .mixedOrders = true) (hs : Region.noSelect l.toArray = true) (k : Go P K Q (.drw l.toArray L m sz (Array.replicate sz false)) s n F H) : Go P K Q (.code (.region id l.toArray true)) s n F H := fun S w ρ a hr hi hF => by
 refine wp_region_noPanic (wp_region_any hm (sJ (B := Agree S { w with drawn := w.drawn + 1 }) (S := Ls ρ L { w with drawn := w.drawn + 1 }) (m := m) _ _ _ _ ?_))
 have hc := Chg.drew w
 have := k S { w with drawn := w.drawn + 1 } ρ a (hr.chg0 hc) (hi.chg0 hc) (hF.up (Up.chg0 hc)) hs
 subst hsz
 simpa using this
variable {L : List Nat} {m left i : Nat} {listed : Array Bool}
theorem vR (hd : Region.ready .any all listed = []) (k : Go P K Q (.ex .normal) s n F H) : Go P K Q (.drw all L m left listed) s n F H := fun S w ρ a hr hi hF _ => by
 have hk := k S w ρ a hr hi hF
 cases left with
 | zero => exact ⟨hd, hk⟩
 | succ left => exact ⟨fun _ => hk, by rw [hd]; simp⟩
theorem pj {S S' : Nat → Prop} {w w' : World} (hS : ∀ b, S b → S' b) (h1 : Agree S w w') : ∀ x, Agree S' w' x → Agree S w x := fun x hx b hb => (hx b (hS b hb)).trans (h1 b hb)
theorem CU {ρ ρ' : Nat → Option Value} {w w' : World} (hρ : ∀ i x, ρ i = some x → ρ' i = some x) (h1 : Ls ρ L w w') : ∀ x, Ls ρ' L w' x → Ls ρ L w x := fun x hx id hid y b hy hb => (hx id hid y b (hρ _ _ hy) hb).trans (h1 id hid y b hy hb)
theorem lj {S S' : Nat → Prop} {w w' : World} {ρ ρ' : Nat → Option Value} {a : Act} (hu : Up S S' w w' ρ ρ') (hA : Agree S w w') (hL : Ls ρ L w w' ∨ listed.getD m false = true) (h : wpB P all (NoPanic (dF P Q s)) (Agree S' w') (Ls ρ' L w') m left listed a w') :
  Agree S w w' ∧ (Ls ρ L w w' ∨ listed.getD m false = true) ∧ wpB P all (NoPanic (dF P Q s)) (Agree S w) (Ls ρ L w) m left listed a w' := by
 refine ⟨hA, hL, ?_⟩
 rcases hL with hL | hL
 ·exact rM (pj hu.s hA) (fun x _ => CU hu.r hL x) _ _ _ _ h
 · -- number m has come up: S does not matter any more
  have key : ∀ (fuel : Nat) (listed : Array Bool) (a : Act) (w'' : World), listed.getD m false = true → wpB P all (NoPanic (dF P Q s)) (Agree S' w') (Ls ρ' L w') m fuel listed a w'' → wpB P all (NoPanic (dF P Q s)) (Agree S w) (Ls ρ L w) m fuel listed a w'' := by
   intro fuel
   induction fuel with
   | zero => intro _ _ _ _ h; exact h
   | succ fuel ih =>
    intro listed a w'' hl h
    exact ⟨h.1, fun i hi => wpOp_mono (fun a' w3 h' => ⟨pj hu.s hA _ h'.1, .inr (fX hl), ih _ _ _ (fX hl) h'.2.2⟩) (h.2 i hi)⟩
  exact key _ _ _ _ hL h
theorem mb {ρ : Nat → Option Value} {w : World} : Ls ρ L w w := fun _ _ _ _ _ _ => rfl
theorem Co {v : V} (him : Nat.beq i m = false) (hi : all[i]? = some o) (hf : Region.free .any all listed i = true) (hrd : (Region.ready .any all listed).contains i = true) (hw : bA F all o.guard = some true) (hy : ∀ S w ρ a, HRel S w ρ H.get → FRel S w ρ a n F → Yld P S w ρ a o.type o.op v)
  (k : Go P K Q (.drw all L m left (listed.setIfInBounds i true)) s n (F.seto o.dst (some v)) H) : Go P K Q (.drw all L m (left + 1) listed) s n F H := fun S w ρ a hr hiv hF hs => by
 obtain ⟨x, h1, h2⟩ := hy S w ρ a hr hF
 refine wpB_pure (Nat.ne_of_beq_eq_false him) hi (Region.noSelect_spec hs) (fun _ _ _ h => h.elim) left listed a w (Region.free_spec hi hf) (by simpa using hrd) (.inl ⟨cM hF hw, fun w' hA => ?_⟩) Agree.refl (.inl mb) (k S w ρ _ hr hiv (dr hF o.dst h1) hs)
 obtain ⟨d, op, ty, ps, af, g⟩ := o
 exact h2 w' hA d ps af g
theorem Cz (hT : TabOk P T) {v : V} (him : Nat.beq i m = false) (hi : all[i]? = some o) (hf : Region.free .any all listed i = true) (hrd : (Region.ready .any all listed).contains i = true) (hw : bA F all o.guard = some true) (hv : lE T H.get F o.op = some v)
 (k : Go P K Q (.drw all L m left (listed.setIfInBounds i true)) s n (F.seto o.dst (some v)) H) : Go P K Q (.drw all L m (left + 1) listed) s n F H := Co him hi hf hrd hw (fun S w ρ a hr hF => pL hT hr hF hv) k
theorem yV (him : Nat.beq i m = false) (hi : all[i]? = some o) (hf : Region.free .any all listed i = true) (hrd : (Region.ready .any all listed).contains i = true) (hw : bA F all o.guard = some false)
  (k : Go P K Q (.drw all L m left (listed.setIfInBounds i true)) s n (F.seto o.dst (some (.tup []))) H) : Go P K Q (.drw all L m (left + 1) listed) s n F H := fun S w ρ a hr hiv hF hs =>
 wpB_pure (Nat.ne_of_beq_eq_false him) hi (Region.noSelect_spec hs) (fun _ _ _ h => h.elim) left listed a w (Region.free_spec hi hf) (by simpa using hrd) (.inr ⟨cM hF hw, rfl⟩) Agree.refl (.inl mb) (k S w ρ _ hr hiv (nf hF o.dst) hs)
def oH (F : Fm) (op : Op) : Option Nat := match op with
 |.load _ x => match aT F x with
  | some (.ptr id _) => some id
  | some (.el id _ _ _) => some id
  | _ => none
 | _ => none
theorem Ai (hT : TabOk P T) {S : Nat → Prop} {w : World} {ρ : Nat → Option Value} {h : Nat → Ob} {a : Act} {op : Op} {ty : TypeId} {id nid : Nat} {v : V} {ed : ED} (hr : HRel S w ρ h) (hF : FRel S w ρ a n F) (hid : oH F op = some id) (hv : kP T h F nid op = some (some v, ed)) :
  ∃ x u b, VRel S w ρ v x ∧ ρ id = some u ∧ vblk u = some b ∧ ∀ w', w'.heap[b]? = w.heap[b]? → Runs P a ty op w' (.value x) w' := by
 have fr := hF.fr
 unfold oH at hid
 split at hid
 ·rename_i t x
  unfold kP at hv
  simp only at hv
  split at hid
  ·rename_i id' o' hx
   injection hid with hid; subst hid
   rw [hx] at hv
   simp only at hv
   split at hv
   ·rename_i d hd
    split at hv
    ·rename_i ho
     split at hv
     ·rename_i u hu
      simp only [Option.some.injEq, Prod.mk.injEq] at hv
      obtain ⟨rfl, rfl⟩ := hv
      rcases mf (hT.ty _ _ hd) hu with ⟨h1, h2⟩ | ⟨h1, h2, rfl⟩
      ·obtain ⟨b, y, g1, g2, g3, g4⟩ := xn (P := P) (ty := ty) hr fr (al hF hx) ho h1 h2
       exact ⟨y, _, b, g3, g1, rfl, fun w' hw => g4 w' ((World.cell?_of_block (a := ⟨b, _, none⟩) hw).trans g2)⟩
      ·obtain ⟨b, ys, g1, g2, g3, g4⟩ := vx (P := P) (ty := ty) hr fr (al hF hx) ho h1 h2
       exact ⟨_, _, b, by simp only [VRel]; exact ⟨ys, rfl, g3⟩, g1, rfl, fun w' hw => g4 w' (fun j hj => (World.cell?_of_block (a := ⟨b, _, none⟩) hw).trans (g2 j hj))⟩
     ·cases hv
    ·cases hv
   ·cases hv
  ·rename_i id' sz i' o' hx
   injection hid with hid; subst hid
   rw [hx] at hv
   simp only at hv
   split at hv
   ·rename_i d hd
    split at hv
    ·rename_i ho
     split at hv
     ·rename_i hb
      have := Nat.eq_of_beq_eq_true hb
      subst this
      split at hv
      ·rename_i v0 hi
       rw [ll] at hi
       split at hv
       ·rename_i u hu
        simp only [Option.some.injEq, Prod.mk.injEq] at hv
        obtain ⟨rfl, rfl⟩ := hv
        have hbk : ∀ (q : Value) (b : Nat), q.ownBlock = some b → vblk q = some b := fun q b hq => by
         cases q <;> first | (simp only [Value.ownBlock] at hq; cases hq; done) | skip
         rename_i A _ _
         cases A <;> simp_all [Value.ownBlock, vblk]
        rcases mf (hT.ty _ _ hd) hu with ⟨h1, h2⟩ | ⟨h1, h2, rfl⟩
        ·obtain ⟨b, q, y, g1, g1', g2, g3, g4⟩ := vL (P := P) (ty := ty) hr fr (al hF hx) ho h1 hi h2
         exact ⟨y, q, b, g3, g1, hbk q b g1', fun w' hw => g4 w' ((World.cell?_of_block (a := ⟨b, _, none⟩) hw).trans g2)⟩
        ·obtain ⟨b, q, ys, g1, g1', g2, g3, g4⟩ := tS (P := P) (ty := ty) hr fr (al hF hx) ho h1 hi h2
         exact ⟨_, q, b, by simp only [VRel]; exact ⟨ys, rfl, g3⟩, g1, hbk q b g1', fun w' hw => g4 w' (fun j hj => (World.cell?_of_block (a := ⟨b, _, none⟩) hw).trans (g2 j hj))⟩
       ·cases hv
      ·cases hv
     ·cases hv
    ·cases hv
   ·cases hv
  ·cases hid
 ·cases hid
theorem Cu (hT : TabOk P T) {v : V} {id : Nat} {ed : ED} (him : Nat.beq i m = false) (hwt : mS .any all m i = true) (hlm : listed.getD m false = false) (hi : all[i]? = some o) (hf : Region.free .any all listed i = true) (hrd : (Region.ready .any all listed).contains i = true) (hw : bA F all o.guard = some true)
  (hid : oH F o.op = some id) (hL : L.contains id = true) (hv : kP T H.get F H.nx o.op = some (some v, ed))
  (k : Go P K Q (.drw all L m left (listed.setIfInBounds i true)) s n (F.seto o.dst (some v)) H) : Go P K Q (.drw all L m (left + 1) listed) s n F H := fun S w ρ a hr hiv hF hs => by
 obtain ⟨x, u, b, h1, h2, h3, h4⟩ := Ai (ty := o.type) hT hr hF hid hv
 refine BX (Nat.ne_of_beq_eq_false him) hwt hi (Region.noSelect_spec hs) (fun _ _ _ h => h.elim) left listed a w (Region.free_spec hi hf) (by simpa using hrd) (.inl ⟨cM hF hw, fun w' hA => ?_⟩) Agree.refl mb hlm (k S w ρ _ hr hiv (dr hF o.dst h1) hs)
 have hb := hA.2 id (by simpa using hL) u b h2 h3
 obtain ⟨d, op, ty, ps, af, g⟩ := o
 exact h4 w' hb d ps af g
def cG (h : Nat → Ob) : List Nat → Bool
 | [] => true
 |i :: r => match h i with
  | .var _ _ => cG h r
  | .row _ _ _ => cG h r
  | _ => false
theorem lh {S : Nat → Prop} {w : World} {ρ : Nat → Option Value} {h : Nat → Ob} (hr : HRel S w ρ h) : ∀ {L : List Nat}, cG h L = true → ∀ id, id ∈ L → ∀ x b, ρ id = some x → vblk x = some b → own ρ id (h id) b
 | [], _, id, hid, x, b, hx, hb => by simp at hid
 | j :: r, hl, id, hid, x, b, hx, hb => by
  have hown : ∀ o, h j = o → (∃ t cs, o = .var t cs) ∨ (∃ e sz els, o = .row e sz els) → ∀ x b, ρ j = some x → vblk x = some b → own ρ j (h j) b := by
   rintro o ho (⟨t, cs, rfl⟩ | ⟨e, sz, els, rfl⟩) x b hx hb
   ·obtain ⟨c, xs, g1, _⟩ := nw hr ho
    rw [g1] at hx; cases hx
    simp only [vblk, Option.some.injEq] at hb; subst hb
    rw [ho]; exact g1
   ·obtain ⟨v, xs, g1, g2, _⟩ := kB hr ho
    rw [g1] at hx; cases hx
    rw [ho]
    refine ⟨_, g1, ?_⟩
    obtain ⟨A, c, rfl, _⟩ := eW g2
    cases A <;> simp_all [Value.ownBlock, vblk]
  simp only [cG] at hl
  rcases List.mem_cons.1 hid with e | e
  ·subst e
   split at hl
   ·rename_i t cs ho; exact hown _ ho (.inl ⟨t, cs, rfl⟩) x b hx hb
   ·rename_i e sz els ho; exact hown _ ho (.inr ⟨e, sz, els, rfl⟩) x b hx hb
   ·cases hl
  ·split at hl
   ·exact lh hr hl id e x b hx hb
   ·exact lh hr hl id e x b hx hb
   ·cases hl
def ED.clear (L : List Nat) : ED → Bool
 | .nop => true
 | .new _ => true
 | .set id _ => !L.contains id
 | .repl id _ => !L.contains id
theorem vB {S : Nat → Prop} {w w' : World} {ρ ρ' : Nat → Option Value} {h h' : Nat → Ob} {ed : ED} (hr : HRel S w ρ h) (he : Eff S w w' ρ ρ' h h' ed.tch) (hl : cG h L = true) (hc : ed.clear L = true) : Ls ρ L w w' := fun id hid x b hx hb => by
 have ho := lh hr hl id hid x b hx hb
 refine he.chg.block b (fd (hr.ob id) ho) ?_
 rintro ⟨j, hj, hjo⟩
 have e := hr.dis j id b hjo ho
 subst e
 cases ed with
 | nop => exact hj
 | new _ => exact hj
 | set k _ => simp only [ED.tch] at hj; subst hj; simp [ED.clear] at hc; exact hc hid
 | repl k _ => simp only [ED.tch] at hj; subst hj; simp [ED.clear] at hc; exact hc hid
theorem qQ {a b : Bool} (h : (a || b) = true) : a = true ∨ b = true := by simpa using h
theorem lT {S : Nat → Prop} {B : World → Prop} {Sx : World → Prop} {a : Act} {w : World} {Q' : Exit → Act → World → Prop} (hrd : Region.ready .any all listed = [i]) (hk : wpOp P all Q' i (fun a' w' => B w' ∧ (Sx w' ∨ (listed.setIfInBounds i true).getD m false = true) ∧ wpB P all Q' B Sx m left (listed.setIfInBounds i true) a' w') a w) : wpB P all Q' B Sx m (left + 1) listed a w := by
 refine ⟨fun h0 => (by rw [hrd] at h0; cases h0), fun j hj => ?_⟩
 rw [hrd] at hj
 obtain rfl : j = i := by simpa using hj
 exact hk
theorem go_d1S (hrd : Region.ready .any all listed = [i]) (hi : all[i]? = some o) (hw : bA F all o.guard = some false) (k : Go P K Q (.drw all L m left (listed.setIfInBounds i true)) s n (F.seto o.dst (some (.tup []))) H) : Go P K Q (.drw all L m (left + 1) listed) s n F H := fun S w ρ a hr hiv hF hs => by
 refine lT (S := S) hrd ?_
 unfold wpOp
 simp only [hi]
 rw [cM hF hw]
 simp only [Bool.false_eq_true, if_false]
 exact ⟨Agree.refl, .inl mb, k S w ρ _ hr hiv (nf hF o.dst) hs⟩
theorem AH {v : V} (hrd : Region.ready .any all listed = [i]) (hi : all[i]? = some o) (hw : bA F all o.guard = some true) (hy : ∀ S w ρ a, HRel S w ρ H.get → FRel S w ρ a n F → Yld P S w ρ a o.type o.op v)
  (k : Go P K Q (.drw all L m left (listed.setIfInBounds i true)) s n (F.seto o.dst (some v)) H) : Go P K Q (.drw all L m (left + 1) listed) s n F H := fun S w ρ a hr hiv hF hs => by
 refine lT (S := S) hrd ?_
 obtain ⟨x, h1, h2⟩ := hy S w ρ a hr hF
 unfold wpOp
 simp only [hi]
 rw [if_pos (cM hF hw)]
 refine .inl ?_
 have hk := k S w ρ _ hr hiv (dr hF o.dst h1) hs
 obtain ⟨d, op, ty, ps, af, g⟩ := o
 unfold Oper.wp
 rw [h2 w Agree.refl d ps af g]
 exact ⟨Agree.refl, .inl mb, hk⟩
theorem va {v : Option V} {ed : ED} (hrd : Region.ready .any all listed = [i]) (hi : all[i]? = some o) (hw : bA F all o.guard = some true) (hd : ∀ S w ρ a, HRel S w ρ H.get → FRel S w ρ a n F → Does P S w ρ H.get a o.type o.op v (ed.app H.get H.nx) ed.tch) (hl : ed.ok H.get)
  (hc : ((cG H.get L && ed.clear L) || (listed.setIfInBounds i true).getD m false) = true) (k : Go P K Q (.drw all L m left (listed.setIfInBounds i true)) s n (F.seto o.dst (wh v)) (H.app ed)) : Go P K Q (.drw all L m (left + 1) listed) s n F H := fun S w ρ a hr hiv hF hs => by
 refine lT (S := S) hrd ?_
 obtain ⟨nx, w', ρ', h1, h2, h3⟩ := hd S w ρ a hr hF
 have hr' := h2.hr
 have hi' := hiv.eff h2
 rw [← Hp.get_app hl] at hr' hi'
 have hA := nu hr h2
 have hLs : Ls ρ L w w' ∨ (listed.setIfInBounds i true).getD m false = true := (qQ hc).imp (fun h => by
  simp only [Bool.and_eq_true] at h
  exact vB hr h2 h.1 h.2) id
 unfold wpOp
 simp only [hi]
 rw [if_pos (cM hF hw)]
 refine .inl ?_
 have kN := fun (e : v = none) => k S w' ρ' (a.put o.dst undef) hr' hi' (by subst e; exact nf (hF.up h2.up) o.dst) hs
 have kV := fun (x : Value) (u : V) (e : v = some u) (hx : VRel S w' ρ' u x) => k S w' ρ' (a.put o.dst x) hr' hi' (by subst e; exact dr (hF.up h2.up) o.dst hx) hs
 obtain ⟨d, op, ty, ps, af, g⟩ := o
 unfold Oper.wp
 rw [h1 d ps af g]
 cases v with
 | none =>
  subst h3
  exact lj h2.up hA hLs (kN rfl)
 | some v =>
  obtain ⟨x, rfl, h4⟩ := h3
  exact lj h2.up hA hLs (kV x v rfl h4)
theorem go_d1C {fid : FuncId} {args : List Operand} {tys : Array TypeId} {vs : List V} {Post : V → Hp → Prop} {L' : List Nat} (he : cF P fid = true) (hrd : Region.ready .any all listed = [i]) (hi : all[i]? = some o) (ho : o.op = .call { callee := .value (.func fid), args := args.toArray, argTypes := tys }) (hw : bA F all o.guard = some true) (hv : jb F args = some vs) (hC : CallR P K fid vs H L' Post)
  (hc : L' = L ∨ (listed.setIfInBounds i true).getD m false = true) (k : ∀ v H', Post v H' → Go P K Q (.drw all L m left (listed.setIfInBounds i true)) s n (F.seto o.dst (some v)) H') : Go P K Q (.drw all L m (left + 1) listed) s n F H := fun S w ρ a hr hiv hF hs => by
 refine lT (S := S) hrd ?_
 obtain ⟨xs, h1, h2⟩ := pe hF hv
 have hcl := hC S w ρ xs hr hiv h2
 unfold wpOp
 simp only [hi]
 rw [if_pos (cM hF hw)]
 refine .inl ?_
 obtain ⟨d, op, ty, ps, af, g⟩ := o
 simp only at ho
 subst ho
 have hx : (execOp a.eval ⟨d, .call { callee := .value (.func fid), args := args.toArray, argTypes := tys }, ty, ps, af, g⟩).run P w = .ok (.enter fid xs.toArray) w := by
  have e : args.toArray.map a.eval = xs.toArray := by rw [← hF.fr.vals h1]; simp
  simp only [execOp, resolve, e]
  simp [Act.eval, Deferred.ofValue, invoke, ly he]
 unfold Oper.wp
 rw [hx, Oper.upon_enter]
 refine hcl.mono fun e w1 hR => ?_
 obtain ⟨x, S', ρ', v, H', rfl, hp, hr', hi', hu, hvr, hls⟩ := hR
 have hk := k v H' hp S' w1 ρ' _ hr' hi' (dr (hF.up hu) d hvr) hs
 exact lj hu (fun b hb => hu.blk b hb (hr.slt b hb)) (hc.imp (fun e => by subst e; exact hls) id) hk
end
end Go.Proofs.YtpnpdlnpikkeaaaGreat
namespace Go.Proofs.YtpnpdlnpikkeaaaGreat
open Go.RowKit
section
variable {P : Program} {T : Tab} {K : Ctx} {Q : Exit → Act → World → Prop} {s : List EI} {n : Nat} {F : Fm} {S S' : Nat → Prop} {w w' : World} {ρ ρ' : Nat → Option Value} {h h1 h1' h2 : Nat → Ob} {a : Act}
theorem wg (hr : HRel S w ρ h) (hi : Inv K S w ρ h) (hh1 : ∀ i, h1 i = h i ∨ h1 i = .gone) (hr' : HRel S' w' ρ' h1') (hi' : Inv ⟨w, S, fun b => ∃ id, own ρ id (h1 id) b, ρ⟩ S' w' ρ' h1')
  (hh2 : ∀ i, (h2 i = h1' i ∨ h2 i = .gone) ∨ (h2 i = h i ∧ h1 i = .gone ∧ h i ≠ .free)) :
  HRel S' w' ρ' h2 ∧ Inv K S' w' ρ' h2 ∧ Up S S' w w' ρ ρ' ∧ ∀ L, cG h L = true → (∀ id, id ∈ L → h1 id = .gone) → Ls ρ L w w' := by
 have h1own : ∀ id b, own ρ id (h1 id) b → own ρ id (h id) b := fun id b hb => by
  rcases hh1 id with e | e
  ·rw [e] at hb; exact hb
  ·rw [e] at hb; exact hb.elim
 have up : Up S S' w w' ρ ρ' := ⟨hi'.s0, fun b hb hlt => hi'.chg.block b hlt (fun ⟨id, ho⟩ => hr.sep id b (h1own id b ho) hb), hi'.pin⟩
 have frame : ∀ i b, h1 i = .gone → own ρ i (h i) b → ¬ ∃ id, own ρ id (h1 id) b := fun i b hg ho ⟨id, hid⟩ => by
  have e := hr.dis i id b ho (h1own id b hid)
  subst e
  rw [hg] at hid; exact hid.elim
 have cases2 : ∀ i b, own ρ' i (h2 i) b → own ρ' i (h1' i) b ∨ (h1 i = .gone ∧ own ρ i (h i) b) := fun i b hb => by
  rcases hh2 i with (e | e) | ⟨e, e1, e2⟩
  ·rw [e] at hb; exact .inl hb
  ·rw [e] at hb; exact hb.elim
  ·rw [e] at hb; exact .inr ⟨e1, Ax hi'.pin (hr.ob i) hb⟩
 have far : ∀ i b, h1 i = .gone → own ρ i (h i) b → ¬ S' b := fun i b hg ho hS => by
  rcases hi'.s1 b hS with h3 | h3 | h3
  ·exact hr.sep i b ho h3
  ·exact frame i b hg ho h3
  ·have := fd (hr.ob i) ho; simp only at h3; omega
 have apart : ∀ i j b, own ρ' i (h1' i) b → h1 j = .gone → own ρ j (h j) b → False := fun i j b ho hg hb => by
  rcases hi'.ow i b ho with h3 | h3
  ·exact frame j b hg hb h3
  ·have := fd (hr.ob j) hb; simp only at h3; omega
 refine ⟨⟨fun i => ?_, fun i b hb => ?_, fun i j b hbi hbj => ?_, hr'.slt⟩, ⟨?_, fun b hb => hi'.s0 b (hi.s0 b hb), fun b hb => ?_, fun i b hb => ?_, fun id x hx => hi'.pin _ _ (hi.pin id x hx)⟩, up, fun L hl hg id hid x b hx hb => ?_⟩
 ·rcases hh2 i with (e | e) | ⟨e, e1, e2⟩
  ·rw [e]; exact hr'.ob i
  ·rw [e]; trivial
  ·rw [e]
   exact (hr.ob i).up up (fun hf => absurd hf e2) (fun b hb => hi'.chg.block b (fd (hr.ob i) hb) (frame i b e1 hb))
 ·rcases cases2 i b hb with h3 | ⟨h3, h4⟩
  ·exact hr'.sep i b h3
  ·exact far i b h3 h4
 ·rcases cases2 i b hbi with h3 | ⟨h3, h4⟩ <;> rcases cases2 j b hbj with h5 | ⟨h5, h6⟩
  ·exact hr'.dis i j b h3 h5
  ·exact (apart i j b h3 h5 h6).elim
  ·exact (apart j i b h5 h3 h4).elim
  ·exact hr.dis i j b h4 h6
 ·refine hi.chg.trans hi'.chg ?_
  rintro b ⟨id, ho⟩
  exact hi.ow id b (h1own id b ho)
 ·rcases hi'.s1 b hb with h3 | ⟨id, h3⟩ | h3
  ·exact hi.s1 b h3
  ·exact .inr (hi.ow id b (h1own id b h3))
  ·exact .inr (.inr (Nat.le_trans hi.chg.size h3))
 ·rcases cases2 i b hb with h3 | ⟨h3, h4⟩
  ·rcases hi'.ow i b h3 with ⟨id, h5⟩ | h5
   ·exact hi.ow id b (h1own id b h5)
   ·exact .inr (Nat.le_trans hi.chg.size h5)
  ·exact hi.ow i b h4
 ·have ho := lh hr hl id hid x b hx hb
  exact hi'.chg.block b (fd (hr.ob id) ho) (frame id b (hg id hid) ho)
def kL : Nat → List V → Fm
 | 0, _ => []
 | n + 1, [] => none :: kL n []
 | n + 1, v :: r => some v :: kL n r
theorem sf : ∀ (n : Nat) (vs : List V), (kL n vs).length = n
 | 0, _ => rfl
 | n + 1, [] => by simp [kL, sf n []]
 | n + 1, v :: r => by simp [kL, sf n r]
theorem rZ : ∀ (n : Nat) (vs : List V) (i : Nat) (v : V), (kL n vs).get i = some v → vs[i]? = some v
 | 0, _, i, v, h => by simp [kL, Fm.get] at h
 | n + 1, [], 0, v, h => by simp [kL, Fm.get] at h
 | n + 1, [], i + 1, v, h => by
  have := rZ n [] i v (by simpa [kL, Fm.get] using h)
  simp at this
 | n + 1, u :: r, 0, v, h => by simpa [kL, Fm.get] using h
 | n + 1, u :: r, i + 1, v, h => by
  have := rZ n r i v (by simpa [kL, Fm.get] using h)
  simpa using this
theorem ss {H : Hp} {fid : FuncId} {fn : Func} {c : Code} {vs : List V} {xs : List Value} {R : Ending → World → Prop} (hf : P.funcs[fid]? = some fn) (hb : fn.body = some c) (hl : Nat.ble vs.length fn.ntmps = true) (hr : HRel S w ρ H.get) (hi : Inv K S w ρ H.get) (hx : LRel S w ρ vs xs)
  (k : Go P K (bodyPost P fn R) (.code c) [] fn.ntmps (kL fn.ntmps vs) H) : Calls P fid xs.toArray w R := by
 refine calls_of_wp hf hb (k S w ρ _ hr hi ⟨?_, rfl, ?_, fun i v hv => ?_⟩)
 ·have h1 : vs.length ≤ fn.ntmps := Nat.le_of_ble_eq_true hl
  have h2 := hx.length
  simp; omega
 ·exact Nat.le_of_eq (sf _ _)
 ·have h1 := rZ _ _ _ _ hv
  obtain ⟨x, h2, h3⟩ := hx.get h1
  refine ⟨x, ?_, h3⟩
  have hlt : i < xs.length := (List.getElem?_eq_some_iff.1 h2).1
  show (xs.toArray ++ Array.replicate (fn.ntmps - xs.toArray.size) undef)[i]? = some x
  rw [Array.getElem?_append_left (by simpa using hlt)]
  simpa using h2
def yE (T : Tab) (h : Nat → Ob) (F : Fm) : ResultVar → Option V
 | .tmp t => F.get t
 |.cell t ty => match T.ty ty with
  |some d => match F.get t with
   |some (.ptr id 0) => match h id with
    | .var _ cs => ml d cs 0
    | _ => none
   | some (.box cs 0) => ml d cs 0
   | _ => none
  | none => none
def pB (T : Tab) (h : Nat → Ob) (F : Fm) : List ResultVar → Option (List V)
 | [] => some []
 |x :: r => match yE T h F x with
  |some v => match pB T h F r with
   | some vs => some (v :: vs)
   | none => none
  | none => none
def me : List V → V
 | [v] => v
 | vs => .tup vs
theorem vA {t : TypeId} {d : TD} (td : TdOk P t d) {b off : Nat} {cs : List V} {xs : List Value} {v : V} (hl : LRel S w ρ cs xs) (hc : ∀ j, j < xs.length → w.cell? ⟨b, off + j, none⟩ = xs[j]?) (hv : ml d cs 0 = some v) : ∃ y, (loadVar t ⟨b, off, none⟩).run P w = .ok y w ∧ VRel S w ρ v y := by
 have hlen := hl.length
 rcases mf td hv with ⟨h1, h2⟩ | ⟨h1, h2, rfl⟩
 ·obtain ⟨y, h3, h4⟩ := hl.get h2
  have h0 : 0 < xs.length := (List.getElem?_eq_some_iff.1 h3).1
  have := uw (P := P) (w := w) (p := ⟨b, off, none⟩) h1 (by have := hc 0 h0; rw [Nat.add_zero] at this; rw [this, h3])
  refine ⟨y, ?_, h4⟩
  simp only [Instr.loadAt, Instr.sureAddr] at this
  simpa using this
 ·have := qK (P := P) (w := w) (b := b) (o := off) (cs := xs.take d.size) h1 (by simp; omega) (fun j hj => by rw [hc j (by omega), List.getElem?_take, if_pos hj])
  refine ⟨_, ?_, by simp only [VRel]; exact ⟨xs.take d.size, rfl, by simpa using hl.take d.size⟩⟩
  simp only [Instr.loadAt, Instr.sureAddr] at this
  simpa using this
theorem BE (hT : TabOk P T) (hr : HRel S w ρ h) (hF : FRel S w ρ a n F) {x : ResultVar} {v : V} (hv : yE T h F x = some v) : ∃ y, (lB a x).run P w = .ok y w ∧ VRel S w ρ v y := by
 unfold yE at hv
 split at hv
 ·rename_i t
  obtain ⟨y, h1, h2⟩ := hF.get t v hv
  exact ⟨y, by simp [lB, Array.getD_eq_getD_getElem?, h1], h2⟩
 ·rename_i t ty
  split at hv
  ·rename_i d hd
   split at hv
   ·rename_i id hid
    split at hv
    ·rename_i ho
     obtain ⟨b, xs, g1, g2, g3⟩ := nw hr ho
     obtain ⟨y, h1, h2⟩ := hF.get t _ hid
     simp only [VRel] at h2
     obtain ⟨b', h3, rfl⟩ := h2
     rw [g1] at h3
     simp only [Option.some.injEq, Value.pointer.injEq, Addr.mk.injEq, and_true] at h3
     subst h3
     obtain ⟨z, k1, k2⟩ := vA (hT.ty _ _ hd) g3 (b := b) (off := 0) (fun j hj => by rw [Nat.zero_add, g2.cell]) hv
     exact ⟨z, by simp [lB, Array.getD_eq_getD_getElem?, h1, asAddr, k1], k2⟩
    ·cases hv
   ·rename_i cs hid
    obtain ⟨y, h1, h2⟩ := hF.get t _ hid
    simp only [VRel] at h2
    obtain ⟨b, off, xs, rfl, _, _, g3, g4⟩ := h2
    obtain ⟨z, k1, k2⟩ := vA (hT.ty _ _ hd) g3 (b := b) (off := off) g4 hv
    exact ⟨z, by simp [lB, Array.getD_eq_getD_getElem?, h1, asAddr, k1], k2.up up0⟩
   ·cases hv
  ·cases hv
theorem wX (hT : TabOk P T) (hr : HRel S w ρ h) (hF : FRel S w ρ a n F) : ∀ {l : List ResultVar} {vs : List V}, pB T h F l = some vs → ∃ ys, (l.mapM (lB a)).run P w = .ok ys w ∧ LRel S w ρ vs ys
 | [], vs, hv => by simp only [pB, Option.some.injEq] at hv; subst hv; exact ⟨[], by simp, by simp [LRel]⟩
 | x :: r, vs, hv => by
  simp only [pB] at hv
  split at hv
  ·rename_i v h1
   split at hv
   ·rename_i us h2
    simp only [Option.some.injEq] at hv; subst hv
    obtain ⟨y, g1, g2⟩ := BE hT hr hF h1
    obtain ⟨ys, g3, g4⟩ := wX hT hr hF h2
    exact ⟨y :: ys, by simp [List.mapM_cons, g1, g3], ⟨y, ys, rfl, g2, g4⟩⟩
   ·cases hv
  ·cases hv
theorem xg {vs : List V} {ys : List Value} (hl : LRel S w ρ vs ys) : VRel S w ρ (me vs) (lx ys) := by
 match vs, ys, hl with
 | [], ys, hl => simp only [LRel] at hl; subst hl; simp only [me, lx, VRel]; exact ⟨[], rfl, by simp [LRel]⟩
 | [v], ys, hl =>
  simp only [LRel] at hl
  obtain ⟨x, zs, rfl, h1, rfl⟩ := hl
  exact h1
 | v :: u :: r, ys, hl =>
  have hl' := hl
  simp only [LRel] at hl
  obtain ⟨x, zs, rfl, h1, y, zs', rfl, h2, h3⟩ := hl
  simp only [me, lx, VRel]
  exact ⟨_, rfl, hl'⟩
theorem ret_go (hT : TabOk P T) {fn : Func} {R : Ending → World → Prop} {rs : List ResultVar} {vs : List V} {e : Exit} (he : e = .ret ∨ e = .normal) (hrs : fn.results = rs.toArray) (hr : HRel S w ρ h) (hF : FRel S w ρ a n F) (hv : pB T h F rs = some vs) (hR : ∀ x, VRel S w ρ (me vs) x → R (.returned x) w) : bodyPost P fn R e a w := by
 obtain ⟨ys, h0, h1⟩ := wX hT hr hF hv
 have hb : bodyPost P fn R .ret a w := by
  refine bodyPost_ret (v := lx ys) ?_ hF.defers (hR _ (xg h1))
  have e : (Array.mapM (lB a) rs.toArray).run P w = .ok ys.toArray w := by rw [List.mapM_toArray]; simp [h0]
  unfold results
  rw [hrs]
  change ((Array.mapM (lB a) rs.toArray) >>= fun vs => pure (if h : vs.size = 1 then vs[0] else .tuple vs)).run P w = _
  simp only [Sem.run_bind, e, Result.andThen_ok, Sem.run_pure]
  match ys with
  | [] => rfl
  | [v] => rfl
  | v :: u :: r => simp [lx]
 rcases he with rfl | rfl
 ·exact hb
 ·exact hb
end
end Go.Proofs.YtpnpdlnpikkeaaaGreat
namespace Go.Proofs.YtpnpdlnpikkeaaaGreat
open Go.RowKit
def yf (d : Nat) : Operand → Bool
 | .tmp t => !Nat.beq t d
 | _ => true
def oR (d : Option Tmp) (ps : List (Nat × Operand)) : Bool := match d with
 | some d => ps.all fun p => yf d p.2
 | none => true
def uE (d e : Option Tmp) : Bool := match d, e with
 | some d, some e => !Nat.beq d e
 | _, _ => true
section
variable {P : Program} {T : Tab} {K : Ctx} {Q : Exit → Act → World → Prop} {s : List EI} {n : Nat} {F : Fm} {H : Hp} {S : Nat → Prop} {w : World} {ρ : Nat → Option Value} {a : Act}
theorem Do {d : Nat} {x : Operand} {y : Value} (h : yf d x = true) : av (fA (a.put (some d) y)) x = av (fA a) x := by
 cases x with
 | tmp t =>
  have hne : t ≠ d := fun e => by subst e; simp [yf] at h
  simp only [av, fA, Act.put, Array.getElem?_setIfInBounds]
  rw [if_neg (fun e => hne e.symm)]
 | _ => rfl
theorem zL {d : Option Tmp} {y : Value} : ∀ {ps : List (Nat × Operand)}, oR d ps = true → eC (fA (a.put d y)) ps = eC (fA a) ps := by
 intro ps h
 cases d with
 | none => rfl
 | some d =>
  induction ps with
  | nil => rfl
  | cons p r ih =>
   obtain ⟨i, x⟩ := p
   simp only [oR, List.all_cons, Bool.and_eq_true] at h
   have ih' := ih (by simp only [oR]; exact h.2)
   simp only [eC, Do h.1, ih']
theorem PRel.up {S' : Nat → Prop} {w' : World} {ρ' : Nat → Option Value} (u : Up S S' w w' ρ ρ') : ∀ {vs : List (Nat × V)} {ys : List (Nat × Value)}, PRel S w ρ vs ys → PRel S' w' ρ' vs ys
 | [], ys, h => h
 | (i, v) :: r, ys, h => by
  simp only [PRel] at h ⊢
  obtain ⟨x, zs, h1, h2, h3⟩ := h
  exact ⟨x, zs, h1, h2.up u, PRel.up u h3⟩
theorem AN {d e : Option Tmp} {v u : Option V} (h : uE d e = true) : (F.seto d v).seto e u = (F.seto e u).seto d v := by
 cases d with
 | none => rfl
 |some d => cases e with
  | none => rfl
  | some e =>
   have : d ≠ e := fun x => by subst x; simp [uE] at h
   simp only [Fm.seto]
   exact List.set_comm _ _ this
theorem AG {d : Option Tmp} {v : V} (hd : ∀ t, d = some t → F.get t = none) (hF : FRel S w ρ a n (F.seto d (some v))) : FRel S w ρ a n F := by
 cases d with
 | none => exact hF
 | some d =>
  refine ⟨hF.size, hF.defers, by have := hF.len; simpa [Fm.seto] using this, fun i u hu => hF.get i u ?_⟩
  have hne : d ≠ i := fun e => by subst e; rw [hd d rfl] at hu; cases hu
  rw [Fm.get_eq] at hu ⊢
  simp only [Fm.seto, List.getElem?_set, if_neg hne]
  exact hu
variable {all : Array Oper} {L : List Nat} {m left i : Nat} {listed : Array Bool} {o : Oper}
def GoP (P : Program) (K : Ctx) (Q : Exit → Act → World → Prop) (all : Array Oper) (L : List Nat) (m left : Nat) (listed : Array Bool) (s : List EI) (n : Nat) (F : Fm) (H : Hp) (i : Nat) (o : Oper) (ps : List (Nat × Operand)) (vs : List (Nat × V)) (v : V) : Prop :=
  ∀ S w ρ a, HRel S w ρ H.get → Inv K S w ρ H.get → Region.noSelect all = true →
    (FRel S w ρ a n F → (∃ ys, eC (fA a) ps = some ys ∧ PRel S w ρ vs ys) → wpB P all (NoPanic (dF P Q s)) (Agree S w) (Ls ρ L w) m (left + 1) listed a w) ∧
    (FRel S w ρ a n (F.seto o.dst (some v)) → wpB P all (NoPanic (dF P Q s)) (Agree S w) (Ls ρ L w) m left (listed.setIfInBounds i true) a w)
theorem AE {ps : List (Nat × Operand)} {vs : List (Nat × V)} {v : V} (hv : kC F ps = some vs) (k : GoP P K Q all L m left listed s n (F.seto o.dst none) H i o ps vs v) : Go P K Q (.drw all L m (left + 1) listed) s n F H := fun S w ρ a hr hi hF hs => by
 obtain ⟨ys, h1, h2⟩ := mG hF hv
 refine (k S w ρ a hr hi hs).1 ?_ ⟨ys, h1, h2⟩
 refine ⟨hF.size, hF.defers, ?_, fun j u hu => ?_⟩
 ·cases hd : o.dst with
  | none => exact hF.len
  | some d => have := hF.len; simpa [Fm.seto] using this
 ·cases hd : o.dst with
  | none => rw [hd] at hu; exact hF.get j u hu
  | some d =>
   rw [hd, Fm.get_eq] at hu
   simp only [Fm.seto, List.getElem?_set] at hu
   split at hu
   ·split at hu <;> simp at hu
   ·exact hF.get j u (by rw [Fm.get_eq]; exact hu)
theorem tL {w' : World} {b : Nat} (hc : Chg [] w w') : Up S (fun c => S c ∨ c = b) w w' ρ ρ := ⟨fun _ h => .inl h, fun c _ hlt => hc.block c hlt (by simp), fun _ _ h => h⟩
theorem AC {h : Nat → Ob} {w' : World} {b : Nat} (hr : HRel S w ρ h) (hc : Chg [] w w') (hb : b = w.heap.size) (hb' : b < w'.heap.size) : HRel (fun c => S c ∨ c = b) w' ρ h := by
 refine ⟨fun i => (hr.ob i).up (tL hc) (fun hf => ?_) (fun c hcc => hc.block c (fd (hr.ob i) hcc) (by simp)), fun i c hcc => ?_, hr.dis, fun c hcc => ?_⟩
 ·have := hr.ob i; rw [hf] at this; exact this
 ·rintro (h1 | h1)
  ·exact hr.sep i c hcc h1
  ·have := fd (hr.ob i) hcc; omega
 ·rcases hcc with h1 | h1
  ·exact Nat.lt_of_lt_of_le (hr.slt c h1) hc.size
  ·omega
theorem Bi {h : Nat → Ob} {w' : World} {b : Nat} (hi : Inv K S w ρ h) (hc : Chg [] w w') (hb : b = w.heap.size) : Inv K (fun c => S c ∨ c = b) w' ρ h := by
 have h0 := hi.chg0 hc
 refine ⟨h0.chg, fun c hcc => .inl (hi.s0 c hcc), fun c hcc => ?_, hi.ow, hi.pin⟩
 rcases hcc with h1 | h1
 ·exact hi.s1 c h1
 ·have := hi.chg.size; exact .inr (.inr (by omega))
theorem wu {h : Nat → Ob} {t e : TypeId} {ps : List (Nat × Operand)} {vs : List (Nat × V)} {ys : List (Nat × Value)} {d : TD} {k : Nat} {ty : TypeId} {els : List V} (hT : TabOk P T) (hr : HRel S w ρ h) (hi : Inv K S w ρ h) (fr : Fr a n (fA a)) (hps : eC (fA a) ps = some ys) (hpr : PRel S w ρ vs ys)
  {x1 x2 : Nat} {x3 : V} (ht : T.ty t = some ⟨x1, x2, x3, .sl e⟩) (he : T.ty e = some d) (hp : jr d.size 0 vs = some els) (hb : (Nat.beq els.length k && Nat.ble (k * d.size) 16777216 && Nat.ble k 16777216 && pureL els) = true) :
  ∃ x S' w', Runs P a ty (.buildSlice t k ps.toArray) w (.value x) w' ∧ HRel S' w' ρ h ∧ Inv K S' w' ρ h ∧ Up S S' w w' ρ ρ ∧ Chg [] w w' ∧ VRel S' w' ρ (.row d.size els) x := by
 simp only [Bool.and_eq_true, Nat.beq_eq] at hb
 obtain ⟨⟨⟨hl, hsm⟩, hm⟩, hpu⟩ := hb
 have hmm : k ≤ 16777216 := Nat.le_of_ble_eq_true hm
 obtain ⟨z, hz1, hz2⟩ := (hT.ty _ _ he).zeroT
 obtain ⟨h1, h2, h3⟩ := oE hpr hp
 have hidx : ps.map (·.1) = List.range k := by
  have : ps.map (·.1) = ys.map (·.1) := by rw [← fr.parts hps]; simp
  rw [this, h1, hl, List.range_eq_range']
 obtain ⟨w', b, g1, g2, g3, g4, g5⟩ := tP (P := P) (t := t) (m := k) fr hps ((hT.ty _ _ ht).sl rfl) (hT.ty _ _ he).size hz1 hidx h2 hsm rfl w ty
 have hlen := h3.length
 refine ⟨_, fun c => S c ∨ c = b, w', g1, AC hr g3 g4 g5, Bi hi g3 g4, tL g3, g3, ?_⟩
 simp only [VRel]
 refine ⟨some ⟨b, 0, none⟩, k, _, by rw [hl], by omega, by simp only [maxLen]; omega, (h3.up (tL g3)).pure hpu, hlen, fun _ => ⟨b, 0, rfl, .inr rfl, g5, fun j hj => by rw [Nat.zero_add, g2.cell]⟩⟩
def om (T : Tab) (all : Array Oper) (i : Nat) (vs : List (Nat × V)) : Option (Oper × List (Nat × Operand) × V) := match all[i]? with
 |some ⟨dst, .buildSlice t k ⟨ps⟩, ty, pp, af, none⟩ => match T.ty t with
  |some ⟨_, _, _, .sl e⟩ => match T.ty e with
   |some d => match jr d.size 0 vs with
    |some els => match Nat.beq els.length k && Nat.ble (k * d.size) 16777216 && Nat.ble k 16777216 && pureL els with
     | true => fu d.size fun sz => some (⟨dst, .buildSlice t k ⟨ps⟩, ty, pp, af, none⟩, ps, .row sz els)
     | false => none
    | none => none
   | none => none
  | _ => none
 | _ => none
variable {ps : List (Nat × Operand)} {vs : List (Nat × V)} {v : V}
theorem tZ (hT : TabOk P T) (hp : om T all i vs = some (o, ps, v)) (hr : HRel S w ρ H.get) (hiv : Inv K S w ρ H.get) (hF : FRel S w ρ a n F) {ys : List (Nat × Value)} (hps : eC (fA a) ps = some ys) (hpr : PRel S w ρ vs ys) (hs : Region.noSelect all = true)
  (hl : (cG H.get L || (listed.setIfInBounds i true).getD m false) = true)
  (D : ∀ S w ρ a, HRel S w ρ H.get → Inv K S w ρ H.get → FRel S w ρ a n (F.seto o.dst (some v)) → wpB P all (NoPanic (dF P Q s)) (Agree S w) (Ls ρ L w) m left (listed.setIfInBounds i true) a w) :
  wpOp P all (NoPanic (dF P Q s)) i (fun a' w' => Agree S w w' ∧ (Ls ρ L w w' ∨ (listed.setIfInBounds i true).getD m false = true) ∧ wpB P all (NoPanic (dF P Q s)) (Agree S w) (Ls ρ L w) m left (listed.setIfInBounds i true) a' w') a w := by
 unfold om at hp
 split at hp
 ·rename_i dst t k ps' ty pp af hi
  split at hp
  ·rename_i e ht
   split at hp
   ·rename_i d he
    split at hp
    ·rename_i els hrp
     split at hp
     ·rename_i hb
      rw [dg] at hp
      simp only [Option.some.injEq, Prod.mk.injEq] at hp
      obtain ⟨rfl, rfl, rfl⟩ := hp
      obtain ⟨x, S', w', g1, g2, g3, g4, g5, g6⟩ := wu (ty := ty) hT hr hiv hF.fr hps hpr ht he hrp hb
      unfold wpOp
      simp only [hi]
      rw [if_pos (cM hF (o := ⟨dst, .buildSlice t k ⟨ps'⟩, ty, pp, af, none⟩) rfl)]
      refine .inl ?_
      have hk := D S' w' ρ _ g2 g3 (dr (hF.up g4) dst g6)
      unfold Oper.wp
      rw [g1 dst pp af none]
      refine lj g4 (fun b hb => g5.block b (hr.slt b hb) (by simp)) ((qQ hl).imp (fun hl id hid x b hx hb => ?_) id) hk
      exact g5.block b (fd (hr.ob id) (lh hr hl id hid x b hx hb)) (by simp)
     ·cases hp
    ·cases hp
   ·cases hp
  ·cases hp
 ·cases hp
theorem DA (hT : TabOk P T) (hp : om T all i vs = some (o, ps, v)) (hrd : Region.ready .any all listed = [i]) (hl : (cG H.get L || (listed.setIfInBounds i true).getD m false) = true)
  (kk : Go P K Q (.drw all L m left (listed.setIfInBounds i true)) s n (F.seto o.dst (some v)) H) : GoP P K Q all L m left listed s n F H i o ps vs v := fun S w ρ a hr hiv hs => by
 refine ⟨fun hF ⟨ys, hps, hpr⟩ => lT (S := S) hrd (tZ hT hp hr hiv hF hps hpr hs hl fun S w ρ a hr hiv hF => kk S w ρ a hr hiv hF hs), fun hF => kk S w ρ a hr hiv hF hs⟩
theorem wZ {j : Nat} {B Sx : World → Prop} {Q' : Exit → Act → World → Prop} (hrd : (match Region.ready .any all listed with | [x, y] => (Nat.beq x i && Nat.beq y j) || (Nat.beq x j && Nat.beq y i) | _ => false) = true)
  (h1 : wpOp P all Q' i (fun a' w' => B w' ∧ (Sx w' ∨ (listed.setIfInBounds i true).getD m false = true) ∧ wpB P all Q' B Sx m left (listed.setIfInBounds i true) a' w') a w)
  (h2 : wpOp P all Q' j (fun a' w' => B w' ∧ (Sx w' ∨ (listed.setIfInBounds j true).getD m false = true) ∧ wpB P all Q' B Sx m left (listed.setIfInBounds j true) a' w') a w) : wpB P all Q' B Sx m (left + 1) listed a w := by
 split at hrd
 ·rename_i x y hr
  refine ⟨fun h0 => (by rw [hr] at h0; cases h0), fun c hc => ?_⟩
  rw [hr] at hc
  simp only [Bool.or_eq_true, Bool.and_eq_true, Nat.beq_eq] at hrd
  simp only [List.mem_cons, List.not_mem_nil, or_false] at hc
  rcases hrd with ⟨rfl, rfl⟩ | ⟨rfl, rfl⟩
  ·rcases hc with rfl | rfl
   ·exact h1
   ·exact h2
  ·rcases hc with rfl | rfl
   ·exact h2
   ·exact h1
 ·cases hrd
theorem Bl (hT : TabOk P T) (hp : om T all i vs = some (o, ps, v)) {j : Nat} {oj : Oper} (hj : all[j]? = some oj) (hrd : (match Region.ready .any all listed with | [x, y] => (Nat.beq x i && Nat.beq y j) || (Nat.beq x j && Nat.beq y i) | _ => false) = true) (hrd1 : Region.ready .any all (listed.setIfInBounds i true) = [j])
  (hl : (cG H.get L || (listed.setIfInBounds i true).getD m false) = true) (hd : ∀ t, o.dst = some t → F.get t = none) (hne : uE o.dst oj.dst = true) (hpn : oR oj.dst ps = true) (hcomm : (listed.setIfInBounds i true).setIfInBounds j true = (listed.setIfInBounds j true).setIfInBounds i true)
  {Post : V → Hp → Prop}
  (hx : ∀ S w ρ a, HRel S w ρ H.get → Inv K S w ρ H.get → FRel S w ρ a n F → ∀ (K2 : Act → World → Prop), (∀ x S' w' ρ' u H', Post u H' → HRel S' w' ρ' H'.get → Inv K S' w' ρ' H'.get → Up S S' w w' ρ ρ' → Agree S w w' → (Ls ρ L w w' ∨ ((listed.setIfInBounds j true).getD m false = true ∧ ((listed.setIfInBounds j true).setIfInBounds i true).getD m false = true)) → VRel S' w' ρ' u x → K2 (a.put oj.dst x) w') → wpOp P all (NoPanic (dF P Q s)) j K2 a w)
  (kk : ∀ u H', Post u H' → GoP P K Q all L m left (listed.setIfInBounds j true) s n (F.seto oj.dst (some u)) H' i o ps vs v) : GoP P K Q all L m (left + 1) listed s n F H i o ps vs v := fun S w ρ a hr hiv hs => by
 have D : ∀ S w ρ a, HRel S w ρ H.get → Inv K S w ρ H.get → FRel S w ρ a n (F.seto o.dst (some v)) → wpB P all (NoPanic (dF P Q s)) (Agree S w) (Ls ρ L w) m (left + 1) (listed.setIfInBounds i true) a w := fun S w ρ a hr hiv hF => by
  refine lT (S := S) hrd1 ?_
  refine hx S w ρ a hr hiv (AG hd hF) _ fun x S' w' ρ' u H' hP hr' hi' hu hA hL hv => ?_
  rw [hcomm]
  refine lj hu hA (hL.imp id (·.2)) ((kk u H' hP S' w' ρ' _ hr' hi' hs).2 ?_)
  rw [← AN hne]
  exact dr (hF.up hu) oj.dst hv
 refine ⟨fun hF ⟨ys, hps, hpr⟩ => ?_, D S w ρ a hr hiv⟩
 refine wZ hrd (tZ hT hp hr hiv hF hps hpr hs hl D) ?_
 refine hx S w ρ a hr hiv hF _ fun x S' w' ρ' u H' hP hr' hi' hu hA hL hv => ?_
 refine lj hu hA (hL.imp id (·.1)) ((kk u H' hP S' w' ρ' _ hr' hi' hs).1 (dr (hF.up hu) oj.dst hv) ⟨ys, ?_, hpr.up hu⟩)
 rw [zL hpn]; exact hps
end
section
variable {P : Program} {T : Tab} {K : Ctx} {Q : Exit → Act → World → Prop} {s : List EI} {n : Nat} {F : Fm} {H : Hp}
def mR (P : Program) (K : Ctx) (o : Oper) (L : List Nat) (ok : Bool) (n : Nat) (F : Fm) (H : Hp) (u : V) (H' : Hp) : Prop :=
  ∀ S w ρ a, HRel S w ρ H.get → Inv K S w ρ H.get → FRel S w ρ a n F → ∀ (Q' : Exit → Act → World → Prop) (K2 : Act → World → Prop),
    (∀ x S' w' ρ', HRel S' w' ρ' H'.get → Inv K S' w' ρ' H'.get → Up S S' w w' ρ ρ' → Agree S w w' → (Ls ρ L w w' ∨ ok = true) → VRel S' w' ρ' u x → K2 (a.put o.dst x) w') → o.wp P a w K2 Q'
theorem AI (hT : TabOk P T) {o : Oper} {L : List Nat} {ok : Bool} {v : V} (hv : lE T H.get F o.op = some v) : mR P K o L ok n F H v H := fun S w ρ a hr hi hF Q' K2 k => by
 obtain ⟨x, h1, h2⟩ := pL (ty := o.type) hT hr hF hv
 have := k x S w ρ hr hi Up.refl Agree.refl (.inl mb) h1
 obtain ⟨d, op, ty, ps, af, g⟩ := o
 unfold Oper.wp
 rw [h2 w Agree.refl d ps af g]
 exact this
theorem nr (hT : TabOk P T) {o : Oper} {L : List Nat} {ok : Bool} {v : Option V} {ed : ED} (hv : kP T H.get F H.nx o.op = some (v, ed)) (hc : ((cG H.get L && ed.clear L) || ok) = true) : mR P K o L ok n F H (v.getD (.tup [])) (H.app ed) := fun S w ρ a hr hi hF Q' K2 k => by
 obtain ⟨nx, w', ρ', h1, h2, h3⟩ := rc (ty := o.type) hT hr hF H.get_free hv
 have hr' := h2.hr
 have hi' := hi.eff h2
 rw [← Hp.get_app (od hv)] at hr' hi'
 have hLs : Ls ρ L w w' ∨ ok = true := (qQ hc).imp (fun h => by
  simp only [Bool.and_eq_true] at h
  exact vB hr h2 h.1 h.2) id
 have kk := fun x hx => k x S w' ρ' hr' hi' h2.up (nu hr h2) hLs hx
 obtain ⟨d, op, ty, ps, af, g⟩ := o
 unfold Oper.wp
 rw [h1 d ps af g]
 cases v with
 | none =>
  subst h3
  exact kk undef pE
 | some v =>
  obtain ⟨x, rfl, h4⟩ := h3
  exact kk x h4
theorem my {o : Oper} {L : List Nat} {ok : Bool} {fid : FuncId} {args : List Operand} {tys : Array TypeId} {vs : List V} {u : V} {H' : Hp} {L' : List Nat} (he : cF P fid = true) (ho : o.op = .call { callee := .value (.func fid), args := args.toArray, argTypes := tys }) (hv : jb F args = some vs) (hC : CallR P K fid vs H L' (fun u' H'' => u' = u ∧ H'' = H')) (hL : L' = L ∨ ok = true) : mR P K o L ok n F H u H' := fun S w ρ a hr hi hF Q' K2 k => by
 obtain ⟨xs, h1, h2⟩ := pe hF hv
 have hcl := hC S w ρ xs hr hi h2
 obtain ⟨d, op, ty, ps, af, g⟩ := o
 simp only at ho
 subst ho
 have hx : (execOp a.eval ⟨d, .call { callee := .value (.func fid), args := args.toArray, argTypes := tys }, ty, ps, af, g⟩).run P w = .ok (.enter fid xs.toArray) w := by
  have e : args.toArray.map a.eval = xs.toArray := by rw [← hF.fr.vals h1]; simp
  simp only [execOp, resolve, e]
  simp [Act.eval, Deferred.ofValue, invoke, ly he]
 unfold Oper.wp
 rw [hx, Oper.upon_enter]
 refine hcl.mono fun e w1 hR => ?_
 obtain ⟨x, S', ρ', v, H'', rfl, ⟨rfl, rfl⟩, hr', hi', hu, hvr, hls⟩ := hR
 exact k x S' w1 ρ' hr' hi' hu (fun b hb => hu.blk b hb (hr.slt b hb)) (hL.imp (fun e => by subst e; exact hls) id) hvr
theorem nC {all : Array Oper} {L : List Nat} {m left i j : Nat} {listed : Array Bool} {oi oj : Oper} {ui uj : V} {Hi Hj : Hp} (hrd : (match Region.ready .any all listed with | [x, y] => (Nat.beq x i && Nat.beq y j) || (Nat.beq x j && Nat.beq y i) | _ => false) = true) (hi : all[i]? = some oi) (hj : all[j]? = some oj) (hwi : bA F all oi.guard = some true) (hwj : bA F all oj.guard = some true)
  (xi : mR P K oi L ((listed.setIfInBounds i true).getD m false) n F H ui Hi) (xj : mR P K oj L ((listed.setIfInBounds j true).getD m false) n F H uj Hj)
  (ki : Go P K Q (.drw all L m left (listed.setIfInBounds i true)) s n (F.seto oi.dst (some ui)) Hi) (kj : Go P K Q (.drw all L m left (listed.setIfInBounds j true)) s n (F.seto oj.dst (some uj)) Hj) : Go P K Q (.drw all L m (left + 1) listed) s n F H := fun S w ρ a hr hiv hF hs => by
 refine wZ hrd ?_ ?_
 ·unfold wpOp
  simp only [hi]
  rw [if_pos (cM hF hwi)]
  exact .inl (xi S w ρ a hr hiv hF _ _ fun x S' w' ρ' hr' hi' hu hA hL hv => lj hu hA hL (ki S' w' ρ' _ hr' hi' (dr (hF.up hu) oi.dst hv) hs))
 ·unfold wpOp
  simp only [hj]
  rw [if_pos (cM hF hwj)]
  exact .inl (xj S w ρ a hr hiv hF _ _ fun x S' w' ρ' hr' hi' hu hA hL hv => lj hu hA hL (kj S' w' ρ' _ hr' hi' (dr (hF.up hu) oj.dst hv) hs))
end
end Go.Proofs.YtpnpdlnpikkeaaaGreat
namespace Go.Proofs.YtpnpdlnpikkeaaaGreat
open Go.RowKit
def atN : List Nat → Nat → Option Nat
 | [], _ => none
 | x :: _, 0 => some x
 | _ :: r, i + 1 => atN r i
theorem lJ : ∀ (l : List Nat) (i : Nat), atN l i = l[i]?
 | [], i => by simp [atN]
 | x :: r, 0 => by simp [atN]
 | x :: r, i + 1 => by simp [atN, lJ r i]
abbrev xW : V := .raw (.agg #[])
mutual
def V.ren (σ : List Nat) : V → V
 |.ptr id o => match atN σ id with
  | some j => .ptr j o
  | none => xW
 |.el id sz i o => match atN σ id with
  | some j => .el j sz i o
  | none => xW
 |.sl id => match atN σ id with
  | some j => .sl j
  | none => xW
 | .agg cs => .agg (renL σ cs)
 | .tup cs => .tup (renL σ cs)
 | .clo fid cs => .clo fid (renL σ cs)
 | .int k n => .int k n
 | .bool b => .bool b
 | .str l => .str l
 | .nilp => .nilp
 | .nils => .nils
 | .raw x => .raw x
 | .box cs o => .box cs o
 | .row sz els => .row sz els
 | .lk els => .lk els
def renL (σ : List Nat) : List V → List V
 | [] => []
 | v :: r => v.ren σ :: renL σ r
end
def Ob.ren (σ : List Nat) : Ob → Ob
 | .var t cs => .var t (renL σ cs)
 | .row e sz els => .row e sz (renL σ els)
 | o => o
def eX (σ : List Nat) (ρ : Nat → Option Value) : Nat → Option Value := fun j => match atN σ j with
 | some i => ρ i
 | none => none
section
variable {S : Nat → Prop} {w : World} {ρ : Nat → Option Value} {σ : List Nat}
theorem vQ {x : Value} (h : VRel S w ρ xW x) : False := by simp only [VRel, Value.oneCell'] at h; exact absurd h.2 (by simp)
mutual
theorem VRel.ren : ∀ {v : V} {x : Value}, VRel S w ρ (v.ren σ) x → VRel S w (eX σ ρ) v x
 | .int _ _, x, h => by simp only [V.ren, VRel] at h ⊢; exact h
 | .bool _, x, h => by simp only [V.ren, VRel] at h ⊢; exact h
 | .str _, x, h => by simp only [V.ren, VRel] at h ⊢; exact h
 | .nilp, x, h => by simp only [V.ren, VRel] at h ⊢; exact h
 | .nils, x, h => by simp only [V.ren, VRel] at h ⊢; exact h
 | .raw _, x, h => by simp only [V.ren, VRel] at h ⊢; exact h
 | .box _ _, x, h => by simp only [V.ren, VRel] at h ⊢; exact h
 | .row _ _, x, h => by simp only [V.ren, VRel] at h ⊢; exact h
 | .lk _, x, h => by simp only [V.ren, VRel] at h ⊢; exact h
 | .ptr id o, x, h => by
  simp only [V.ren] at h
  split at h
  ·rename_i j hj
   simp only [VRel] at h ⊢
   obtain ⟨b, h1, h2⟩ := h
   exact ⟨b, by simp only [eX, hj]; exact h1, h2⟩
  ·exact (vQ h).elim
 | .el id sz i o, x, h => by
  simp only [V.ren] at h
  split at h
  ·rename_i j hj
   simp only [VRel] at h ⊢
   obtain ⟨b, n, c, h1, h2⟩ := h
   exact ⟨b, n, c, by simp only [eX, hj]; exact h1, h2⟩
  ·exact (vQ h).elim
 | .sl id, x, h => by
  simp only [V.ren] at h
  split at h
  ·rename_i j hj
   simp only [VRel] at h ⊢
   exact ⟨by simp only [eX, hj]; exact h.1, h.2⟩
  ·exact (vQ h).elim
 | .agg cs, x, h => by
  simp only [V.ren, VRel] at h ⊢
  obtain ⟨xs, h1, h2⟩ := h
  exact ⟨xs, h1, LRel.ren h2⟩
 | .tup cs, x, h => by
  simp only [V.ren, VRel] at h ⊢
  obtain ⟨xs, h1, h2⟩ := h
  exact ⟨xs, h1, LRel.ren h2⟩
 | .clo fid cs, x, h => by
  simp only [V.ren, VRel] at h ⊢
  obtain ⟨xs, h1, h2⟩ := h
  exact ⟨xs, h1, LRel.ren h2⟩
theorem LRel.ren : ∀ {v : List V} {x : List Value}, LRel S w ρ (renL σ v) x → LRel S w (eX σ ρ) v x
 | [], x, h => by simp only [renL, LRel] at h ⊢; exact h
 | v :: r, x, h => by
  simp only [renL, LRel] at h ⊢
  obtain ⟨y, ys, h1, h2, h3⟩ := h
  exact ⟨y, ys, h1, VRel.ren h2, LRel.ren h3⟩
end
theorem sm : ∀ (l : List V), (renL σ l).length = l.length
 | [] => by simp [renL]
 | v :: r => by simp [renL, sm r]
theorem CRel.ren {sz : Nat} : ∀ {v : List V} {x : List Value}, CRel S w ρ sz (renL σ v) x → CRel S w (eX σ ρ) sz v x
 | [], x, h => by simp only [renL, CRel] at h ⊢; exact h
 | v :: r, x, h => by
  simp only [renL, CRel] at h ⊢
  obtain ⟨y, ys, h1, h2, h3, h4⟩ := h
  exact ⟨y, ys, h1, h2, VRel.ren h3, CRel.ren h4⟩
mutual
theorem VRel.bwd {ρ' : Nat → Option Value} (hσ : ∀ j x, ρ j = some x → ∃ i, atN σ j = some i ∧ ρ' i = some x) : ∀ {v : V} {x : Value}, VRel S w ρ v x → VRel S w ρ' (v.ren σ) x
 | .int _ _, x, h => by simp only [V.ren, VRel] at h ⊢; exact h
 | .bool _, x, h => by simp only [V.ren, VRel] at h ⊢; exact h
 | .str _, x, h => by simp only [V.ren, VRel] at h ⊢; exact h
 | .nilp, x, h => by simp only [V.ren, VRel] at h ⊢; exact h
 | .nils, x, h => by simp only [V.ren, VRel] at h ⊢; exact h
 | .raw _, x, h => by simp only [V.ren, VRel] at h ⊢; exact h
 | .box _ _, x, h => by simp only [V.ren, VRel] at h ⊢; exact h
 | .row _ _, x, h => by simp only [V.ren, VRel] at h ⊢; exact h
 | .lk _, x, h => by simp only [V.ren, VRel] at h ⊢; exact h
 | .ptr id o, x, h => by
  simp only [VRel] at h
  obtain ⟨b, h1, h2⟩ := h
  obtain ⟨i, h3, h4⟩ := hσ _ _ h1
  simp only [V.ren, h3, VRel]
  exact ⟨b, h4, h2⟩
 | .el id sz i o, x, h => by
  simp only [VRel] at h
  obtain ⟨b, n, c, h1, h2⟩ := h
  obtain ⟨i', h3, h4⟩ := hσ _ _ h1
  simp only [V.ren, h3, VRel]
  exact ⟨b, n, c, h4, h2⟩
 | .sl id, x, h => by
  simp only [VRel] at h
  obtain ⟨i, h3, h4⟩ := hσ _ _ h.1
  simp only [V.ren, h3, VRel]
  exact ⟨h4, h.2⟩
 | .agg cs, x, h => by
  simp only [V.ren, VRel] at h ⊢
  obtain ⟨xs, h1, h2⟩ := h
  exact ⟨xs, h1, LRel.bwd hσ h2⟩
 | .tup cs, x, h => by
  simp only [V.ren, VRel] at h ⊢
  obtain ⟨xs, h1, h2⟩ := h
  exact ⟨xs, h1, LRel.bwd hσ h2⟩
 | .clo fid cs, x, h => by
  simp only [V.ren, VRel] at h ⊢
  obtain ⟨xs, h1, h2⟩ := h
  exact ⟨xs, h1, LRel.bwd hσ h2⟩
theorem LRel.bwd {ρ' : Nat → Option Value} (hσ : ∀ j x, ρ j = some x → ∃ i, atN σ j = some i ∧ ρ' i = some x) : ∀ {v : List V} {x : List Value}, LRel S w ρ v x → LRel S w ρ' (renL σ v) x
 | [], x, h => by simp only [renL, LRel] at h ⊢; exact h
 | v :: r, x, h => by
  simp only [renL, LRel] at h ⊢
  obtain ⟨y, ys, h1, h2, h3⟩ := h
  exact ⟨y, ys, h1, VRel.bwd hσ h2, LRel.bwd hσ h3⟩
end
theorem CRel.bwd {ρ' : Nat → Option Value} (hσ : ∀ j x, ρ j = some x → ∃ i, atN σ j = some i ∧ ρ' i = some x) {sz : Nat} : ∀ {v : List V} {x : List Value}, CRel S w ρ sz v x → CRel S w ρ' sz (renL σ v) x
 | [], x, h => by simp only [renL, CRel] at h ⊢; exact h
 | v :: r, x, h => by
  simp only [renL, CRel] at h ⊢
  obtain ⟨y, ys, h1, h2, h3, h4⟩ := h
  exact ⟨y, ys, h1, h2, VRel.bwd hσ h3, CRel.bwd hσ h4⟩
end
def aA (v u : V) : Prop := ∀ S w ρ x, VRel S w ρ v x → VRel S w ρ u x
theorem aA.rfl {v : V} : aA v v := fun _ _ _ _ h => h
theorem aA.of_eq {v u : V} (h : v = u) : aA v u := h ▸ aA.rfl
theorem aA.nil (sz : Nat) : aA .nils (.row sz []) := fun S w ρ x h => by
 simp only [VRel] at h ⊢
 subst h
 exact ⟨none, 0, [], by simp, Nat.le_refl _, by decide, by simp [CRel], RowIn.none_⟩
def aD : List V → List V → Prop
 | [], us => us = []
 | v :: r, us => ∃ u q, us = u :: q ∧ aA v u ∧ aD r q
theorem aD.rel {S : Nat → Prop} {w : World} {ρ : Nat → Option Value} : ∀ {vs us : List V} {xs : List Value}, aD vs us → LRel S w ρ vs xs → LRel S w ρ us xs
 | [], us, xs, h, hl => by simp only [aD] at h; subst h; exact hl
 | v :: r, us, xs, h, hl => by
  simp only [aD] at h
  obtain ⟨u, q, rfl, h1, h2⟩ := h
  simp only [LRel] at hl ⊢
  obtain ⟨y, ys, rfl, h3, h4⟩ := hl
  exact ⟨y, ys, rfl, h1 _ _ _ _ h3, aD.rel h2 h4⟩
theorem aD.rfl : ∀ {vs : List V}, aD vs vs
 | [] => by simp [aD]
 | v :: r => ⟨v, r, by rfl, aA.rfl, aD.rfl⟩
theorem aA.agg {vs us : List V} (h : aD vs us) : aA (.agg vs) (.agg us) := fun S w ρ x hx => by
 simp only [VRel] at hx ⊢
 obtain ⟨xs, h1, h2⟩ := hx
 exact ⟨xs, h1, h.rel h2⟩
theorem aD.cons {v u : V} {r q : List V} (h : aA v u) (k : aD r q) : aD (v :: r) (u :: q) := ⟨u, q, by rfl, h, k⟩
theorem aD.nil : aD [] [] := by simp [aD]
def fS : Ob → Ob → Prop
 | _, .gone => True
 | .var t cs, .var t' cs' => t = t' ∧ aD cs cs'
 | .row e sz els, .row e' sz' els' => e = e' ∧ sz = sz' ∧ els = els'
 | .mp k e ks vs, .mp k' e' ks' vs' => k = k' ∧ e = e' ∧ ks = ks' ∧ vs = vs'
 | _, _ => False
def leF (σ : List Nat) : Fm → Fm → Prop
 | _, [] => True
 | [], none :: r' => leF σ [] r'
 | [], some _ :: _ => False
 | x :: r, none :: r' => leF σ r r'
 | x :: r, some u :: r' => (∃ v, x = some v ∧ aA v (u.ren σ)) ∧ leF σ r r'
def leH (σ : List Nat) (H : Hp) : List (Nat × Ob) → Prop
 | [] => True
 | (j, o) :: r => (∃ i, atN σ j = some i ∧ fS (H.get i) (o.ren σ)) ∧ leH σ H r
def dH : List Nat → Bool
 | [] => true
 | i :: r => !r.contains i && dH r
section
variable {P : Program} {T : Tab} {K : Ctx} {Q : Exit → Act → World → Prop} {s : List EI} {n : Nat} {F F' : Fm} {H H' : Hp} {σ : List Nat} {S : Nat → Prop} {w : World} {ρ : Nat → Option Value} {a : Act}
theorem qV : ∀ {F F' : Fm}, leF σ F F' → ∀ i u, F'.get i = some u → ∃ v, F.get i = some v ∧ aA v (u.ren σ)
 | F, [], h, i, u, hu => by simp [Fm.get] at hu
 | [], none :: r', h, 0, u, hu => by simp [Fm.get] at hu
 | [], none :: r', h, i + 1, u, hu => by
  obtain ⟨v, h1, _⟩ := qV (F := []) (F' := r') (by simpa [leF] using h) i u (by simpa [Fm.get] using hu)
  simp [Fm.get] at h1
 | [], some _ :: _, h, i, u, hu => by simp [leF] at h
 | x :: r, none :: r', h, 0, u, hu => by simp [Fm.get] at hu
 | x :: r, none :: r', h, i + 1, u, hu => by
  have := qV (F := r) (F' := r') (by simpa [leF] using h) i u (by simpa [Fm.get] using hu)
  simpa [Fm.get] using this
 | x :: r, some u' :: r', h, 0, u, hu => by
  simp only [leF] at h
  simp only [Fm.get, Option.some.injEq] at hu
  subst hu
  obtain ⟨v, h1, h2⟩ := h.1
  exact ⟨v, by simp [Fm.get, h1], h2⟩
 | x :: r, some u' :: r', h, i + 1, u, hu => by
  simp only [leF] at h
  have := qV h.2 i u (by simpa [Fm.get] using hu)
  simpa [Fm.get] using this
theorem BY (h : leF σ F F') (hl : F'.length ≤ n) (hF : FRel S w ρ a n F) : FRel S w (eX σ ρ) a n F' :=
 ⟨hF.size, hF.defers, hl, fun i u hu => by
  obtain ⟨v, h1, h2⟩ := qV h i u hu
  obtain ⟨x, h3, h4⟩ := hF.get i v h1
  exact ⟨x, h3, (h2 _ _ _ _ h4).ren⟩⟩
theorem rW : ∀ {l : List (Nat × Ob)}, leH σ H l → ∀ j, an l j = .gone ∨ ∃ i, atN σ j = some i ∧ fS (H.get i) ((an l j).ren σ)
 | [], _, j => .inl rfl
 | (k, o) :: r, h, j => by
  simp only [leH] at h
  simp only [an]
  split
  ·rename_i hb
   have := Nat.eq_of_beq_eq_true hb
   subst this
   exact .inr h.1
  ·exact rW h.2 j
theorem nM : ∀ {l : List Nat}, dH l = true → ∀ i j x, atN l i = some x → atN l j = some x → i = j
 | [], _, i, j, x, hi, hj => by simp [atN] at hi
 | y :: r, h, 0, 0, x, hi, hj => rfl
 | y :: r, h, 0, j + 1, x, hi, hj => by
  simp only [dH, Bool.and_eq_true, Bool.not_eq_true'] at h
  simp only [atN, Option.some.injEq] at hi hj
  subst hi
  rw [lJ] at hj
  have := List.mem_of_getElem? hj
  simp [this] at h
 | y :: r, h, i + 1, 0, x, hi, hj => by
  simp only [dH, Bool.and_eq_true, Bool.not_eq_true'] at h
  simp only [atN, Option.some.injEq] at hi hj
  subst hj
  rw [lJ] at hi
  have := List.mem_of_getElem? hi
  simp [this] at h
 | y :: r, h, i + 1, j + 1, x, hi, hj => by
  simp only [dH, Bool.and_eq_true] at h
  have := nM h.2 i j x (by simpa [atN] using hi) (by simpa [atN] using hj)
  omega
theorem BZ {i j : Nat} {o o' : Ob} (hij : atN σ j = some i) (h : fS o (o'.ren σ)) (ho' : o' ≠ .gone) (hr : gW S w ρ i o) : gW S w (eX σ ρ) j o' ∧ ∀ b, own (eX σ ρ) j o' b → own ρ i o b := by
 have hρ : eX σ ρ j = ρ i := by simp only [eX, hij]
 cases o' with
 | gone => exact absurd rfl ho'
 | free => cases o <;> simp [Ob.ren, fS] at h
 | ext bs Φ => cases o <;> simp [Ob.ren, fS] at h
 | mp kt' et' ks' vs' =>
  cases o <;> simp only [Ob.ren, fS] at h
  rename_i kt et ks vs
  obtain ⟨rfl, rfl, rfl, rfl⟩ := h
  obtain ⟨b, es, ck, h1, h2, h3, h4⟩ := hr
  exact ⟨⟨b, es, ck, by rw [hρ]; exact h1, h2, h3, h4⟩, fun c hc => by simp only [own] at hc ⊢; rw [hρ] at hc; exact hc⟩
 | var t' cs' =>
  cases o <;> simp only [Ob.ren, fS] at h
  rename_i t cs
  obtain ⟨rfl, h⟩ := h
  obtain ⟨b, xs, h1, h2, h3⟩ := hr
  exact ⟨⟨b, xs, by rw [hρ]; exact h1, h2, (h.rel h3).ren⟩, fun c hc => by simp only [own] at hc ⊢; rw [hρ] at hc; exact hc⟩
 | row e' sz' els' =>
  cases o <;> simp only [Ob.ren, fS] at h
  rename_i e sz els
  obtain ⟨rfl, rfl, rfl⟩ := h
  obtain ⟨v, xs, h1, h2, h3⟩ := hr
  rw [sm] at h2
  exact ⟨⟨v, xs, by rw [hρ]; exact h1, h2, h3.ren⟩, fun c hc => by
   obtain ⟨q, e1, e2⟩ := hc
   exact ⟨q, by rw [← hρ]; exact e1, e2⟩⟩
def aB (K : Ctx) (pv : List Nat) : Prop := ∀ id x, K.pin id = some x → id ∈ pv
def yX (σ pv : List Nat) : Bool := pv.all fun i => match atN σ i with | some j => Nat.beq i j | none => false
theorem vw (hH : leH σ H H'.es) (hn : dH σ = true) (hlen : Nat.ble σ.length H'.nx = true) (hr : HRel S w ρ H.get) : HRel S w (eX σ ρ) H'.get ∧ ∀ j b, own (eX σ ρ) j (H'.get j) b → ∃ i, atN σ j = some i ∧ own ρ i (H.get i) b := by
 have key : ∀ j, gW S w (eX σ ρ) j (H'.get j) ∧ ∀ b, own (eX σ ρ) j (H'.get j) b → ∃ i, atN σ j = some i ∧ own ρ i (H.get i) b := fun j => by
  unfold Hp.get
  split
  ·rcases rW hH j with e | ⟨i, h1, h2⟩
   ·rw [e]; exact ⟨trivial, fun b hb => hb.elim⟩
   ·by_cases hg : an H'.es j = .gone
    ·rw [hg]; exact ⟨trivial, fun b hb => hb.elim⟩
    ·obtain ⟨h3, h4⟩ := BZ h1 h2 hg (hr.ob i)
     exact ⟨h3, fun b hb => ⟨i, h1, h4 b hb⟩⟩
  ·rename_i hlt
   refine ⟨?_, fun b hb => hb.elim⟩
   show eX σ ρ j = none
   have hj : ¬ j < H'.nx := fun h => by rw [nlT h] at hlt; cases hlt
   have hl : σ.length ≤ H'.nx := Nat.le_of_ble_eq_true hlen
   simp only [eX, lJ]
   rw [List.getElem?_eq_none (by omega)]
 refine ⟨⟨fun j => (key j).1, fun j b hb => ?_, fun i j b hbi hbj => ?_, hr.slt⟩, fun j => (key j).2⟩
 ·obtain ⟨i, _, h⟩ := (key j).2 b hb
  exact hr.sep i b h
 ·obtain ⟨i', h1, h2⟩ := (key i).2 b hbi
  obtain ⟨j', h3, h4⟩ := (key j).2 b hbj
  have := hr.dis i' j' b h2 h4
  subst this
  exact nM hn i j i' h1 h3
def EP.still : EP → Bool
 | .drw .. => false
 | _ => true
theorem go_sub {p : EP} (σ pv : List Nat) (hp : p.still = true) (hpin : aB K pv) (hF : leF σ F F') (hH : leH σ H H'.es) (hc : (dH σ && Nat.ble σ.length H'.nx && yX σ pv && Nat.ble F'.length n) = true) (k : Go P K Q p s n F' H') : Go P K Q p s n F H := fun S w ρ a hr hi hf => by
 simp only [Bool.and_eq_true] at hc
 obtain ⟨⟨⟨h1, h2⟩, h3⟩, h4⟩ := hc
 obtain ⟨g1, g2⟩ := vw hH h1 h2 hr
 have hi' : Inv K S w (eX σ ρ) H'.get := ⟨hi.chg, hi.s0, hi.s1, fun j b hb => by obtain ⟨i, _, h⟩ := g2 j b hb; exact hi.ow i b h, fun id x hx => by
  have hm := List.all_eq_true.1 h3 id (hpin id x hx)
  simp only [eX]
  split at hm
  ·rename_i j hj
   have := Nat.eq_of_beq_eq_true hm
   subst this
   first | exact hi.pin id x hx | (rw [hj]; exact hi.pin id x hx)
  ·cases hm⟩
 have := k S w (eX σ ρ) a g1 hi' (BY hF (Nat.le_of_ble_eq_true h4) hf)
 cases p with
 | drw => cases hp
 | code c => exact this
 | ops all rest => exact this
 | ex e => exact this
def SP (K : Ctx) (Post : V → Hp → Prop) (e : Ending) (w' : World) : Prop :=
 ∃ x S' ρ' v H', e = .returned x ∧ Post v H' ∧ HRel S' w' ρ' H'.get ∧ Inv K S' w' ρ' H'.get ∧ VRel S' w' ρ' v x
def jc (PL : List Nat) (i : Nat) : Ob → Bool
 | .var _ _ => true
 | .ext _ _ => true
 | .mp _ _ _ _ => true
 | .row _ _ _ => PL.contains i
 | _ => false
def rY (PL : List Nat) (h : Nat → Ob) (ρ : Nat → Option Value) : Nat → Option Value := fun i => match jc PL i (h i) with
 | true => ρ i
 | false => none
def fE (PL : List Nat) (P : Program) (fid : FuncId) (vs : List V) (H0 : Hp) (Post : V → Hp → Prop) : Prop :=
 ∀ S w ρ xs, HRel S w ρ H0.get → LRel S w ρ vs xs → Calls P fid xs.toArray w (SP ⟨w, S, fun b => ∃ id, own ρ id (H0.get id) b, rY PL H0.get ρ⟩ Post)
abbrev Sum (P : Program) (fid : FuncId) (vs : List V) (H0 : Hp) (Post : V → Hp → Prop) : Prop := fE [] P fid vs H0 Post
theorem am {PL : List Nat} {fid : FuncId} {fn : Func} {c : Code} {vs : List V} {H0 : Hp} {Post : V → Hp → Prop} (N : Nat) (pv : List Nat) (hf : P.funcs[fid]? = some fn) (hb : fn.body = some c) (hN : fn.ntmps = N) (hl : Nat.ble vs.length N = true) (hpv : ∀ i, jc PL i (H0.get i) = true → i ∈ pv)
  (k : ∀ K, aB K pv → Go P K (bodyPost P fn (SP K Post)) (.code c) [] N (kL N vs) H0) : fE PL P fid vs H0 Post := fun S w ρ xs hr hx => by
 subst hN
 have hi : Inv ⟨w, S, fun b => ∃ id, own ρ id (H0.get id) b, rY PL H0.get ρ⟩ S w ρ H0.get := ⟨ChgP.refl _ _, fun _ h => h, fun _ h => .inl h, fun id b hb => .inl ⟨id, hb⟩, fun id x h => by
  simp only [rY] at h
  split at h
  ·exact h
  ·cases h⟩
 refine ss hf hb hl hr hi hx (k _ fun id x h => hpv id ?_)
 simp only [rY] at h
 split at h
 ·assumption
 ·cases h
theorem go_end (hT : TabOk P T) {fn : Func} {Post : V → Hp → Prop} {rs : List ResultVar} {vs : List V} {e : Exit} (hrs : fn.results = rs.toArray) (hv : pB T H.get F rs = some vs) (hP : Post (me vs) H) (he : e = .ret ∨ e = .normal := by first | exact .inl rfl | exact .inr rfl) : Go P K (bodyPost P fn (SP K Post)) (.ex e) [] n F H := fun S w ρ a hr hi hF =>
 ret_go hT he hrs hr hF hv fun x hx => ⟨x, S, ρ, _, H, rfl, hP, hr, hi, hx⟩
theorem Sum.mono {PL : List Nat} {fid : FuncId} {vs : List V} {H0 : Hp} {Post Post' : V → Hp → Prop} (h : fE PL P fid vs H0 Post) (hp : ∀ v H, Post v H → Post' v H) : fE PL P fid vs H0 Post' := fun S w ρ xs hr hx => (h S w ρ xs hr hx).mono fun e w' ⟨x, S', ρ', v, H', h1, h2, h3⟩ => ⟨x, S', ρ', v, H', h1, hp v H' h2, h3⟩
theorem Sum.sub {PL : List Nat} {fid : FuncId} {vs us : List V} {H0 : Hp} {Post : V → Hp → Prop} (h : fE PL P fid us H0 Post) (hs : aD vs us) : fE PL P fid vs H0 Post := fun S w ρ xs hr hx => h S w ρ xs hr (hs.rel hx)
end
end Go.Proofs.YtpnpdlnpikkeaaaGreat
namespace Go.Proofs.YtpnpdlnpikkeaaaGreat
open Go.RowKit
def jl : List Nat → Nat → Option Nat
 | [], _ => none
 |x :: r, i => match Nat.beq x i with
  | true => some 0
  |false => match jl r i with
   | some j => some (j + 1)
   | none => none
theorem gd : ∀ {l : List Nat} {i j : Nat}, jl l i = some j → atN l j = some i
 | [], i, j, h => by cases h
 | x :: r, i, j, h => by
  simp only [jl] at h
  split at h
  ·rename_i hb
   have := Nat.eq_of_beq_eq_true hb
   injection h with h; subst h; subst this; rfl
  ·split at h
   ·rename_i j' hj
    injection h with h; subst h
    simpa [atN] using gd hj
   ·cases h
theorem uv : ∀ {l : List Nat} {i : Nat}, jl l i = none → ∀ j, atN l j ≠ some i
 | [], i, h, j => by simp [atN]
 | x :: r, i, h, 0 => by
  simp only [jl] at h
  split at h
  ·cases h
  ·rename_i hb
   simp only [atN, ne_eq, Option.some.injEq]
   exact Nat.ne_of_beq_eq_false hb
 | x :: r, i, h, j + 1 => by
  simp only [jl] at h
  split at h
  ·cases h
  ·split at h
   ·cases h
   ·rename_i hn
    simpa [atN] using uv hn j
theorem Du {l : List Nat} (hn : dH l = true) {i j : Nat} (h : atN l j = some i) : jl l i = some j := by
 cases hi : jl l i with
 | none => exact absurd h (uv hi j)
 | some k => rw [nM hn k j i (gd hi) h]
def sgN (PL : List Nat) (nx : Nat) (h0 : Nat → Ob) : Nat → List Nat → Nat → List Nat
 | 0, _, _ => []
 |m + 1, σ, j => match σ with
  | [] => (nx + j) :: sgN PL nx h0 m [] (j + 1)
  | i :: r => (match jc PL j (h0 j) with | true => i | false => nx + j) :: sgN PL nx h0 m r (j + 1)
theorem tA (PL : List Nat) (nx : Nat) (h0 : Nat → Ob) : ∀ (m : Nat) (σ : List Nat) (j : Nat), (sgN PL nx h0 m σ j).length = m
 | 0, _, _ => rfl
 | m + 1, [], j => by simp [sgN, tA PL nx h0 m]
 | m + 1, i :: r, j => by simp [sgN, tA PL nx h0 m]
theorem vh (PL : List Nat) (nx : Nat) (h0 : Nat → Ob) : ∀ (m : Nat) (σ : List Nat) (j k : Nat), k < m → atN (sgN PL nx h0 m σ j) k = some (match atN σ k, jc PL (j + k) (h0 (j + k)) with | some i, true => i | _, _ => nx + (j + k))
 | 0, _, _, k, h => by omega
 | m + 1, [], j, 0, h => by simp [sgN, atN]
 | m + 1, [], j, k + 1, h => by
  have := vh PL nx h0 m [] (j + 1) k (by omega)
  simp only [sgN, atN] at this ⊢
  rw [this]
  simp only [show j + 1 + k = j + (k + 1) by omega]
 | m + 1, i :: r, j, 0, h => by
  simp only [sgN, atN, Nat.add_zero]
  cases jc PL j (h0 j) <;> rfl
 | m + 1, i :: r, j, k + 1, h => by
  have := vh PL nx h0 m r (j + 1) k (by omega)
  simp only [sgN, atN] at this ⊢
  rw [this]
  simp only [show j + 1 + k = j + (k + 1) by omega]
def qz (σ : List Nat) : List (Nat × Ob) → List (Nat × Ob)
 | [] => []
 |(j, o) :: r => match atN σ j with
  | some i => (i, o.ren σ) :: qz σ r
  | none => qz σ r
def nD (σ : List Nat) (nx : Nat) : List (Nat × Ob) → List (Nat × Ob)
 | [] => []
 |(j, o) :: r => match !σ.contains j && Nat.blt j nx with
  |true => match o with
   | .free => (j, .gone) :: nD σ nx r
   | o => (j, o) :: nD σ nx r
  | false => nD σ nx r
def lX (PL : List Nat) (H : Hp) (σ : List Nat) (H0 H' : Hp) : Hp := ⟨H.nx + H'.nx, qz (sgN PL H.nx H0.get H'.nx σ 0) H'.es ++ nD σ H.nx H.es⟩
theorem uq {σ : List Nat} (hn : dH σ = true) {i : Nat} : ∀ {l : List (Nat × Ob)}, an (qz σ l) i = match jl σ i with | some j => (an l j).ren σ | none => .gone
 | [] => by simp only [qz, an]; cases jl σ i <;> rfl
 | (k, o) :: r => by
  have ih := uq hn (i := i) (l := r)
  simp only [qz]
  split
  ·rename_i i' hi'
   simp only [an]
   by_cases e : i' = i
   ·subst e
    rw [nbT, Du hn hi']
    simp only [nbT]
   ·rw [nbF e, ih]
    cases hj : jl σ i with
    | none => rfl
    | some j =>
     have hne : k ≠ j := fun e' => by subst e'; rw [gd hj] at hi'; injection hi' with h; exact e h.symm
     simp only [nbF hne]
  ·rename_i hk
   rw [ih]
   cases hj : jl σ i with
   | none => rfl
   | some j =>
    have hne : k ≠ j := fun e' => by subst e'; rw [gd hj] at hk; cases hk
    simp only [an, nbF hne]
theorem uu {σ : List Nat} {nx i : Nat} : ∀ {l : List (Nat × Ob)}, an (nD σ nx l) i = .gone ∨ (an (nD σ nx l) i = an l i ∧ σ.contains i = false ∧ i < nx ∧ an l i ≠ .free)
 | [] => .inl rfl
 | (k, o) :: r => by
  have ih := uu (σ := σ) (nx := nx) (i := i) (l := r)
  simp only [nD]
  by_cases hk : k = i
  ·subst hk
   cases hc : (!σ.contains k && Nat.blt k nx)
   ·simp only
    -- none of the entries for k is kept
    left
    have key : ∀ (l : List (Nat × Ob)), an (nD σ nx l) k = .gone := by
     intro l
     induction l with
     | nil => rfl
     | cons q t ih =>
      obtain ⟨m, o'⟩ := q
      simp only [nD]
      by_cases hm : m = k
      ·subst hm; rw [hc]; exact ih
      ·cases hc' : (!σ.contains m && Nat.blt m nx)
       ·exact ih
       ·cases o' <;> (simp only [an, nbF hm]; exact ih)
    exact key r
   ·simp only [Bool.and_eq_true, Bool.not_eq_true'] at hc
    have hlt : k < nx := by simpa [Nat.blt_eq] using hc.2
    cases o with
    | free => left; simp only [an, nbT]
    | gone => left; simp only [an, nbT]
    | var t cs => right; simp only [an, nbT]; exact ⟨trivial, hc.1, hlt, by simp⟩
    | row e sz els => right; simp only [an, nbT]; exact ⟨trivial, hc.1, hlt, by simp⟩
    | ext bs Φ => right; simp only [an, nbT]; exact ⟨trivial, hc.1, hlt, by simp⟩
    | mp kt et ks vs => right; simp only [an, nbT]; exact ⟨trivial, hc.1, hlt, by simp⟩
  ·have e2 : an ((k, o) :: r) i = an r i := by simp only [an, nbF hk]
   rw [e2]
   cases hc : (!σ.contains k && Nat.blt k nx)
   ·exact ih
   ·cases o <;> (simp only [an, nbF hk]; exact ih)
theorem qL : ∀ {l : List Nat}, (∀ i j x, atN l i = some x → atN l j = some x → i = j) → dH l = true
 | [], _ => rfl
 | y :: r, h => by
  simp only [dH, Bool.and_eq_true, Bool.not_eq_true']
  refine ⟨?_, qL fun i j x hi hj => by have := h (i + 1) (j + 1) x (by simpa [atN] using hi) (by simpa [atN] using hj); omega⟩
  cases hc : r.contains y
  ·rfl
  ·exfalso
   have hm : y ∈ r := by simpa using hc
   obtain ⟨k, hk, e⟩ := List.getElem_of_mem hm
   have := h 0 (k + 1) y (by simp [atN]) (by simp only [atN, lJ]; rw [List.getElem?_eq_getElem hk, e])
   omega
section
variable {P : Program} {K : Ctx} {H H0 : Hp} {σ : List Nat} {S : Nat → Prop} {w : World}
theorem Eu {ρ ρ' : Nat → Option Value} {i j : Nat} {o : Ob} (hσ : ∀ j x, ρ j = some x → ∃ i, atN σ j = some i ∧ ρ' i = some x) (hj : atN σ j = some i) (hnn : ρ j = none → ρ' i = none ∨ o ≠ .free) (h : gW S w ρ j o) : gW S w ρ' i (o.ren σ) ∧ ∀ b, own ρ' i (o.ren σ) b → own ρ j o b := by
 have hs : ∀ x, ρ j = some x → ρ' i = some x := fun x hx => by
  obtain ⟨i', h1, h2⟩ := hσ j x hx
  rw [hj] at h1; injection h1 with h1; subst h1; exact h2
 cases o with
 | free => exact ⟨(hnn h).resolve_right (by simp), fun b hb => hb⟩
 | gone => exact ⟨trivial, fun b hb => hb⟩
 | ext bs Φ => exact ⟨h, fun b hb => hb⟩
 | mp kt et ks vs =>
  obtain ⟨b, es, ck, h1, h2, h3⟩ := h
  refine ⟨⟨b, es, ck, hs _ h1, h2, h3⟩, fun c hc => ?_⟩
  simp only [Ob.ren, own] at hc ⊢
  rw [hs _ h1] at hc; rw [h1]; exact hc
 | var t cs =>
  obtain ⟨b, xs, h1, h2, h3⟩ := h
  refine ⟨⟨b, xs, hs _ h1, h2, h3.bwd hσ⟩, fun c hc => ?_⟩
  simp only [Ob.ren, own] at hc ⊢
  rw [hs _ h1] at hc; rw [h1]; exact hc
 | row e sz els =>
  obtain ⟨v, xs, h1, h2, h3⟩ := h
  refine ⟨⟨v, xs, hs _ h1, by rw [sm]; exact h2, h3.bwd hσ⟩, fun c hc => ?_⟩
  obtain ⟨q, e1, e2⟩ := hc
  rw [hs _ h1] at e1
  cases e1
  exact ⟨v, h1, e2⟩
theorem ph {PL : List Nat} {fid : FuncId} {vs us : List V} {Post : V → Hp → Prop} (hS : fE PL P fid us H0 Post) (σ : List Nat) (hv : aD vs (renL σ us)) (hH : leH σ H H0.es) (hc : (dH σ && Nat.beq σ.length H0.nx && σ.all fun i => Nat.blt i H.nx) = true) (L : List Nat) (hL : (cG H.get L && L.all fun i => !σ.contains i) = true) :
  CallR P K fid vs H L (fun v' H'' => ∃ v H', Post v H' ∧ v' = v.ren (sgN PL H.nx H0.get H'.nx σ 0) ∧ H'' = lX PL H σ H0 H') := fun S w ρ xs hr hi hx => by
 simp only [Bool.and_eq_true] at hc hL
 obtain ⟨⟨hc1, hc2⟩, hc3⟩ := hc
 have hlen : σ.length = H0.nx := by simpa using hc2
 have hσlt : ∀ j i, atN σ j = some i → i < H.nx := fun j i h => by
  rw [lJ] at h
  have := List.all_eq_true.1 hc3 i (List.mem_of_getElem? h)
  simpa [Nat.blt_eq] using this
 obtain ⟨g1, g2⟩ := vw (H' := H0) hH hc1 (by simp [hlen]) hr
 refine (hS S w (eX σ ρ) xs g1 ((hv.rel hx).ren)).mono fun e w' hR => ?_
 obtain ⟨x, S', ρ1, v, H', rfl, hP, hr', hi', hvr⟩ := hR
 obtain ⟨τ, hτ⟩ : ∃ τ, τ = sgN PL H.nx H0.get H'.nx σ 0 := ⟨_, rfl⟩
 have hτlen : τ.length = H'.nx := by rw [hτ]; exact tA _ _ _ _ _ _
 have hτat : ∀ j, j < H'.nx → atN τ j = some (match atN σ j, jc PL j (H0.get j) with | some i, true => i | _, _ => H.nx + j) := fun j hj => by
  rw [hτ, vh _ _ _ _ _ _ _ hj]; simp only [Nat.zero_add]
 have hτlt : ∀ j i, atN τ j = some i → j < H'.nx := fun j i h => by
  rw [lJ] at h
  have := (List.getElem?_eq_some_iff.1 h).1
  omega
 have hτc : ∀ j i, atN τ j = some i → (atN σ j = some i ∧ jc PL j (H0.get j) = true) ∨ i = H.nx + j := fun j i h => by
  have hj := hτlt j i h
  rw [hτat j hj] at h
  simp only [Option.some.injEq] at h
  cases h1 : atN σ j with
  | none => rw [h1] at h; exact .inr h.symm
  | some i1 =>
   rw [h1] at h
   cases h2 : jc PL j (H0.get j)
   ·rw [h2] at h; exact .inr h.symm
   ·rw [h2] at h; simp only at h; subst h; exact .inl ⟨rfl, rfl⟩
 have hτbd : ∀ j i, atN τ j = some i → i < H.nx + H'.nx := fun j i h => by
  have hj := hτlt j i h
  rcases hτc j i h with ⟨h1, _⟩ | h1
  ·have := hσlt j i h1; omega
  ·omega
 have hτinj : dH τ = true := qL fun j k i h1 h2 => by
  rcases hτc j i h1 with ⟨a1, _⟩ | a1 <;> rcases hτc k i h2 with ⟨a2, _⟩ | a2
  ·exact nM hc1 j k i a1 a2
  ·have := hσlt j i a1; omega
  ·have := hσlt k i a2; omega
  ·omega
 have hfreeρ : ∀ i, H.nx ≤ i → ρ i = none := fun i hi' => by
  have := hr.ob i
  have e : H.get i = .free := by
   unfold Hp.get
   have : Nat.blt i H.nx = false := by cases hb : Nat.blt i H.nx; rfl; simp [Nat.blt_eq] at hb; omega
   rw [this]
  rw [e] at this; exact this
 have hfree1 : ∀ j, H'.nx ≤ j → ρ1 j = none := fun j hj => by
  have := hr'.ob j
  have e : H'.get j = .free := by
   unfold Hp.get
   have : Nat.blt j H'.nx = false := by cases hb : Nat.blt j H'.nx; rfl; simp [Nat.blt_eq] at hb; omega
   rw [this]
  rw [e] at this; exact this
 obtain ⟨ρ2, hρ2⟩ : ∃ ρ2 : Nat → Option Value, ρ2 = fun i => if i < H.nx then ρ i else ρ1 (i - H.nx) := ⟨_, rfl⟩
 have hup : ∀ i y, ρ i = some y → ρ2 i = some y := fun i y h => by
  by_cases hlt : i < H.nx
  ·rw [hρ2]; simp only [hlt, if_true]; exact h
  ·rw [hfreeρ i (by omega)] at h; cases h
 have hpin : ∀ j, jc PL j (H0.get j) = true → ∀ y, eX σ ρ j = some y → ρ1 j = some y := fun j hv y h => hi'.pin j y (by simp only [rY, hv]; exact h)
 have hnoext : ∀ j i, atN σ j = some i → ∀ bs Φ, H0.get j = .ext bs Φ → False := fun j i h1 bs Φ hy' => by
  have hl := rW hH j
  have hlt : j < H0.nx := by
   rw [← hlen]
   rw [lJ] at h1
   exact (List.getElem?_eq_some_iff.1 h1).1
  have e0 : H0.get j = an H0.es j := by unfold Hp.get; rw [nlT hlt]
  rw [← e0, hy'] at hl
  rcases hl with hl | ⟨i', _, hl⟩
  ·cases hl
  ·cases ho : H.get i' <;> rw [ho] at hl <;> simp [Ob.ren, fS] at hl
 have hτρ : ∀ j y, ρ1 j = some y → ∃ i, atN τ j = some i ∧ ρ2 i = some y := fun j y h => by
  have hj : j < H'.nx := by
   rcases Nat.lt_or_ge j H'.nx with h1 | h1
   ·exact h1
   ·rw [hfree1 j h1] at h; cases h
  obtain ⟨i, hji⟩ : ∃ i, atN τ j = some i := ⟨_, hτat j hj⟩
  refine ⟨i, hji, ?_⟩
  rcases hτc j i hji with ⟨h1, h2⟩ | h1
  · -- a variable keeps its place
   have hob := g1.ob j
   have hsome : ∃ y', eX σ ρ j = some y' ∨ ∃ bs Φ, H0.get j = .ext bs Φ := by
    cases ho : H0.get j with
    | var t cs => rw [ho] at hob; obtain ⟨b, _, hb, _⟩ := hob; exact ⟨_, .inl hb⟩
    | row e sz els => rw [ho] at hob; obtain ⟨b, _, hb, _⟩ := hob; exact ⟨_, .inl hb⟩
    | ext bs Φ => exact ⟨.bool true, .inr ⟨bs, Φ, rfl⟩⟩
    | mp kt et ks vs => rw [ho] at hob; obtain ⟨b, _, _, hb, _⟩ := hob; exact ⟨_, .inl hb⟩
    | _ => rw [ho] at h2; cases h2
   obtain ⟨y', hy' | ⟨bs, Φ, hy'⟩⟩ := hsome
   ·have := hpin j h2 y' hy'
    rw [h] at this; injection this with this; subst this
    simp only [eX, h1] at hy'
    exact hup _ _ hy'
   ·exact (hnoext j i h1 bs Φ hy').elim
  ·subst h1
   rw [hρ2]
   simp only [show ¬ H.nx + j < H.nx by omega, if_false, Nat.add_sub_cancel_left]
   exact h
 -- the call's objects under the caller's numbers
 obtain ⟨h1', hh1'⟩ : ∃ h1' : Nat → Ob, h1' = fun i => match jl τ i with | some j => (H'.get j).ren τ | none => if i < H.nx + H'.nx then .gone else .free := ⟨_, rfl⟩
 obtain ⟨h1, hh1⟩ : ∃ h1 : Nat → Ob, h1 = fun i => match σ.contains i with | true => H.get i | false => .gone := ⟨_, rfl⟩
 have hin : ∀ i, h1 i = H.get i ∨ h1 i = .gone := fun i => by rw [hh1]; simp only []; cases σ.contains i <;> simp
 have hkey : ∀ i, gW S' w' ρ2 i (h1' i) ∧ ∀ b, own ρ2 i (h1' i) b → ∃ j, jl τ i = some j ∧ own ρ1 j (H'.get j) b := fun i => by
  rw [hh1']
  simp only []
  cases hj : jl τ i with
  | none =>
   simp only []
   split
   ·exact ⟨trivial, fun b hb => hb.elim⟩
   ·rename_i hlt
    refine ⟨?_, fun b hb => hb.elim⟩
    show ρ2 i = none
    rw [hρ2]
    simp only [show ¬ i < H.nx by omega, if_false]
    exact hfree1 _ (by omega)
  | some j =>
   have hat := gd hj
   obtain ⟨k1, k2⟩ := Eu hτρ hat (fun hn => by
    have hjl := hτlt j i hat
    by_cases hf : H'.get j = .free
    ·left
     rcases hτc j i hat with ⟨a1, a2⟩ | a1
     · -- a variable is not free
      have hob := g1.ob j
      exfalso
      cases ho : H0.get j with
      | var t cs =>
       rw [ho] at hob; obtain ⟨b, _, hb, _⟩ := hob
       have := hpin j a2 _ hb
       rw [hn] at this; cases this
      | row e sz els =>
       rw [ho] at hob; obtain ⟨b, _, hb, _⟩ := hob
       have := hpin j a2 _ hb
       rw [hn] at this; cases this
      | ext bs Φ => exact hnoext j i a1 bs Φ ho
      | mp kt et ks vs =>
       rw [ho] at hob; obtain ⟨b, _, _, hb, _⟩ := hob
       have := hpin j a2 _ hb
       rw [hn] at this; cases this
      | _ => rw [ho] at a2; cases a2
     ·subst a1
      rw [hρ2]
      simp only [show ¬ H.nx + j < H.nx by omega, if_false, Nat.add_sub_cancel_left]
      exact hn
    ·exact .inr hf) (hr'.ob j)
   exact ⟨k1, fun b hb => ⟨j, rfl, k2 b hb⟩⟩
 have hX : ∀ b, (∃ id, own (eX σ ρ) id (H0.get id) b) → ∃ id, own ρ id (h1 id) b := fun b ⟨id, hb⟩ => by
  obtain ⟨i, h2, h3⟩ := g2 id b hb
  refine ⟨i, ?_⟩
  have hm : σ.contains i = true := by
   rw [lJ] at h2
   simpa using List.mem_of_getElem? h2
  rw [hh1]; simp only [hm]; exact h3
 have hrel1 : HRel S' w' ρ2 h1' := ⟨fun i => (hkey i).1, fun i b hb => by obtain ⟨j, _, h⟩ := (hkey i).2 b hb; exact hr'.sep j b h, fun i k b hbi hbk => by
  obtain ⟨j, e1, h1⟩ := (hkey i).2 b hbi
  obtain ⟨j', e2, h2⟩ := (hkey k).2 b hbk
  have := hr'.dis j j' b h1 h2
  subst this
  have a1 := gd e1
  have a2 := gd e2
  rw [a1] at a2; injection a2, hr'.slt⟩
 have hinv1 : Inv ⟨w, S, fun b => ∃ id, own ρ id (h1 id) b, ρ⟩ S' w' ρ2 h1' := ⟨hi'.chg.mono hX, hi'.s0, fun b hb => by
  rcases hi'.s1 b hb with h | h | h
  ·exact .inl h
  ·exact .inr (.inl (hX b h))
  ·exact .inr (.inr h), fun i b hb => by
  obtain ⟨j, _, h⟩ := (hkey i).2 b hb
  rcases hi'.ow j b h with h | h
  ·exact .inl (hX b h)
  ·exact .inr h, fun id y h => hup id y h⟩
 have hh2 : ∀ i, ((lX PL H σ H0 H').get i = h1' i ∨ (lX PL H σ H0 H').get i = .gone) ∨ ((lX PL H σ H0 H').get i = H.get i ∧ h1 i = .gone ∧ H.get i ≠ .free) := fun i => by
  by_cases hlt : i < H.nx + H'.nx
  ·have e0 : (lX PL H σ H0 H').get i = an (qz τ H'.es ++ nD σ H.nx H.es) i := by
    unfold Hp.get lX
    simp only [nlT hlt, hτ]
   rw [e0]
   rcases vY (qz τ H'.es) (nD σ H.nx H.es) i with e | ⟨_, e⟩
   ·rw [e, uq hτinj]
    cases hj : jl τ i with
    | none => exact .inl (.inr rfl)
    | some j =>
     left; left
     rw [hh1']
     simp only [hj]
     have hjl := hτlt j i (gd hj)
     unfold Hp.get
     rw [nlT hjl]
   ·rw [e]
    rcases uu (σ := σ) (nx := H.nx) (i := i) (l := H.es) with e1 | ⟨e1, e2, e3, e4⟩
    ·exact .inl (.inr e1)
    ·right
     have eH : H.get i = an H.es i := by unfold Hp.get; rw [nlT e3]
     refine ⟨by rw [e1, eH], ?_, by rw [eH]; exact e4⟩
     rw [hh1]; simp only [e2]
  ·left; left
   have e0 : (lX PL H σ H0 H').get i = .free := by
    unfold Hp.get lX
    have : Nat.blt i (H.nx + H'.nx) = false := by cases hb : Nat.blt i (H.nx + H'.nx); rfl; simp [Nat.blt_eq] at hb; omega
    simp only [this]
   rw [e0, hh1']
   simp only []
   cases hj : jl τ i with
   | none => simp only [hlt, if_false]
   | some j => have := hτbd j i (gd hj); omega
 obtain ⟨m1, m2, m3, m4⟩ := wg (h2 := (lX PL H σ H0 H').get) hr hi hin hrel1 hinv1 hh2
 refine ⟨x, S', ρ2, _, _, rfl, ⟨v, H', hP, rfl, rfl⟩, m1, m2, m3, by rw [← hτ]; exact hvr.bwd hτρ, m4 L hL.1 fun id hid => ?_⟩
 have := List.all_eq_true.1 hL.2 id hid
 simp only [Bool.not_eq_true'] at this
 rw [hh1]; simp only [this]
end
end Go.Proofs.YtpnpdlnpikkeaaaGreat
