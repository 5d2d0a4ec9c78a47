/- Contracts of the functions that the law reaches, part 7. -/
import Derived.Test.YteglbnopdedadaaGreatPq6
set_option linter.unusedVariables false
set_option linter.unusedSimpArgs false
namespace Go.Proofs.YteglbnopdedadaaGreat
open Go.RowKit Go.Shelf Lx Sx
set_option maxRecDepth 100000
def g8 : Go.Shelf.Ren := ⟨fun | 22 => 53 | 29 => 77 | 30 => 78 | 36 => 107 | 17 => 139 | n => n, fun | 24 => 30 | 9 => 9 | 3 => 3 | 4 => 4 | 0 => 0 | n => n, fun | n => n⟩
theorem yI : Go.Proofs.Lays2.n22 Tryz.prog g8 := {
  mixed := by kernel_rfl
  f17 := Tryz.func139.trans (congrArg some (by kernel_rfl))
  f22 := Tryz.func53.trans (congrArg some (by kernel_rfl))
  f29 := Tryz.func77.trans (congrArg some (by kernel_rfl))
  f30 := Tryz.func78.trans (congrArg some (by kernel_rfl))
  f36 := Tryz.func107.trans (congrArg some (by kernel_rfl))
  t0 := Tryz.underlying0
  a0 := Tryz.isAgg0
  z0 := Tryz.sizeOf0
  v0 := Tryz.zeroValue0
  t3 := Tryz.underlying3
  a3 := Tryz.isAgg3
  z3 := Tryz.sizeOf3
  v3 := Tryz.zeroValue3
  t4 := Tryz.underlying4
  a4 := Tryz.isAgg4
  z4 := Tryz.sizeOf4
  v4 := Tryz.zeroValue4
  t9 := Tryz.underlying9
  a9 := Tryz.isAgg9
  z9 := Tryz.sizeOf9
  v9 := Tryz.zeroValue9
  t24 := Tryz.underlying30
  a24 := Tryz.isAgg30
  z24 := Tryz.sizeOf30
  v24 := Tryz.zeroValue30
  i9 := by kernel_rfl }
theorem gn {b : Nat} {t : TypeId} : ∀ (vs : List Value) (o : Nat) {w : World} {cs : List Value}, Blk w b t cs → o + vs.length ≤ cs.length → Blk (w.setCells b o vs) b t (cs.take o ++ vs ++ cs.drop (o + vs.length))
  | [], o, w, cs, h, _ => by simpa [World.setCells] using h
  | v :: r, o, w, cs, h, hl => by
    simp only [List.length_cons] at hl
    have := gn r (o + 1) (h.set o v) (by simp; omega)
    have e : (cs.set o v).take (o + 1) ++ r ++ (cs.set o v).drop (o + 1 + r.length) = cs.take o ++ (v :: r) ++ cs.drop (o + (v :: r).length) := by
      have h1 : (cs.set o v).take (o + 1) = cs.take o ++ [v] := by
        rw [List.take_add_one, List.take_set_of_le (Nat.le_refl _), List.getElem?_set_self (by omega)]; rfl
      rw [h1, List.drop_set_of_lt (by omega), List.length_cons, show o + 1 + r.length = o + (r.length + 1) by omega]; simp
    rw [e] at this
    exact this
theorem gs {b : Nat} : ∀ (vs : List Value) (o : Nat) (w : World), Chg [b] w (w.setCells b o vs)
  | [], o, w => Chg.refl _ _
  | v :: r, o, w => (Chg.set w b o v).trans (gs r (o + 1) _) fun _ h => .inl h
theorem o5 {w : World} {g n c : Nat} {e : TypeId} {C xs : List Value} (h : Blk w g e C) (hC : C.length = c) (hn : n ≤ c) (hc : c ≤ maxLen) (hx : C.take n = xs) : w.ownsRow 0 e 1 (.slice (some ⟨g, 0, none⟩) n c) n xs := by
  refine ⟨by rw [← hx, List.length_take]; omega, .inr ⟨g, c, C.toArray, rfl, Nat.zero_le _, h, hn, hc, by simp [hC], by simpa using hx⟩⟩
theorem zh {D M : List Value} {i n : Nat} {x : Value} (hi : i < n) (hD : n + 1 ≤ D.length) (hM : M.length = n - i) :
    ((D.take i ++ [x] ++ D.drop (i + 1)).take (i + 1) ++ M ++ (D.take i ++ [x] ++ D.drop (i + 1)).drop (i + 1 + M.length)).take (n + 1) = D.take i ++ x :: M := by
  have h1 : (D.take i ++ [x]).length = i + 1 := by simp; omega
  rw [List.take_append_of_le_length (by simp; omega), List.take_of_length_le (by simp; omega)]
  rw [List.take_append_of_le_length (by omega), List.take_of_length_le (by omega)]
  simp
theorem vQ {C : List Value} {i n : Nat} {x : Value} (hi : i < n) (hC : n + 1 ≤ C.length) :
    (let C1 := C.take (i + 1) ++ (C.take n).drop i ++ C.drop (i + 1 + ((C.take n).drop i).length); C1.take i ++ [x] ++ C1.drop (i + [x].length)).take (n + 1) = (C.take n).take i ++ x :: (C.take n).drop i := by
  have hl : ((C.take n).drop i).length = n - i := by simp; omega
  have h1 : (C.take (i + 1)).length = i + 1 := by simp; omega
  simp only [List.length_singleton]
  rw [List.append_assoc (C.take (i + 1))]
  have h0 : ∀ Y : List Value, (C.take (i + 1) ++ Y).take i = C.take i := fun Y => by rw [List.take_append_of_le_length (by omega), List.take_take, show min i (i + 1) = i by omega]
  rw [h0]
  have h2 : (C.take (i + 1) ++ ((C.take n).drop i ++ C.drop (i + 1 + ((C.take n).drop i).length))).drop (i + 1) = (C.take n).drop i ++ C.drop (i + 1 + ((C.take n).drop i).length) := by
    rw [List.drop_append_of_le_length (by omega), List.drop_of_length_le (by omega)]; rfl
  rw [h2, ← List.append_assoc, List.take_append_of_le_length (by simp; omega), List.take_of_length_le (by simp; omega), List.take_take, show min i n = i by omega]
  simp
theorem zA {C : List Value} {n : Nat} {x : Value} (hC : n + 1 ≤ C.length) : (C.take n ++ [x] ++ C.drop (n + [x].length)).take (n + 1) = C.take n ++ [x] := by
  rw [List.take_append_of_le_length (by simp; omega), List.take_of_length_le (by simp; omega)]
theorem zu (w : World) (v v1 : Value) (l : List (List UInt8)) (i : Nat) (x : List UInt8) (h0 : w.ownsRow 0 9 1 v l.length (l.map bp)) (h1 : w.ownsRow 0 9 1 v1 1 [bp x]) (hd : ∀ b, v.ownBlock = some b → v1.ownBlock ≠ some b) (hi : i ≤ l.length) (hl : l.length ≤ 100000000) :
    Calls Tryz.prog 53 #[v, .int .i64 (i : Int), v1] w fun e w' => ∃ v', e = .returned v' ∧ w'.ownsRow 0 9 1 v' (l.length + 1) ((l.take i ++ x :: l.drop i).map bp) ∧ Chg v.ownBlock.toList w w' ∧ (v'.ownBlock = v.ownBlock ∨ v'.ownBlock = some w.heap.size) := by
  have L := yI
  obtain ⟨_, hv1⟩ := h1
  rcases hv1 with ⟨_, hz⟩ | ⟨g1, c1, cur1, rfl, _, hg1, hn1, hc1, hs1, ht1⟩
  · cases hz
  have hcell1 : ∀ j u, [bp x][j]? = some u → w.cell? ⟨g1, 0 + j, none⟩ = some u := fun j u hj => by
    have : cur1.toList[j]? = some u := by
      have hj1 : j < 1 := by have := (List.getElem?_eq_some_iff.1 hj).1; simpa using this
      rw [← ht1, List.getElem?_take, if_pos (by omega)] at hj; exact hj
    rw [Nat.zero_add]
    simpa [World.cell?, hg1] using this
  have one1 : ∀ u ∈ [bp x], u.oneCell' = true := by simp [bp, Value.oneCell']
  have oneL : ∀ m : List (List UInt8), ∀ u ∈ m.map bp, u.oneCell' = true := fun m u hu => by
    obtain ⟨s, _, rfl⟩ := List.mem_map.1 hu; rfl
  have grow : ∀ (base : Option Addr) (c : Nat), l.length ≤ c → c < l.length + 1 → (base = none → l.length = 0) → (∀ a, base = some a → ∀ j u, (l.map bp)[j]? = some u → w.cell? (a.add j) = some u) → i = l.length →
      Calls Tryz.prog 53 #[.slice base l.length c, .int .i64 (i : Int), .slice (some ⟨g1, 0, none⟩) 1 c1] w fun e w' => ∃ v', e = .returned v' ∧ w'.ownsRow 0 9 1 v' (l.length + 1) ((l.take i ++ x :: l.drop i).map bp) ∧ Chg [] w w' ∧ v'.ownBlock = some w.heap.size := fun base c hc1 hc2 hb hcs hie => by
    subst hie
    refine (Any2.slices_Insert_string_end_grow L base l.length c g1 0 1 c1 (l.map bp) [bp x] w (by omega) hc1 hc2 (by omega) (by simp) (by simp) hb hcs hcell1 one1).mono ?_
    rintro e w' ⟨rfl, rfl⟩
    have hcap := grownCap_ge w (l.length + 1) c (g8.t 9)
    have hcm := grownCap_le_maxLen w (l.length + 1) c (g8.t 9) (by simp only [maxLen]; omega)
    refine ⟨_, rfl, ?_, (Chg.drew w).trans (Chg.alloc _ _) (by simp), rfl⟩
    refine o5 (C := (l.map bp ++ [bp x]) ++ (Builtin.zeroCells (Value.string ⟨#[]⟩).cells (grownCap w (l.length + 1) c (g8.t 9) - (l.length + 1))).toList) ?_ ?_ hcap hcm ?_
    · have := Blk.new w.drew 9 ((l.map bp ++ [bp x]) ++ (Builtin.zeroCells (Value.string ⟨#[]⟩).cells (grownCap w (l.length + 1) c (g8.t 9) - (l.length + 1))).toList)
      have e : ((l.map bp ++ [bp x]).toArray ++ Builtin.zeroCells (Value.string ⟨#[]⟩).cells (grownCap w (l.length + 1) c (g8.t 9) - (l.length + 1))) = ((l.map bp ++ [bp x]) ++ (Builtin.zeroCells (Value.string ⟨#[]⟩).cells (grownCap w (l.length + 1) c (g8.t 9) - (l.length + 1))).toList).toArray := by
        apply Array.ext'; simp
      rw [e]; exact this
    · have hz : (Builtin.zeroCells (Value.string ⟨#[]⟩).cells (grownCap w (l.length + 1) c (g8.t 9) - (l.length + 1))).toList.length = (grownCap w (l.length + 1) c (g8.t 9) - (l.length + 1)) * 1 := size_zeroCells _ _
      rw [List.length_append, hz]; simp; omega
    · rw [List.take_append_of_le_length (by simp), List.take_of_length_le (by simp)]
      simp
  obtain ⟨_, hv0⟩ := h0
  rcases hv0 with ⟨rfl, hz⟩ | ⟨g, c, cur, rfl, _, hg, hn, hc, hs, ht⟩
  · rw [Nat.mul_one] at *
    have hl0 : l = [] := List.length_eq_zero_iff.1 hz
    subst hl0
    refine (grow none 0 (by simp) (by simp) (fun _ => rfl) (fun a h => by cases h) (by simpa using hi)).mono ?_
    rintro e w' ⟨v', h2, h3, h4, h5⟩
    exact ⟨v', h2, h3, h4, .inr h5⟩
  · rw [Nat.mul_one] at *
    have hgg : g1 ≠ g := fun e => hd g rfl (by rw [e]; rfl)
    obtain ⟨C, rfl⟩ : ∃ C : List Value, cur = C.toArray := ⟨cur.toList, rfl⟩
    simp only [List.size_toArray] at hs ht
    have hB : Blk w g 9 C := hg
    have hcs : ∀ j u, (l.map bp)[j]? = some u → w.cell? ⟨g, 0 + j, none⟩ = some u := fun j u hj => by
      rw [Nat.zero_add, hB.cell j]
      rw [← ht, List.getElem?_take] at hj
      split at hj
      · exact hj
      · cases hj
    have hlt : l.length ≤ C.length := by omega
    by_cases hroom : l.length + 1 ≤ c
    · by_cases hin : i < l.length
      · refine (Any2.slices_Insert_string_shift L g 0 l.length c i g1 0 1 c1 (l.map bp) [bp x] w hin (by omega) hroom (by simp only [maxLen] at hc; omega) hgg (by simp) (by simp) hcs (fun j hj => by rw [Nat.zero_add, hB.cell j, List.getElem?_eq_getElem (by omega)]; rfl) (fun j hj => hB.frozen _) hcell1 (oneL l) one1 9 9 cur1.size C.length (by simp [World.shape?, hg1]) (by simp [World.shape?, hg]) (by omega) (by simp [World.frozen?, hg1]) (by simp [World.frozen?, hg1])).mono ?_
        rintro e w' ⟨rfl, rfl⟩
        refine ⟨_, rfl, ?_, (Chg.drew w |>.mono (by simp)).trans ((gs _ _ _).trans (gs _ _ _) fun _ h => .inl h) (fun b hb => .inl (by simp at hb; subst hb; simp [Value.ownBlock])), .inl rfl⟩
        have hB0 : Blk w.drew g 9 C := hB
        simp only [Nat.zero_add]
        have hB1 := gn ((l.map bp).drop i) (i + 1) hB0 (by simp; omega)
        have hB2 := gn [bp x] i hB1 (by simp; omega)
        have hi' : i < l.length := hin
        refine o5 hB2 (by simp; omega) hroom hc ?_
        rw [← ht]
        have := vQ (C := C) (i := i) (n := l.length) (x := bp x) hin (by omega)
        simp only at this
        rw [this, ht]; simp
      · have hie : i = l.length := by omega
        subst hie
        refine (Any2.slices_Insert_string_end_room L g 0 l.length c g1 0 1 c1 [bp x] w (by omega) hroom (by simp only [maxLen] at hc; omega) (by simp) (fun j hj => by rw [hB.cell, List.getElem?_eq_getElem (by omega)]; rfl) (fun j hj => hB.frozen _) hcell1 one1).mono ?_
        rintro e w' ⟨rfl, rfl⟩
        refine ⟨_, rfl, ?_, (gs _ _ _).mono (fun b hb => by simp at hb; subst hb; simp [Value.ownBlock]), .inl rfl⟩
        simp only [Nat.zero_add]
        have hB1 := gn [bp x] l.length hB (by simp; omega)
        refine o5 hB1 (by simp; omega) hroom hc ?_
        rw [zA (by omega), ht]; simp
    · by_cases hin : i < l.length
      · refine (Any2.slices_Insert_string_grow L g 0 l.length c i g1 0 1 c1 (l.map bp) [bp x] w hin (by omega) hn (by omega) (by omega) (by simp) (by simp) hcs hcell1 (oneL l) one1).mono ?_
        rintro e w' ⟨rfl, rfl⟩
        have hcap := grownCap_ge w (l.length + 1) c (g8.t 9)
        have hcm := grownCap_le_maxLen w (l.length + 1) c (g8.t 9) (by simp only [maxLen]; omega)
        obtain ⟨cap, hce⟩ : ∃ cap, cap = grownCap w (l.length + 1) c (g8.t 9) := ⟨_, rfl⟩
        rw [← hce] at hcap hcm ⊢
        obtain ⟨D, hD⟩ : ∃ D : List Value, D = (l.map bp).take i ++ ((Builtin.zeroCells (Value.string ⟨#[]⟩).cells (l.length + 1 - i)).toList ++ (Builtin.zeroCells (Value.string ⟨#[]⟩).cells (cap - (l.length + 1))).toList) := ⟨_, rfl⟩
        have h1c : (Value.string ⟨#[]⟩).cells.size = 1 := rfl
        have hz : ∀ k, (Builtin.zeroCells (Value.string ⟨#[]⟩).cells k).toList.length = k * 1 := fun k => size_zeroCells _ _
        have hDl : D.length = cap := by rw [hD, List.length_append, List.length_append, hz, hz]; simp; omega
        have hDt : D.take i = (l.map bp).take i := by rw [hD, List.take_append_of_le_length (by simp; omega), List.take_take]; simp
        have hB0 : Blk (w.alloc (.cells D.toArray 9)).drew w.heap.size 9 D := Blk.new w _ D
        have e : ((((l.map bp).take i).toArray ++ Builtin.zeroCells (Value.string ⟨#[]⟩).cells (l.length + 1 - i)) ++ Builtin.zeroCells (Value.string ⟨#[]⟩).cells (cap - (l.length + 1))) = D.toArray := by
          rw [hD]; apply Array.ext'; simp
        rw [e]
        have hB1 := gn [bp x] i hB0 (by simp; omega)
        have hB2 := gn ((l.map bp).drop i) (i + 1) (show Blk (World.drew ((w.alloc (.cells D.toArray 9)).drew.setCells w.heap.size i [bp x])) w.heap.size 9 _ from hB1) (by simp; omega)
        refine ⟨_, rfl, ?_, ?_, .inr rfl⟩
        · refine o5 hB2 (by simp; omega) hcap hcm ?_
          have := zh (D := D) (M := (l.map bp).drop i) (i := i) (n := l.length) (x := bp x) hin (by omega) (by simp)
          rw [List.length_singleton, this, hDt]; simp
        · have a1 : Chg [] w (w.alloc (.cells D.toArray 9)).drew := (Chg.alloc w _).trans (Chg.drew _) (by simp)
          have a2 := gs (b := w.heap.size) [bp x] i (w.alloc (.cells D.toArray 9)).drew
          have a3 := gs (b := w.heap.size) ((l.map bp).drop i) (i + 1) (World.drew ((w.alloc (.cells D.toArray 9)).drew.setCells w.heap.size i [bp x]))
          refine (Chg.mono ?_ (X := []) (by simp))
          refine a1.trans (Y := [w.heap.size]) (a2.trans (((Chg.drew _).mono (Y := [w.heap.size]) (by simp)).trans a3 fun _ h => .inl h) fun _ h => .inl h) fun b hb => .inr (by simp at hb; omega)
      · refine (grow (some ⟨g, 0, none⟩) c hn (by omega) (fun h => by cases h) (fun a ha j u hj => by cases ha; rw [jJ]; exact hcs j u hj) (by omega)).mono ?_
        rintro e w' ⟨v', h2, h3, h4, h5⟩
        exact ⟨v', h2, h3, h4.mono (by simp), .inr h5⟩
theorem lr {S : Nat → Prop} {w : World} {ρ : Nat → Option Value} : ∀ {l : List (List UInt8)} {xs : List Value}, CRel S w ρ 1 (l.map V.str) xs ↔ xs = l.map bp
  | [], xs => by simp [CRel]
  | s :: r, xs => by
    simp only [List.map_cons, CRel]
    constructor
    · rintro ⟨y, ys, rfl, _, h2, h3⟩
      simp only [VRel] at h2; subst h2
      rw [lr.1 h3]; rfl
    · rintro rfl
      exact ⟨bp s, r.map bp, rfl, ⟨rfl, rfl⟩, by simp only [VRel, bp], lr.2 rfl⟩
theorem xm (l : List (List UInt8)) (x : List UInt8) (i : Nat) (hi : i ≤ l.length) (hl : l.length ≤ 100000000) : mr l (i : Int) [x] (l.take i ++ x :: l.drop i) := fun S w ρ xs hr hx => by
  simp only [LRel, VRel] at hx
  obtain ⟨v, ys, rfl, ⟨k1, k2⟩, u, zs, rfl, rfl, v1, ts, rfl, ⟨q1, q2⟩, rfl⟩ := hx
  have o0 : (⟨2, [(1, .row 9 1 (List.map V.str [x])), (0, .row 9 1 (List.map V.str l))]⟩ : Hp).get 0 = .row 9 1 (List.map V.str l) := rfl
  have o1 : (⟨2, [(1, .row 9 1 (List.map V.str [x])), (0, .row 9 1 (List.map V.str l))]⟩ : Hp).get 1 = .row 9 1 (List.map V.str [x]) := rfl
  obtain ⟨a, as', e1, e2, e3⟩ := gf hr o0
  rw [k1] at e1; cases e1
  obtain ⟨b, bs, f1, f2, f3⟩ := gf hr o1
  rw [q1] at f1; cases f1
  rw [lr.1 e3, List.length_map] at e2
  rw [lr.1 f3] at f2
  have hdis : ∀ c, v.ownBlock = some c → v1.ownBlock ≠ some c := fun c h1 h2 => by
    have := hr.dis 0 1 c (by rw [o0]; exact ⟨v, k1, h1⟩) (by rw [o1]; exact ⟨v1, q1, h2⟩)
    cases this
  refine (zu w v v1 l i x e2 f2 hdis hi hl).mono fun e w' hR => ?_
  obtain ⟨v', rfl, g2, g3, g4⟩ := hR
  obtain ⟨H, hH⟩ : ∃ H : Hp, H = ⟨2, [(1, .row 9 1 (List.map V.str [x])), (0, .row 9 1 (List.map V.str l))]⟩ := ⟨_, rfl⟩
  rw [← hH] at hr o0 o1 ⊢
  have hf : H.get 2 = .free := by rw [hH]; rfl
  have hX : ∀ b, b ∈ v.ownBlock.toList → own ρ 0 (H.get 0) b := fun b hb => by simp at hb; rw [o0]; exact ⟨v, k1, hb⟩
  have he := p9 (x := v') (o := .row 9 1 ((l.take i ++ x :: l.drop i).map V.str)) hr hf (by rw [o0]; simp) g3 hX ⟨v', _, ba _ _ _, by rw [List.length_map, show (l.take i ++ x :: l.drop i).length = l.length + 1 by simp; omega]; exact g2, lr.2 rfl⟩ (fun b hb => by
    obtain ⟨q, e1, e2⟩ := hb
    rw [ba] at e1
    cases e1
    rcases g4 with g4 | g4
    · exact .inl (by rw [o0]; exact ⟨v, k1, by rw [← g4]; exact e2⟩)
    · rw [g4] at e2; simp at e2; exact .inr (by omega))
  have hget : co (co H.get 0 .gone) 2 (.row 9 1 ((l.take i ++ x :: l.drop i).map V.str)) = (⟨3, [(2, .row 9 1 (List.map V.str (l.take i ++ x :: l.drop i))), (1, .row 9 1 (List.map V.str [x]))]⟩ : Hp).get := by
    funext j
    match j with
    | 0 => rfl
    | 1 => rw [hH]; rfl
    | 2 => rfl
    | n + 3 => rw [hH]; rfl
  rw [hget] at he
  have hi : Inv ⟨w, S, fun b => ∃ id, own ρ id (H.get id) b, nw [1] H.get ρ⟩ S w ρ H.get := ⟨ChgP.refl _ _, fun _ h => h, fun _ h => .inl h, fun id b hb => .inl ⟨id, hb⟩, fun id x h => by
    simp only [nw] at h
    split at h
    · exact h
    · cases h⟩
  exact ⟨v', S, dx ρ 2 v', _, _, rfl, ⟨rfl, rfl⟩, he.hr, hi.eff he, by simp only [VRel]; exact ⟨ba _ _ _, qH g2⟩⟩
end Go.Proofs.YteglbnopdedadaaGreat
namespace Go.Proofs.YteglbnopdedadaaGreat
open Go.RowKit Lx Sx
set_option maxRecDepth 100000
theorem ur (p : List UInt8) : (p != p) = false := by simp
theorem z8 (p q : List UInt8) : nW p q (Op.bytesLess p q) := by
  refine tQ 0 _ _ _ ⟨_, st 0 _ _ rfl, fun h => ?_, fun h => rfl⟩
  rw [ur] at h; cases h
theorem qE (l : List Nm) (w : Nm) (ha : asc l) (hl : l.length ≤ 1000000000) : gk l w (cz w l : Nat) (decide (l[cz w l]? = some w)) := by
  have fin : ∀ m i j, ¬ i < j → i ≤ cz w l → cz w l ≤ j → cq (m + 1) l w i j (cz w l : Nat) (decide (l[cz w l]? = some w)) := fun m i j hij h1 h2 => by
    have e : i = cz w l := by omega
    subst e
    refine iU m _ _ _ _ _ _ ⟨fun h => absurd h hij, fun _ => ⟨fun h => ?_, fun h => ?_⟩⟩
    · obtain ⟨x, hx, _⟩ | h' := aE l (cz w l)
      · refine ⟨x, hx, fun he => ⟨rfl, by rw [hx, he]; simp⟩, fun he => ⟨x, hx, _, qv 0 _ _ rfl, fun hb => ?_, fun _ => ⟨rfl, by rw [hx]; simp [he]⟩⟩⟩
        rw [ur] at hb; cases hb
      · exact absurd h h'
    · refine ⟨rfl, ?_⟩
      rw [List.getElem?_eq_none (by omega)]; simp
  have hp := pb w l
  have loop : ∀ k i j, j - i ≤ k → i ≤ cz w l → cz w l ≤ j → j ≤ l.length → cq (k + 1) l w i j (cz w l : Nat) (decide (l[cz w l]? = some w)) := fun k => by
    induction k with
    | zero => intro i j h0 h1 h2 h3; exact fin 0 i j (by omega) h1 h2
    | succ k ih =>
      intro i j h0 h1 h2 h3
      by_cases hij : i < j
      · obtain ⟨x, hx, _⟩ | h' := aE l ((i + j) / 2)
        · have hlt := m8 (w := w) ha hx
          refine iU (k + 1) _ _ _ _ _ _ ⟨fun _ => ⟨by omega, by omega, by omega, x, hx, _, z8 x w, fun hb => ⟨by omega, ?_⟩, fun hb => ?_⟩, fun h => absurd hij h⟩
          · have := hlt.1 hb
            exact ih _ _ (by omega) (by omega) h2 h3
          · have : ¬ (i + j) / 2 < cz w l := fun h => by rw [hlt.2 h] at hb; cases hb
            exact ih _ _ (by omega) h1 (by omega) (by omega)
        · omega
      · exact fin _ i j hij h1 h2
  exact mE (l.length + 1) _ _ _ _ (loop l.length 0 l.length (by omega) (by omega) hp (Nat.le_refl _))
theorem Bm (l : List Nm) (w : Nm) (ha : asc l) (hl : l.length ≤ 100000000) : i4 l w (fy w l) := by
  have hp := pb w l
  have l2 : ∀ m, l[cz w l]? ≠ some w → fC (m + 1) l w (cz w l) (fy w l) := fun m hne => by
    refine oq m _ _ _ _ ⟨hp, by simp; omega, by simp; omega, hp, by simp; omega, ?_⟩
    rw [lO, if_neg hne]; simp
  have l1 : ∀ m, fK (m + 2) l w (cz w l) (fy w l) := fun m => by
    refine ol (m + 1) _ _ _ _ ⟨fun h => ?_, fun h => l2 m ?_⟩
    · obtain ⟨x, hx, _⟩ | h' := aE l (cz w l)
      · refine ⟨x, hx, fun he => ?_, fun he => l2 m ?_⟩
        · rw [lO, if_pos (by rw [hx, he])]
        · rw [hx]; simpa using he
      · exact absurd h h'
    · rw [List.getElem?_eq_none (by omega)]; simp
  have l0 : ∀ k i, cz w l - i ≤ k → i ≤ cz w l → fS (k + 3) l w i (fy w l) := fun k => by
    induction k with
    | zero =>
      intro i h0 h1
      have e : i = cz w l := by omega
      subst e
      refine ib 2 _ _ _ _ ⟨fun h => ?_, fun h => l1 0⟩
      obtain ⟨x, hx, _⟩ | h' := aE l (cz w l)
      · exact ⟨x, hx, fun hb => absurd ((m8 ha hx).1 hb) (by omega), fun hb => l1 0⟩
      · exact absurd h h'
    | succ k ih =>
      intro i h0 h1
      by_cases he : i = cz w l
      · subst he
        refine ib (k + 3) _ _ _ _ ⟨fun h => ?_, fun h => l1 (k + 1)⟩
        obtain ⟨x, hx, _⟩ | h' := aE l (cz w l)
        · exact ⟨x, hx, fun hb => absurd ((m8 ha hx).1 hb) (by omega), fun hb => l1 (k + 1)⟩
        · exact absurd h h'
      · refine ib (k + 3) _ _ _ _ ⟨fun h => ?_, fun h => by omega⟩
        obtain ⟨x, hx, _⟩ | h' := aE l i
        · exact ⟨x, hx, fun hb => ih (i + 1) (by omega) (by omega), fun hb => absurd ((m8 (w := w) ha hx).2 (by omega)) (by rw [hb]; simp)⟩
        · exact absurd h h'
  exact oR (cz w l + 3) _ _ _ (l0 _ 0 (by omega) (by omega))
theorem qK (t : Tree) (q : List Int) : (arP t q).length ≤ q.length + t.kids.length := by
  cases q with
  | nil => unfold arP; split <;> simp
  | cons i r =>
    have := pM t (i :: r) (i :: r).length
    unfold arP
    split
    · simp
    · simp only
      split
      · simp only [List.length_append, jH, List.length_map, List.length_range]; omega
      · simp
def lP (t : Tree) (q : List Int) : List Nm := if cp t = true then jI [] (((arP t q).map (bb t)).map (·.name)) else []
theorem rk (l : List Nm) (w : Nm) (r : List Nm) : jI l (w :: r) = jI (fy w l) r := rfl
theorem nE (t : Tree) (q : List Int) (ht : tbulk t ≤ 10000000) (hq : q.length ≤ 10000000) : fH t q (lP t q) := by
  have hk := cv t
  by_cases hf : cp t = true
  rotate_left
  · exact lL 0 _ _ _ ⟨_, qd t (by omega), fun h => by simp [lP, h], fun h => absurd h hf⟩
  · have ha := sj t q (iA hf) (by omega) (by omega)
    have hlen : (auL t t [] [] q).1.length ≤ q.length + t.kids.length := by
      have := congrArg List.length (rN hf q)
      simp only [List.length_reverse, List.length_map] at this
      rw [this]; exact qK t q
    have e : lP t q = jI [] ((auL t t [] [] q).1.map (·.name)) := by rw [lP, if_pos hf, yg hf]
    rw [e]
    obtain ⟨A, hA⟩ : ∃ A, A = (auL t t [] [] q).1 := ⟨_, rfl⟩
    rw [← hA] at ha hlen ⊢
    have loop : ∀ k i l, A.length - i ≤ k → i ≤ A.length → l.length ≤ i → asc l → eZ (k + 1) A l i (jI l ((A.drop i).map (·.name))) := fun k => by
      induction k with
      | zero =>
        intro i l h0 hi hl hs
        refine i5 0 _ _ _ _ ⟨fun h => by omega, fun _ => ?_⟩
        rw [List.drop_of_length_le (by omega)]; rfl
      | succ k ih =>
        intro i l h0 hi hl hs
        obtain ⟨x, hx, _⟩ | h' := aE A i
        · rw [ci hx, List.map_cons, rk]
          have hil := pF x.name l
          refine i5 (k + 1) _ _ _ _ ⟨fun _ => ⟨x, hx, _, _, qE l x.name hs (by omega), fun hb => ⟨fy x.name l, ?_, by omega, ih (i + 1) _ (by omega) (by omega) (by omega) (nq _ _ hs)⟩, fun hb => ⟨by omega, ?_⟩⟩, fun h => by omega⟩
          · have hne := of_decide_eq_false hb
            rw [lO, if_neg hne]
            exact xm l x.name _ (pb _ _) (by omega)
          · have he := of_decide_eq_true hb
            rw [lO, if_pos he]
            exact ih (i + 1) l (by omega) (by omega) (by omega) hs
        · refine i5 (k + 1) _ _ _ _ ⟨fun h => absurd h h', fun _ => ?_⟩
          rw [List.drop_of_length_le (by omega)]; rfl
    refine lL (A.length + 1) _ _ _ ⟨_, qd t (by omega), fun h => (by rw [hf] at h; cases h), fun _ => ⟨_, _, ha, ?_⟩⟩
    have := loop A.length 0 [] (by omega) (by omega) (by simp) trivial
    rwa [List.drop_zero] at this
theorem uF (t : Tree) (q : List Int) (ht : tbulk t ≤ 10000000) (hq : q.length ≤ 10000000) : gm t q (lP t q) := by
  have hk := cv t
  by_cases hf : cp t = true
  rotate_left
  · exact jp 0 _ _ _ ⟨_, mZ t (by omega), fun h => by simp [lP, h], fun h => absurd h hf⟩
  · have har := tj t q (iA hf) (by omega) (by omega)
    have hal := qK t q
    have hsm := ln (t := t) (q := q) (n := 10000000) hq (by omega)
    have e : lP t q = jI [] (((arP t q).map (bb t)).map (·.name)) := if_pos hf
    rw [e]
    obtain ⟨A, hA⟩ : ∃ A, A = arP t q := ⟨_, rfl⟩
    rw [← hA] at har hal hsm ⊢
    have loop : ∀ k i l, A.length - i ≤ k → i ≤ A.length → l.length ≤ i → asc l → dZ (2 * k + 1) t A l i (jI l (((A.drop i).map (bb t)).map (·.name))) := fun k => by
      induction k with
      | zero =>
        intro i l h0 hi hl hs
        refine fp 0 _ _ _ _ _ ⟨fun h => by omega, fun _ => ?_⟩
        rw [List.drop_of_length_le (by omega)]; rfl
      | succ k ih =>
        intro i l h0 hi hl hs
        rw [show 2 * (k + 1) + 1 = 2 * k + 1 + 1 + 1 by omega]
        obtain ⟨x, hx, _⟩ | h' := aE A i
        · rw [ci hx, List.map_cons, List.map_cons, rk]
          have hxl := hsm x (List.mem_of_getElem? hx)
          obtain ⟨b, hb⟩ := vx t x (by omega)
          have hil := pF (bb t x).name l
          refine fp _ _ _ _ _ _ ⟨fun _ => ⟨x, hx, _, b, hb, mb _ _ _ _ _ _ _ ⟨_, Bm l _ hs (by omega), by omega, ?_⟩⟩, fun h => by omega⟩
          exact ih (i + 1) _ (by omega) (by omega) (by unfold bb at hil; simp only at hil; omega) (nq _ _ hs)
        · refine fp _ _ _ _ _ _ ⟨fun h => absurd h h', fun _ => ?_⟩
          rw [List.drop_of_length_le (by omega)]; rfl
    refine jp (2 * A.length + 1) _ _ _ ⟨_, mZ t (by omega), fun h => (by rw [hf] at h; cases h), fun _ => ⟨_, har, ?_⟩⟩
    have := loop A.length 0 [] (by omega) (by omega) (by simp) trivial
    rwa [List.drop_zero] at this
end Go.Proofs.YteglbnopdedadaaGreat
namespace Go.Proofs.YteglbnopdedadaaGreat
open Go.RowKit Lx Sx
set_option maxRecDepth 100000
def yt : List UInt8 := [109, 111, 100, 117, 108, 101, 32, 77, 32, 100, 101, 102, 32, 102, 40, 120, 58, 32, 73, 110, 116, 41, 58, 32, 73, 110, 116, 32, 61, 32, 108, 101, 116, 32, 121, 32, 61, 32, 120, 32, 105, 110, 32, 108, 101, 116, 32, 120, 32, 61, 32, 121, 32, 105, 110, 32, 120]
def pd : Tree := (zK yt).1
def fJ : Tree := pd.kids.headD zT0
theorem xO : o4 pd (sZ vD 6000 36 [.str yt]) = true := by kernel_rfl
theorem rh : pd.kids.length = 1 := by decide +kernel
theorem oB : tbulk fJ ≤ 10000000 := by decide +kernel
theorem wb : cp fJ = true := by decide +kernel
theorem wk : (iu fJ).map (fun v => (v.Binder, v.Free)) = [([0], false), ([2], false), ([2, 1], false)] := by decide +kernel
theorem wu : (cd (auL fJ fJ [] [] [2, 0]).1.reverse [121]).2 = false := by decide +kernel
theorem xN : (auL fJ fJ [] [] [2, 0]).1.map (·.path) = [[0]] := by decide +kernel
theorem xn : (lP fJ [2, 1, 1]).length = 2 := by decide +kernel
theorem pP : pd.kids[0]? = some fJ := by
  have h := rh
  unfold fJ
  match pd.kids, h with
  | [x], _ => rfl
theorem BI : gl true := by
  have hv := wk
  have hV := lK fJ (Nat.le_trans oB (by decide))
  obtain ⟨V, hVe⟩ : ∃ V, V = iu fJ := ⟨_, rfl⟩
  rw [← hVe] at hv hV
  have hl := xN
  have hB := rn fJ [2, 0] [121] wb (Nat.le_trans oB (by decide)) (by decide) (by
    have := congrArg List.length hl; simp at this; omega) (fun b hb => by
    have : b.path ∈ [[(0 : Int)]] := by rw [← hl]; exact List.mem_map_of_mem hb
    simp only [List.mem_singleton] at this
    rw [this]; decide)
  rw [wu] at hB
  match V, hv with
  | [x, y, z], hv =>
    simp only [List.map_cons, List.map_nil, List.cons.injEq, Prod.mk.injEq, and_true] at hv
    obtain ⟨⟨a1, a2⟩, _, a3, a4⟩ := hv
    have hw : gl true := by
      refine mI 0 _ ⟨pd, 0, 0, ze xO, fun h => absurd rfl h, fun _ => ⟨fun h => absurd (by rw [rh]; rfl) h, fun _ => ⟨fJ, pP, _, hV, fJ, pP, _, _, hB, fun _ => ⟨x, rfl, fun _ => ⟨x, rfl, true, a1 ▸ kE _, fun _ => ⟨z, rfl, true, a3 ▸ kE _, fun _ => ⟨fun _ => ⟨fJ, pP, _, nE fJ [2, 1, 1] oB (by decide), by rw [xn]; rfl⟩, fun h => by cases h⟩, fun h => by cases h⟩, fun h => by cases h⟩, fun h => by rw [a2] at h; cases h⟩, fun h => absurd rfl h⟩⟩⟩
    exact hw
end Go.Proofs.YteglbnopdedadaaGreat
namespace Go.Proofs.YteglbnopdedadaaGreat
open Go.RowKit Lx Sx
section
variable {P : Program} {T : Tab} {K : Ctx} {Q : Exit → Act → World → Prop} {s : List EI} {n : Nat} {F F1 : Fm} {H : Hp} {all : Array Oper} {L : List Nat} {m fuel : Nat} {listed : Array Bool}
theorem Bw {t e : TypeId} {x : Operand} {id sz j o' : Nat} {els : List V} {v0 v : V} {td : TD} {d : Option Tmp} {ty : TypeId} {ps : String} {af : Array Edge} {g : Option (Nat × Bool)} (i : Nat) (hi : all[i]? = some ⟨d, .load t x, ty, ps, af, g⟩)
    (hc : (!Nat.beq i m && o3 .any all m i && !(listed.getD m false) && Region.free .any all listed i && (Region.ready .any all listed).contains i && L.contains id) = true) (hw : bv F all g = some true) (hT : TabOk P T) (ht : T.ty t = some td) (hx : aQ F x = some (.el id sz j o')) (ho : H.get id = .row e sz els) (hj : els[j]? = some v0) (hv : kx td v0.cells o' = some v)
    (h1 : F.puto d (some v) _root_.id = F1) (k : Go P K Q (.drw all L m fuel (listed.setIfInBounds i true)) s n F1 H) : Go P K Q (.drw all L m (fuel + 1) listed) s n F H := by
  rw [Fm.puto_eq] at h1; subst h1
  simp only [Bool.and_eq_true, Bool.not_eq_true'] at hc
  obtain ⟨⟨⟨⟨⟨c1, c2⟩, c3⟩, c4⟩, c5⟩, c6⟩ := hc
  have he : iC T H.get F H.nx (.load t x) = some (some v, .nop) := by
    have hb : Nat.beq sz sz = true := Nat.beq_refl sz
    unfold iC
    simp only [hx, ht, ho, hb, jk, hj, hv]
  exact uY (o := ⟨d, .load t x, ty, ps, af, g⟩) (id := id) hT c1 c2 c3 hi c4 c5 hw (by show lj F (.load t x) = some id; unfold lj; simp only [hx]) c6 he k
end
end Go.Proofs.YteglbnopdedadaaGreat
namespace Go.Proofs.YteglbnopdedadaaGreat
open Go.RowKit Lx Sx
set_option maxRecDepth 100000
set_option maxHeartbeats 4000000
def ik (p0 : (List Int)) (r0 : Bool) : Prop := aV Tryz.prog 8 [.row 1 (List.map (V.int .i64) p0)] (.bool r0)
def iy (p0 : (List Int)) (r0 : Bool) : Prop := aV Tryz.prog 9 [.row 1 (List.map (V.int .i64) p0)] (.bool r0)
def cm (m : Nat) (r0_3 : (List Tree)) (i1v1 : Nat) (r0 : Bool) : Prop := ∀ (K : Ctx) (j1 : Nat), av K [] → m ≤ j1 → Go Tryz.prog K (bodyPost Tryz.prog Tryz.f8 (SP K (fun u _ => u = .bool r0))) (.code (cL (cK (cB (cA (cB (cB (cB (cB (ac Tryz.f8)))))))))) [.loop (cL (cK (cB (cA (cB (cB (cB (cB (ac Tryz.f8))))))))) j1, .blk 0, .seq (cB (cB (cB (cB (cB (ac Tryz.f8))))))] 101 (mkF 101 0 [(3, .row 4 (kidsV r0_3)), (4, .box [.str [120], .str [121], .str [122]] 0), (5, .int .i64 ((i1v1 : Nat) : Int))]) ⟨0, []⟩
def ck (m : Nat) (r0_3 : (List Tree)) (r1_2 : (List (List Int))) (i2v1 : Nat) (i2v2 : Nat) (r0 : Bool) : Prop := ∀ (K : Ctx) (j1 : Nat) (j2 : Nat), av K [] → m ≤ j1 → m ≤ j2 → Go Tryz.prog K (bodyPost Tryz.prog Tryz.f8 (SP K (fun u _ => u = .bool r0))) (.code (cL (cK (cB (cB (cK (cA (cB (cL (cK (cB (cA (cB (cB (cB (cB (ac Tryz.f8))))))))))))))))) [.loop (cL (cK (cB (cB (cK (cA (cB (cL (cK (cB (cA (cB (cB (cB (cB (ac Tryz.f8)))))))))))))))) j1, .blk 2, .blk 1, .seq (cB (cB (cL (cK (cB (cA (cB (cB (cB (cB (ac Tryz.f8))))))))))), .loop (cL (cK (cB (cA (cB (cB (cB (cB (ac Tryz.f8))))))))) j2, .blk 0, .seq (cB (cB (cB (cB (cB (ac Tryz.f8))))))] 101 (mkF 101 0 [(3, .row 4 (kidsV r0_3)), (4, .box [.str [120], .str [121], .str [122]] 0), (5, .int .i64 ((i2v1 : Nat) : Int)), (6, .row 1 (List.map (fun l => V.row 1 (List.map (V.int .i64) l)) r1_2)), (7, .int .i64 ((i2v2 : Nat) : Int))]) ⟨0, []⟩
def bQ (m : Nat) (r0_3 : (List Tree)) (r1_2 : (List (List Int))) (i3v1 : Nat) (i3v2 : Nat) (i3v3 : Nat) (r0 : Bool) : Prop := ∀ (K : Ctx) (j1 : Nat) (j2 : Nat) (j3 : Nat), av K [] → m ≤ j1 → m ≤ j2 → m ≤ j3 → Go Tryz.prog K (bodyPost Tryz.prog Tryz.f8 (SP K (fun u _ => u = .bool r0))) (.code (cL (cK (cB (cB (cK (cA (cB (cL (cK (cB (cB (cK (cA (cB (cL (cK (cB (cA (cB (cB (cB (cB (ac Tryz.f8)))))))))))))))))))))))) [.loop (cL (cK (cB (cB (cK (cA (cB (cL (cK (cB (cB (cK (cA (cB (cL (cK (cB (cA (cB (cB (cB (cB (ac Tryz.f8))))))))))))))))))))))) j1, .blk 4, .blk 3, .seq (cB (cB (cL (cK (cB (cB (cK (cA (cB (cL (cK (cB (cA (cB (cB (cB (cB (ac Tryz.f8)))))))))))))))))), .loop (cL (cK (cB (cB (cK (cA (cB (cL (cK (cB (cA (cB (cB (cB (cB (ac Tryz.f8)))))))))))))))) j2, .blk 2, .blk 1, .seq (cB (cB (cL (cK (cB (cA (cB (cB (cB (cB (ac Tryz.f8))))))))))), .loop (cL (cK (cB (cA (cB (cB (cB (cB (ac Tryz.f8))))))))) j3, .blk 0, .seq (cB (cB (cB (cB (cB (ac Tryz.f8))))))] 101 (mkF 101 0 [(3, .row 4 (kidsV r0_3)), (4, .box [.str [120], .str [121], .str [122]] 0), (5, .int .i64 ((i3v2 : Nat) : Int)), (6, .row 1 (List.map (fun l => V.row 1 (List.map (V.int .i64) l)) r1_2)), (7, .int .i64 ((i3v3 : Nat) : Int)), (8, .int .i64 ((i3v1 : Nat) : Int))]) ⟨0, []⟩
theorem g7 (m : Nat) (p0 : (List Int)) (r0 : Bool) (h : ∃ (b0_1 : Bool), d7 p0 b0_1 ∧ ((b0_1 = false) → ∃ (b0_2 : Bool), bI b0_2 ∧ b0_2 = r0) ∧ ((b0_1 = true) → ∃ (r0_3 : (List Tree)), cS p0 r0_3 ∧ cm m r0_3 0 r0)) : ik p0 r0 := by
 refine ⟨rfl, rfl, ?_⟩
 refine al 101 [] Tryz.func8 rfl rfl rfl (aH rfl) fun K hK => ?_
 refine gR 9 rfl ?_
 obtain ⟨b0_1, hs53, h⟩ := h
 refine gC0 hs53 (by kernel_rfl) rfl rfl .rfl rfl ?_
 refine gR 3 rfl ?_
 refine gB 15 rfl rfl rfl (fun hd => ?_) (fun hd => ?_)
 replace hd := (bZ hd)
 replace h := h.1 hd
 refine gR 3 rfl ?_
 obtain ⟨b0_2, hs54, h⟩ := h
 refine gC0 hs54 (by kernel_rfl) rfl rfl .rfl rfl ?_
 refine gR 5 rfl ?_
 subst h
 refine ab (F' := (mkF 101 0 [(2, .bool b0_2)])) (H' := ⟨0, []⟩) [] [] rfl hK ⟨⟨_, rfl, .rfl⟩, trivial⟩ trivial rfl ?_
 exact ae aa (rs := [.tmp 2]) rfl rfl rfl
 replace hd := (bY hd)
 replace h := h.2 hd
 refine gR 6 rfl ?_
 obtain ⟨r0_3, hs55, h⟩ := h
 refine gC0 hs55 (by kernel_rfl) rfl rfl .rfl rfl ?_
 refine gR 17 rfl ?_
 refine go_loop m ?_
 refine gFP 0 rfl rfl rfl rfl ?_
 exact gJ (h K _ hK (by omega)) [] [] rfl hK ⟨⟨_, rfl, .rfl⟩, ⟨_, rfl, .rfl⟩, ⟨_, rfl, .rfl⟩, trivial⟩ trivial rfl
theorem gy (m : Nat) (r0_3 : (List Tree)) (i1v1 : Nat) (r0 : Bool) (h : ((i1v1 < r0_3.length) → ∃ (t1_1 : Tree), r0_3[i1v1]? = some t1_1 ∧ ∃ (r1_2 : (List (List Int))), fj t1_1 r1_2 ∧ ck m r0_3 r1_2 i1v1 0 r0) ∧ ((¬ i1v1 < r0_3.length) → ∃ (b1_3 : Bool), bI b1_3 ∧ b1_3 = r0)) : cm (m + 1) r0_3 i1v1 r0 := by
 intro K j1 hK hj1
 obtain ⟨j1, rfl⟩ : ∃ j, j1 = j + 1 := ⟨j1 - 1, by omega⟩
 refine gR 6 rfl ?_
 refine gV 22 (.int .i64 ((r0_3.length : Nat) : Int)) rfl (aW (aX _)) rfl ?_
 refine gLB 21 rfl (aX _) fun hl56 => ?_
 refine gR 3 rfl ?_
 refine gB 23 rfl rfl rfl (fun hd => ?_) (fun hd => ?_)
 replace hd := (cx hd)
 replace h := h.1 hd
 refine gR 9 rfl ?_
 obtain ⟨t1_1, hxt1_1, h⟩ := h
 refine gY (az (ar hxt1_1) aa rfl rfl rfl rfl) rfl rfl ?_
 refine gR 1 rfl ?_
 obtain ⟨r1_2, hs57, h⟩ := h
 refine gC0 hs57 (by kernel_rfl) rfl rfl .rfl rfl ?_
 refine gR 9 rfl ?_
 refine go_loop m ?_
 exact gJ (h K _ _ hK (by omega) (by omega)) [] [] rfl hK ⟨⟨_, rfl, .rfl⟩, ⟨_, rfl, .rfl⟩, ⟨_, rfl, .rfl⟩, ⟨_, rfl, .rfl⟩, ⟨_, rfl, .rfl⟩, trivial⟩ trivial rfl
 replace hd := (cy hd)
 replace h := h.2 hd
 refine gR 3 rfl ?_
 refine ay ?_
 refine gR 4 rfl ?_
 obtain ⟨b1_3, hs58, h⟩ := h
 refine gC0 hs58 (by kernel_rfl) rfl rfl .rfl rfl ?_
 refine gR 4 rfl ?_
 subst h
 refine ab (F' := (mkF 101 0 [(2, .bool b1_3)])) (H' := ⟨0, []⟩) [] [] rfl hK ⟨⟨_, rfl, .rfl⟩, trivial⟩ trivial rfl ?_
 exact ae aa (rs := [.tmp 2]) rfl rfl rfl
theorem gz (m : Nat) (r0_3 : (List Tree)) (r1_2 : (List (List Int))) (i2v1 : Nat) (i2v2 : Nat) (r0 : Bool) (h : ((i2v2 < r1_2.length) → ∃ (t2_1 : Tree), r0_3[i2v1]? = some t2_1 ∧ ∃ (x2_2 : (List Int)), r1_2[i2v2]? = some x2_2 ∧ ∃ (t2_3 : Tree), r0_3[i2v1]? = some t2_3 ∧ ∃ (x2_4 : (List Int)), r1_2[i2v2]? = some x2_4 ∧ ∃ (r2_5 : (List (List UInt8))), fH t2_1 x2_2 r2_5 ∧ ∃ (r2_6 : (List (List UInt8))), gm t2_3 x2_4 r2_6 ∧ ∃ (b2_7 : Bool), fq r2_5 r2_6 b2_7 ∧ ((b2_7 = false) → false = r0) ∧ ((b2_7 = true) → bQ m r0_3 r1_2 0 i2v1 i2v2 r0)) ∧ ((¬ i2v2 < r1_2.length) → i2v1 + 1 ≤ 9223372036854775807 ∧ cm m r0_3 (i2v1 + 1) r0)) : ck (m + 1) r0_3 r1_2 i2v1 i2v2 r0 := by
 intro K j1 j2 hK hj1 hj2
 obtain ⟨j1, rfl⟩ : ∃ j, j1 = j + 1 := ⟨j1 - 1, by omega⟩
 obtain ⟨j2, rfl⟩ : ∃ j, j2 = j + 1 := ⟨j2 - 1, by omega⟩
 refine gR 6 rfl ?_
 refine gV 33 (.int .i64 ((r1_2.length : Nat) : Int)) rfl (aW (aq (fun l => V.row 1 (List.map (V.int .i64) l)) _)) rfl ?_
 refine gLB 32 rfl (aq (fun l => V.row 1 (List.map (V.int .i64) l)) _) fun hl59 => ?_
 refine gR 3 rfl ?_
 refine gB 34 rfl rfl rfl (fun hd => ?_) (fun hd => ?_)
 replace hd := (cx hd)
 replace h := h.1 hd
 refine gR 7 rfl ?_
 refine gDs [] 20 20 rfl (by kernel_rfl) (by kernel_rfl) ?_
 refine gDr [(0, 2), (1, 2)] (by kernel_rfl) rfl rfl ?_
 obtain ⟨t2_1, hxt2_1, h⟩ := h
 refine gYd 2 rfl (by kernel_rfl) (az (ar hxt2_1) aa rfl rfl rfl rfl) rfl rfl ?_
 refine gDr [(3, 2), (4, 2), (5, 2)] (by kernel_rfl) rfl rfl ?_
 obtain ⟨x2_2, hxx2_2, h⟩ := h
 refine gYd 6 rfl (by kernel_rfl) (az (mapget (f := (fun l => V.row 1 (List.map (V.int .i64) l))) hxx2_2) aa rfl rfl rfl rfl) rfl rfl ?_
 refine gDr [(7, 2), (9, 2), (10, 2)] (by kernel_rfl) rfl rfl ?_
 obtain ⟨t2_3, hxt2_3, h⟩ := h
 refine gYd 11 rfl (by kernel_rfl) (az (ar hxt2_3) aa rfl rfl rfl rfl) rfl rfl ?_
 refine gDr [(12, 2), (13, 2), (14, 2)] (by kernel_rfl) rfl rfl ?_
 obtain ⟨x2_4, hxx2_4, h⟩ := h
 refine gYd 15 rfl (by kernel_rfl) (az (mapget (f := (fun l => V.row 1 (List.map (V.int .i64) l))) hxx2_4) aa rfl rfl rfl rfl) rfl rfl ?_
 refine gDr [(16, 2)] (by kernel_rfl) rfl rfl ?_
 obtain ⟨r2_5, hs60, h⟩ := h
 refine gDC 8 hs60 [] (by kernel_rfl) rfl (by kernel_rfl) rfl rfl .rfl trivial (by kernel_rfl) rfl ?_
 rintro _ _ ⟨rfl, rfl⟩
 refine gHR 0 (List.map V.str r2_5) rfl (ai _ V.str (fun _ => rfl) r2_5) rfl ?_
 obtain ⟨r2_6, hs61, h⟩ := h
 refine br 17 hs61 (by kernel_rfl) rfl (by kernel_rfl) rfl rfl .rfl rfl rfl ?_
 refine gFR 0 rfl (dw _ (fun _ => rfl) _) rfl rfl ?_
 obtain ⟨b2_7, hs62, h⟩ := h
 refine br 18 hs62 (by kernel_rfl) rfl (by kernel_rfl) rfl rfl .rfl rfl rfl ?_
 refine gDr [(19, 0)] (by kernel_rfl) rfl rfl ?_
 refine gDe (by kernel_rfl) ?_
 refine gR 1 rfl ?_
 refine gB 56 rfl rfl rfl (fun hd => ?_) (fun hd => ?_)
 replace hd := (bZ hd)
 replace h := h.1 hd
 refine gR 10 rfl ?_
 refine aK ?_
 refine gR 3 rfl ?_
 refine aK ?_
 refine gR 2 rfl ?_
 subst h
 refine ab (F' := (mkF 101 0 [(2, .bool false)])) (H' := ⟨0, []⟩) [] [] rfl hK ⟨⟨_, rfl, .rfl⟩, trivial⟩ trivial rfl ?_
 exact ae aa (rs := [.tmp 2]) rfl rfl rfl
 replace hd := (bY hd)
 replace h := h.2 hd
 refine gR 9 rfl ?_
 refine go_loop m ?_
 exact gJ (h K _ _ _ hK (by omega) (by omega) (by omega)) [] [] rfl hK ⟨⟨_, rfl, .rfl⟩, ⟨_, rfl, .rfl⟩, ⟨_, rfl, .rfl⟩, ⟨_, rfl, .rfl⟩, ⟨_, rfl, .rfl⟩, ⟨_, rfl, .rfl⟩, trivial⟩ trivial rfl
 replace hd := (cy hd)
 replace h := h.2 hd
 refine gR 3 rfl ?_
 refine ay ?_
 refine gR 5 rfl ?_
 obtain ⟨hb, h⟩ := h
 refine gR 1 rfl ?_
 refine gV 25 (.int .i64 ((i2v1 + 1 : Nat) : Int)) rfl (an (by omega) (by omega)) rfl ?_
 refine gR 2 rfl ?_
 refine ao ?_
 exact gJ (h K _ hK (by omega)) [] [] rfl hK ⟨⟨_, rfl, .rfl⟩, ⟨_, rfl, .rfl⟩, ⟨_, rfl, .rfl⟩, trivial⟩ trivial rfl
theorem rL2_semvcslaw05_ScopePlaces (m : Nat) (r0_3 : (List Tree)) (r1_2 : (List (List Int))) (i3v1 : Nat) (i3v2 : Nat) (i3v3 : Nat) (r0 : Bool) (h : ((((i3v1 : Nat) : Int) < 3) → ∃ (t3_1 : Tree), r0_3[i3v2]? = some t3_1 ∧ ∃ (x3_2 : (List Int)), r1_2[i3v3]? = some x3_2 ∧ ∃ (s3_3 : (List UInt8)), [[120], [121], [122]][i3v1]? = some s3_3 ∧ ∃ (r3_4 : (List Int)), ∃ (b3_5 : Bool), gi t3_1 x3_2 s3_3 r3_4 b3_5 ∧ ∃ (t3_6 : Tree), r0_3[i3v2]? = some t3_6 ∧ ∃ (x3_7 : (List Int)), r1_2[i3v3]? = some x3_7 ∧ ∃ (s3_8 : (List UInt8)), [[120], [121], [122]][i3v1]? = some s3_8 ∧ ∃ (r3_9 : (List Int)), ∃ (b3_10 : Bool), dB t3_6 x3_7 s3_8 r3_9 b3_10 ∧ ((b3_5 ≠ b3_10) → false = r0) ∧ ((b3_5 = b3_10) → ∃ (b3_11 : Bool), bW r3_4 r3_9 b3_11 ∧ ((b3_11 = false) → false = r0) ∧ ((b3_11 = true) → i3v1 + 1 ≤ 9223372036854775807 ∧ bQ m r0_3 r1_2 (i3v1 + 1) i3v2 i3v3 r0))) ∧ ((¬ ((i3v1 : Nat) : Int) < 3) → i3v3 + 1 ≤ 9223372036854775807 ∧ ck m r0_3 r1_2 i3v2 (i3v3 + 1) r0)) : bQ (m + 1) r0_3 r1_2 i3v1 i3v2 i3v3 r0 := by
 intro K j1 j2 j3 hK hj1 hj2 hj3
 obtain ⟨j1, rfl⟩ : ∃ j, j1 = j + 1 := ⟨j1 - 1, by omega⟩
 obtain ⟨j2, rfl⟩ : ∃ j, j2 = j + 1 := ⟨j2 - 1, by omega⟩
 obtain ⟨j3, rfl⟩ : ∃ j, j3 = j + 1 := ⟨j3 - 1, by omega⟩
 refine gR 7 rfl ?_
 refine gB 58 rfl rfl rfl (fun hd => ?_) (fun hd => ?_)
 replace hd := (of_decide_eq_true hd)
 replace h := h.1 hd
 refine gR 6 rfl ?_
 refine gDs [] 17 17 rfl (by kernel_rfl) (by kernel_rfl) ?_
 refine gDr [(0, 2), (1, 2)] (by kernel_rfl) rfl rfl ?_
 obtain ⟨t3_1, hxt3_1, h⟩ := h
 refine gYd 2 rfl (by kernel_rfl) (az (ar hxt3_1) aa rfl rfl rfl rfl) rfl rfl ?_
 refine gDr [(3, 2), (4, 2), (5, 2)] (by kernel_rfl) rfl rfl ?_
 obtain ⟨x3_2, hxx3_2, h⟩ := h
 refine gYd 6 rfl (by kernel_rfl) (az (mapget (f := (fun l => V.row 1 (List.map (V.int .i64) l))) hxx3_2) aa rfl rfl rfl rfl) rfl rfl ?_
 refine gDr [(7, 2), (8, 0)] (by kernel_rfl) rfl rfl ?_
 obtain ⟨s3_3, hxs3_3, h⟩ := h
 refine dh 9 rfl (by kernel_rfl) (yIA (len := 3) (e := 9) (sz := 1) aa rfl rfl rfl rfl rfl rfl (pA (l := [[120], [121], [122]]) hxs3_3).2.2 (pA (l := [[120], [121], [122]]) hxs3_3).1 (pA (l := [[120], [121], [122]]) hxs3_3).2.1) rfl rfl ?_
 refine gDr [(10, 0)] (by kernel_rfl) rfl rfl ?_
 obtain ⟨r3_4, b3_5, hs63, h⟩ := h
 refine br 11 hs63 (by kernel_rfl) rfl (by kernel_rfl) rfl rfl .rfl rfl rfl ?_
 refine gDr [(12, 0), (13, 2), (14, 2), (15, 0), (16, 0)] (by kernel_rfl) rfl rfl ?_
 refine gDe (by kernel_rfl) ?_
 refine gR 2 rfl ?_
 refine gDs [] 17 17 rfl (by kernel_rfl) (by kernel_rfl) ?_
 refine gDr [(0, 2), (1, 2)] (by kernel_rfl) rfl rfl ?_
 obtain ⟨t3_6, hxt3_6, h⟩ := h
 refine gYd 2 rfl (by kernel_rfl) (az (ar hxt3_6) aa rfl rfl rfl rfl) rfl rfl ?_
 refine gDr [(3, 2), (4, 2), (5, 2)] (by kernel_rfl) rfl rfl ?_
 obtain ⟨x3_7, hxx3_7, h⟩ := h
 refine gYd 6 rfl (by kernel_rfl) (az (mapget (f := (fun l => V.row 1 (List.map (V.int .i64) l))) hxx3_7) aa rfl rfl rfl rfl) rfl rfl ?_
 refine gDr [(7, 2), (8, 0)] (by kernel_rfl) rfl rfl ?_
 obtain ⟨s3_8, hxs3_8, h⟩ := h
 refine dh 9 rfl (by kernel_rfl) (yIA (len := 3) (e := 9) (sz := 1) aa rfl rfl rfl rfl rfl rfl (pA (l := [[120], [121], [122]]) hxs3_8).2.2 (pA (l := [[120], [121], [122]]) hxs3_8).1 (pA (l := [[120], [121], [122]]) hxs3_8).2.1) rfl rfl ?_
 refine gDr [(10, 0)] (by kernel_rfl) rfl rfl ?_
 obtain ⟨r3_9, b3_10, hs64, h⟩ := h
 refine br 11 hs64 (by kernel_rfl) rfl (by kernel_rfl) rfl rfl .rfl rfl rfl ?_
 refine gDr [(12, 0), (13, 2), (14, 2), (15, 0), (16, 0)] (by kernel_rfl) rfl rfl ?_
 refine gDe (by kernel_rfl) ?_
 refine gR 7 rfl ?_
 refine gB 94 rfl rfl rfl (fun hd => ?_) (fun hd => ?_)
 refine gT 93 rfl hd rfl ?_
 replace hd := (gU hd)
 replace h := h.1 hd
 refine gR 8 rfl ?_
 refine ab (F' := (mkF 101 0 [])) (H' := ⟨0, []⟩) [] [] rfl hK trivial trivial rfl ?_
 refine gR 8 rfl ?_
 refine aK ?_
 refine gR 3 rfl ?_
 refine aK ?_
 refine gR 3 rfl ?_
 refine aK ?_
 refine gR 2 rfl ?_
 subst h
 refine ab (F' := (mkF 101 0 [(2, .bool false)])) (H' := ⟨0, []⟩) [] [] rfl hK ⟨⟨_, rfl, .rfl⟩, trivial⟩ trivial rfl ?_
 exact ae aa (rs := [.tmp 2]) rfl rfl rfl
 refine gF 93 rfl hd rfl ?_
 replace hd := (eO hd)
 replace h := h.2 hd
 refine gR 2 rfl ?_
 obtain ⟨b3_11, hs65, h⟩ := h
 refine gC0 hs65 (by kernel_rfl) rfl rfl .rfl rfl ?_
 refine gR 4 rfl ?_
 refine gB 99 rfl rfl rfl (fun hd => ?_) (fun hd => ?_)
 replace hd := (bZ hd)
 replace h := h.1 hd
 refine gR 1 rfl ?_
 refine ab (F' := (mkF 101 0 [])) (H' := ⟨0, []⟩) [] [] rfl hK trivial trivial rfl ?_
 refine gR 8 rfl ?_
 refine aK ?_
 refine gR 3 rfl ?_
 refine aK ?_
 refine gR 3 rfl ?_
 refine aK ?_
 refine gR 2 rfl ?_
 subst h
 refine ab (F' := (mkF 101 0 [(2, .bool false)])) (H' := ⟨0, []⟩) [] [] rfl hK ⟨⟨_, rfl, .rfl⟩, trivial⟩ trivial rfl ?_
 exact ae aa (rs := [.tmp 2]) rfl rfl rfl
 replace hd := (bY hd)
 replace h := h.2 hd
 refine gR 6 rfl ?_
 obtain ⟨hb, h⟩ := h
 refine gR 1 rfl ?_
 refine gV 60 (.int .i64 ((i3v1 + 1 : Nat) : Int)) rfl (an (by omega) (by omega)) rfl ?_
 refine gR 2 rfl ?_
 refine ao ?_
 exact gJ (h K _ _ _ hK (by omega) (by omega) (by omega)) [] [] rfl hK ⟨⟨_, rfl, .rfl⟩, ⟨_, rfl, .rfl⟩, ⟨_, rfl, .rfl⟩, ⟨_, rfl, .rfl⟩, ⟨_, rfl, .rfl⟩, ⟨_, rfl, .rfl⟩, trivial⟩ trivial rfl
 replace hd := (of_decide_eq_false hd)
 replace h := h.2 hd
 refine gR 3 rfl ?_
 refine ay ?_
 refine gR 5 rfl ?_
 obtain ⟨hb, h⟩ := h
 refine gR 1 rfl ?_
 refine gV 36 (.int .i64 ((i3v3 + 1 : Nat) : Int)) rfl (an (by omega) (by omega)) rfl ?_
 refine gR 2 rfl ?_
 refine ao ?_
 exact gJ (h K _ _ hK (by omega) (by omega)) [] [] rfl hK ⟨⟨_, rfl, .rfl⟩, ⟨_, rfl, .rfl⟩, ⟨_, rfl, .rfl⟩, ⟨_, rfl, .rfl⟩, ⟨_, rfl, .rfl⟩, trivial⟩ trivial rfl
def cn (m : Nat) (r0_3 : (List Tree)) (i1v1 : Nat) (r0 : Bool) : Prop := ∀ (K : Ctx) (j1 : Nat), av K [] → m ≤ j1 → Go Tryz.prog K (bodyPost Tryz.prog Tryz.f9 (SP K (fun u _ => u = .bool r0))) (.code (cL (cK (cB (cA (cB (cB (cB (ac Tryz.f9))))))))) [.loop (cL (cK (cB (cA (cB (cB (cB (ac Tryz.f9)))))))) j1, .blk 0, .seq (cB (cB (cB (cB (ac Tryz.f9)))))] 131 (mkF 131 0 [(3, .row 4 (kidsV r0_3)), (4, .int .i64 ((i1v1 : Nat) : Int))]) ⟨0, []⟩
def bB (m : Nat) (r0_3 : (List Tree)) (r1_2 : (List GVariable)) (i2v1 : Nat) (i2v2 : Nat) (r0 : Bool) : Prop := ∀ (K : Ctx) (j1 : Nat) (j2 : Nat), av K [] → m ≤ j1 → m ≤ j2 → Go Tryz.prog K (bodyPost Tryz.prog Tryz.f9 (SP K (fun u _ => u = .bool r0))) (.code (cL (cK (cB (cB (cK (cA (cB (cL (cK (cB (cA (cB (cB (cB (ac Tryz.f9)))))))))))))))) [.loop (cL (cK (cB (cB (cK (cA (cB (cL (cK (cB (cA (cB (cB (cB (ac Tryz.f9))))))))))))))) j1, .blk 2, .blk 1, .seq (cB (cB (cL (cK (cB (cA (cB (cB (cB (ac Tryz.f9)))))))))), .loop (cL (cK (cB (cA (cB (cB (cB (ac Tryz.f9)))))))) j2, .blk 0, .seq (cB (cB (cB (cB (ac Tryz.f9)))))] 131 (mkF 131 0 [(3, .row 4 (kidsV r0_3)), (4, .int .i64 ((i2v2 : Nat) : Int)), (5, .row 3 (List.map GVariable.w r1_2)), (6, .int .i64 ((i2v1 : Nat) : Int))]) ⟨0, []⟩
def gX (m : Nat) (r0_3 : (List Tree)) (r1_2 : (List GVariable)) (t2_3 : Tree) (i3v1 : Nat) (i3v2 : Nat) (r0 : Bool) : Prop := ∀ (K : Ctx) (j1 : Nat) (j2 : Nat), av K [] → m ≤ j1 → m ≤ j2 → Go Tryz.prog K (bodyPost Tryz.prog Tryz.f9 (SP K (fun u _ => u = .bool r0))) (.ex .normal) [.seq (cB (cK (cA (cB (cL (cK (cB (cB (cK (cA (cB (cL (cK (cB (cA (cB (cB (cB (ac Tryz.f9))))))))))))))))))), .blk 3, .seq (cB (cB (cL (cK (cB (cB (cK (cA (cB (cL (cK (cB (cA (cB (cB (cB (ac Tryz.f9))))))))))))))))), .loop (cL (cK (cB (cB (cK (cA (cB (cL (cK (cB (cA (cB (cB (cB (ac Tryz.f9))))))))))))))) j1, .blk 2, .blk 1, .seq (cB (cB (cL (cK (cB (cA (cB (cB (cB (ac Tryz.f9)))))))))), .loop (cL (cK (cB (cA (cB (cB (cB (ac Tryz.f9)))))))) j2, .blk 0, .seq (cB (cB (cB (cB (ac Tryz.f9)))))] 131 (mkF 131 0 [(3, .row 4 (kidsV r0_3)), (4, .int .i64 ((i3v1 : Nat) : Int)), (5, .row 3 (List.map GVariable.w r1_2)), (6, .int .i64 ((i3v2 : Nat) : Int)), (7, .ptr 0 0)]) ⟨1, [(0, .var 32 (ak t2_3))]⟩
def bP (m : Nat) (r0_3 : (List Tree)) (r1_2 : (List GVariable)) (t2_3 : Tree) (r3_3 : (List (List UInt8))) (b4v1 : Bool) (i4v2 : Nat) (i4v3 : Nat) (i4v4 : Nat) (r0 : Bool) : Prop := ∀ (K : Ctx) (j1 : Nat) (j2 : Nat) (j3 : Nat), av K [] → m ≤ j1 → m ≤ j2 → m ≤ j3 → Go Tryz.prog K (bodyPost Tryz.prog Tryz.f9 (SP K (fun u _ => u = .bool r0))) (.code (cL (cK (cB (cA (cB (cB (cB (cK (cA (cB (cL (cK (cB (cB (cK (cA (cB (cL (cK (cB (cA (cB (cB (cB (ac Tryz.f9)))))))))))))))))))))))))) [.loop (cL (cK (cB (cA (cB (cB (cB (cK (cA (cB (cL (cK (cB (cB (cK (cA (cB (cL (cK (cB (cA (cB (cB (cB (ac Tryz.f9))))))))))))))))))))))))) j1, .blk 4, .seq (cB (cB (cB (cB (cK (cA (cB (cL (cK (cB (cB (cK (cA (cB (cL (cK (cB (cA (cB (cB (cB (ac Tryz.f9)))))))))))))))))))))), .blk 3, .seq (cB (cB (cL (cK (cB (cB (cK (cA (cB (cL (cK (cB (cA (cB (cB (cB (ac Tryz.f9))))))))))))))))), .loop (cL (cK (cB (cB (cK (cA (cB (cL (cK (cB (cA (cB (cB (cB (ac Tryz.f9))))))))))))))) j2, .blk 2, .blk 1, .seq (cB (cB (cL (cK (cB (cA (cB (cB (cB (ac Tryz.f9)))))))))), .loop (cL (cK (cB (cA (cB (cB (cB (ac Tryz.f9)))))))) j3, .blk 0, .seq (cB (cB (cB (cB (ac Tryz.f9)))))] 131 (mkF 131 0 [(3, .row 4 (kidsV r0_3)), (4, .int .i64 ((i4v3 : Nat) : Int)), (5, .row 3 (List.map GVariable.w r1_2)), (6, .int .i64 ((i4v4 : Nat) : Int)), (7, .ptr 0 0), (9, .sl 1), (10, .bool b4v1), (11, .int .i64 ((i4v2 : Nat) : Int))]) ⟨2, [(1, .row 9 1 (List.map V.str r3_3)), (0, .var 32 (ak t2_3))]⟩
def df (m : Nat) (r0_3 : (List Tree)) (r1_2 : (List GVariable)) (t2_3 : Tree) (t4_4 : Tree) (b4_5 : Bool) (i5v1 : Nat) (i5v2 : Nat) (b5v3 : Bool) (r0 : Bool) : Prop := ∀ (K : Ctx) (j1 : Nat) (j2 : Nat), av K [] → m ≤ j1 → m ≤ j2 → Go Tryz.prog K (bodyPost Tryz.prog Tryz.f9 (SP K (fun u _ => u = .bool r0))) (.ex .normal) [.seq (cB (cB (cB (cB (cB (cK (cA (cB (cL (cK (cB (cB (cK (cA (cB (cL (cK (cB (cA (cB (cB (cB (ac Tryz.f9))))))))))))))))))))))), .blk 3, .seq (cB (cB (cL (cK (cB (cB (cK (cA (cB (cL (cK (cB (cA (cB (cB (cB (ac Tryz.f9))))))))))))))))), .loop (cL (cK (cB (cB (cK (cA (cB (cL (cK (cB (cA (cB (cB (cB (ac Tryz.f9))))))))))))))) j1, .blk 2, .blk 1, .seq (cB (cB (cL (cK (cB (cA (cB (cB (cB (ac Tryz.f9)))))))))), .loop (cL (cK (cB (cA (cB (cB (cB (ac Tryz.f9)))))))) j2, .blk 0, .seq (cB (cB (cB (cB (ac Tryz.f9)))))] 131 (mkF 131 0 [(3, .row 4 (kidsV r0_3)), (4, .int .i64 ((i5v1 : Nat) : Int)), (5, .row 3 (List.map GVariable.w r1_2)), (6, .int .i64 ((i5v2 : Nat) : Int)), (7, .ptr 0 0), (10, .bool b5v3), (12, .ptr 1 0), (13, .bool b4_5)]) ⟨2, [(1, .var 32 (ak t4_4)), (0, .var 32 (ak t2_3))]⟩
theorem gZ (m : Nat) (p0 : (List Int)) (r0 : Bool) (h : ∃ (b0_1 : Bool), d7 p0 b0_1 ∧ ((b0_1 = false) → ∃ (b0_2 : Bool), bI b0_2 ∧ b0_2 = r0) ∧ ((b0_1 = true) → ∃ (r0_3 : (List Tree)), cS p0 r0_3 ∧ cn m r0_3 0 r0)) : iy p0 r0 := by
 refine ⟨rfl, rfl, ?_⟩
 refine al 131 [] Tryz.func9 rfl rfl rfl (aH rfl) fun K hK => ?_
 refine gR 9 rfl ?_
 obtain ⟨b0_1, hs34, h⟩ := h
 refine gC0 hs34 (by kernel_rfl) rfl rfl .rfl rfl ?_
 refine gR 3 rfl ?_
 refine gB 16 rfl rfl rfl (fun hd => ?_) (fun hd => ?_)
 replace hd := (bZ hd)
 replace h := h.1 hd
 refine gR 3 rfl ?_
 obtain ⟨b0_2, hs35, h⟩ := h
 refine gC0 hs35 (by kernel_rfl) rfl rfl .rfl rfl ?_
 refine gR 5 rfl ?_
 subst h
 refine ab (F' := (mkF 131 0 [(2, .bool b0_2)])) (H' := ⟨0, []⟩) [] [] rfl hK ⟨⟨_, rfl, .rfl⟩, trivial⟩ trivial rfl ?_
 exact ae aa (rs := [.tmp 2]) rfl rfl rfl
 replace hd := (bY hd)
 replace h := h.2 hd
 refine gR 6 rfl ?_
 obtain ⟨r0_3, hs36, h⟩ := h
 refine gC0 hs36 (by kernel_rfl) rfl rfl .rfl rfl ?_
 refine gR 10 rfl ?_
 refine go_loop m ?_
 exact gJ (h K _ hK (by omega)) [] [] rfl hK ⟨⟨_, rfl, .rfl⟩, ⟨_, rfl, .rfl⟩, trivial⟩ trivial rfl
theorem gx (m : Nat) (r0_3 : (List Tree)) (i1v1 : Nat) (r0 : Bool) (h : ((i1v1 < r0_3.length) → ∃ (t1_1 : Tree), r0_3[i1v1]? = some t1_1 ∧ ∃ (r1_2 : (List GVariable)), eu t1_1 r1_2 ∧ bB m r0_3 r1_2 0 i1v1 r0) ∧ ((¬ i1v1 < r0_3.length) → ∃ (b1_3 : Bool), bI b1_3 ∧ b1_3 = r0)) : cn (m + 1) r0_3 i1v1 r0 := by
 intro K j1 hK hj1
 obtain ⟨j1, rfl⟩ : ∃ j, j1 = j + 1 := ⟨j1 - 1, by omega⟩
 refine gR 6 rfl ?_
 refine gV 22 (.int .i64 ((r0_3.length : Nat) : Int)) rfl (aW (aX _)) rfl ?_
 refine gLB 21 rfl (aX _) fun hl37 => ?_
 refine gR 3 rfl ?_
 refine gB 23 rfl rfl rfl (fun hd => ?_) (fun hd => ?_)
 replace hd := (cx hd)
 replace h := h.1 hd
 refine gR 9 rfl ?_
 obtain ⟨t1_1, hxt1_1, h⟩ := h
 refine gY (az (ar hxt1_1) aa rfl rfl rfl rfl) rfl rfl ?_
 refine gR 1 rfl ?_
 obtain ⟨r1_2, hs38, h⟩ := h
 refine gC0 hs38 (by kernel_rfl) rfl rfl .rfl rfl ?_
 refine gR 9 rfl ?_
 refine go_loop m ?_
 exact gJ (h K _ _ hK (by omega) (by omega)) [] [] rfl hK ⟨⟨_, rfl, .rfl⟩, ⟨_, rfl, .rfl⟩, ⟨_, rfl, .rfl⟩, ⟨_, rfl, .rfl⟩, trivial⟩ trivial rfl
 replace hd := (cy hd)
 replace h := h.2 hd
 refine gR 3 rfl ?_
 refine ay ?_
 refine gR 4 rfl ?_
 obtain ⟨b1_3, hs39, h⟩ := h
 refine gC0 hs39 (by kernel_rfl) rfl rfl .rfl rfl ?_
 refine gR 4 rfl ?_
 subst h
 refine ab (F' := (mkF 131 0 [(2, .bool b1_3)])) (H' := ⟨0, []⟩) [] [] rfl hK ⟨⟨_, rfl, .rfl⟩, trivial⟩ trivial rfl ?_
 exact ae aa (rs := [.tmp 2]) rfl rfl rfl
theorem gA (m : Nat) (r0_3 : (List Tree)) (r1_2 : (List GVariable)) (i2v1 : Nat) (i2v2 : Nat) (r0 : Bool) (h : ((i2v1 < r1_2.length) → ∃ (t2_1 : Tree), r0_3[i2v2]? = some t2_1 ∧ ∃ (x2_2 : GVariable), r1_2[i2v1]? = some x2_2 ∧ ∃ (t2_3 : Tree), ∃ (b2_4 : Bool), bX t2_1 x2_2.Path t2_3 b2_4 ∧ gX m r0_3 r1_2 t2_3 i2v2 i2v1 r0) ∧ ((¬ i2v1 < r1_2.length) → i2v2 + 1 ≤ 9223372036854775807 ∧ cn m r0_3 (i2v2 + 1) r0)) : bB (m + 1) r0_3 r1_2 i2v1 i2v2 r0 := by
 intro K j1 j2 hK hj1 hj2
 obtain ⟨j1, rfl⟩ : ∃ j, j1 = j + 1 := ⟨j1 - 1, by omega⟩
 obtain ⟨j2, rfl⟩ : ∃ j, j2 = j + 1 := ⟨j2 - 1, by omega⟩
 refine gR 6 rfl ?_
 refine gV 33 (.int .i64 ((r1_2.length : Nat) : Int)) rfl (aW (aq GVariable.w _)) rfl ?_
 refine gLB 32 rfl (aq GVariable.w _) fun hl40 => ?_
 refine gR 3 rfl ?_
 refine gB 34 rfl rfl rfl (fun hd => ?_) (fun hd => ?_)
 replace hd := (cx hd)
 replace h := h.1 hd
 refine gR 6 rfl ?_
 refine gDs [] 14 16 rfl (by kernel_rfl) (by kernel_rfl) ?_
 refine gDr [(0, 2), (1, 2)] (by kernel_rfl) rfl rfl ?_
 obtain ⟨t2_1, hxt2_1, h⟩ := h
 refine gYd 2 rfl (by kernel_rfl) (az (ar hxt2_1) aa rfl rfl rfl rfl) rfl rfl ?_
 refine gDr [(3, 2), (4, 2), (5, 2)] (by kernel_rfl) rfl rfl ?_
 obtain ⟨x2_2, hxx2_2, h⟩ := h
 refine gYd 6 rfl (by kernel_rfl) (az (mapget (f := GVariable.w) hxx2_2) aa rfl rfl rfl rfl) rfl rfl ?_
 refine gDr [(7, 2), (8, 2)] (by kernel_rfl) rfl rfl ?_
 obtain ⟨t2_3, b2_4, hs41, h⟩ := h
 apply e6 (i := 9) (j := 13) (by kernel_rfl) rfl rfl rfl rfl
 exact (eT (L' := []) (by kernel_rfl) rfl rfl (lE hs41 .rfl [] rfl) (.inl rfl))
 exact (ej aa rfl rfl)
 refine gDr [(10, 2), (11, 2), (12, 2), (13, 0), (14, 1), (15, 1)] (by kernel_rfl) rfl rfl ?_
 refine gDe (by kernel_rfl) ?_
 exact gJ (h K _ _ hK (by omega) (by omega)) [0] [] rfl hK ⟨⟨_, rfl, .rfl⟩, ⟨_, rfl, .rfl⟩, ⟨_, rfl, .rfl⟩, ⟨_, rfl, .rfl⟩, ⟨_, rfl, .rfl⟩, trivial⟩ ⟨⟨_, rfl, ⟨rfl, ah.rfl⟩⟩, trivial⟩ rfl
 refine br 9 hs41 (by kernel_rfl) rfl (by kernel_rfl) rfl rfl .rfl rfl rfl ?_
 refine gDr [(10, 0), (11, 2), (12, 2), (14, 1), (15, 1)] (by kernel_rfl) rfl rfl ?_
 refine gDe (by kernel_rfl) ?_
 exact gJ (h K _ _ hK (by omega) (by omega)) [0] [] rfl hK ⟨⟨_, rfl, .rfl⟩, ⟨_, rfl, .rfl⟩, ⟨_, rfl, .rfl⟩, ⟨_, rfl, .rfl⟩, ⟨_, rfl, .rfl⟩, trivial⟩ ⟨⟨_, rfl, ⟨rfl, ah.rfl⟩⟩, trivial⟩ rfl
 replace hd := (cy hd)
 replace h := h.2 hd
 refine gR 3 rfl ?_
 refine ay ?_
 refine gR 5 rfl ?_
 obtain ⟨hb, h⟩ := h
 refine gR 1 rfl ?_
 refine gV 25 (.int .i64 ((i2v2 + 1 : Nat) : Int)) rfl (an (by omega) (by omega)) rfl ?_
 refine gR 2 rfl ?_
 refine ao ?_
 exact gJ (h K _ hK (by omega)) [] [] rfl hK ⟨⟨_, rfl, .rfl⟩, ⟨_, rfl, .rfl⟩, trivial⟩ trivial rfl
theorem lv (m : Nat) (r0_3 : (List Tree)) (r1_2 : (List GVariable)) (t2_3 : Tree) (i3v1 : Nat) (i3v2 : Nat) (r0 : Bool) (h : ∃ (t3_1 : Tree), r0_3[i3v1]? = some t3_1 ∧ ∃ (x3_2 : GVariable), r1_2[i3v2]? = some x3_2 ∧ ∃ (r3_3 : (List (List UInt8))), fH t3_1 x3_2.Path r3_3 ∧ bP m r0_3 r1_2 t2_3 r3_3 false 0 i3v1 i3v2 r0) : gX (m + 1) r0_3 r1_2 t2_3 i3v1 i3v2 r0 := by
 intro K j1 j2 hK hj1 hj2
 obtain ⟨j1, rfl⟩ : ∃ j, j1 = j + 1 := ⟨j1 - 1, by omega⟩
 obtain ⟨j2, rfl⟩ : ∃ j, j2 = j + 1 := ⟨j2 - 1, by omega⟩
 refine gR 2 rfl ?_
 refine gDs [] 11 11 rfl (by kernel_rfl) (by kernel_rfl) ?_
 refine gDr [(0, 2), (1, 2)] (by kernel_rfl) rfl rfl ?_
 obtain ⟨t3_1, hxt3_1, h⟩ := h
 refine gYd 2 rfl (by kernel_rfl) (az (ar hxt3_1) aa rfl rfl rfl rfl) rfl rfl ?_
 refine gDr [(3, 2), (4, 2), (5, 0)] (by kernel_rfl) rfl rfl ?_
 obtain ⟨x3_2, hxx3_2, h⟩ := h
 refine dh 6 rfl (by kernel_rfl) (az (mapget (f := GVariable.w) hxx3_2) aa rfl rfl rfl rfl) rfl rfl ?_
 refine gDr [(7, 0), (8, 0)] (by kernel_rfl) rfl rfl ?_
 obtain ⟨r3_3, hs42, h⟩ := h
 refine gDC 9 hs42 [] (by kernel_rfl) rfl (by kernel_rfl) rfl rfl .rfl trivial (by kernel_rfl) rfl ?_
 rintro _ _ ⟨rfl, rfl⟩
 refine gHR 1 (List.map V.str r3_3) rfl (ai _ V.str (fun _ => rfl) r3_3) rfl ?_
 refine gDr [(10, 0)] (by kernel_rfl) rfl rfl ?_
 refine gDe (by kernel_rfl) ?_
 refine gR 13 rfl ?_
 refine go_loop m ?_
 exact gJ (h K _ _ _ hK (by omega) (by omega) (by omega)) [0, 1] [] rfl hK ⟨⟨_, rfl, .rfl⟩, ⟨_, rfl, .rfl⟩, ⟨_, rfl, .rfl⟩, ⟨_, rfl, .rfl⟩, ⟨_, rfl, .rfl⟩, ⟨_, rfl, .rfl⟩, ⟨_, rfl, .rfl⟩, ⟨_, rfl, .rfl⟩, trivial⟩ ⟨⟨_, rfl, ⟨rfl, rfl, (ai _ V.str (fun _ => rfl) r3_3).symm⟩⟩, ⟨⟨_, rfl, ⟨rfl, ah.rfl⟩⟩, trivial⟩⟩ rfl
theorem gw (m : Nat) (r0_3 : (List Tree)) (r1_2 : (List GVariable)) (t2_3 : Tree) (r3_3 : (List (List UInt8))) (b4v1 : Bool) (i4v2 : Nat) (i4v3 : Nat) (i4v4 : Nat) (r0 : Bool) (h : ((i4v2 < r3_3.length) → ((b4v1 = true) → bP m r0_3 r1_2 t2_3 r3_3 true (i4v2 + 1) i4v3 i4v4 r0) ∧ ((b4v1 = false) → ∃ (s4_1 : (List UInt8)), r3_3[i4v2]? = some s4_1 ∧ bP m r0_3 r1_2 t2_3 r3_3 (s4_1 == t2_3.text) (i4v2 + 1) i4v3 i4v4 r0)) ∧ ((¬ i4v2 < r3_3.length) → ∃ (t4_2 : Tree), r0_3[i4v3]? = some t4_2 ∧ ∃ (x4_3 : GVariable), r1_2[i4v4]? = some x4_3 ∧ ∃ (t4_4 : Tree), ∃ (b4_5 : Bool), bX t4_2 x4_3.Binder t4_4 b4_5 ∧ df m r0_3 r1_2 t2_3 t4_4 b4_5 i4v3 i4v4 b4v1 r0)) : bP (m + 1) r0_3 r1_2 t2_3 r3_3 b4v1 i4v2 i4v3 i4v4 r0 := by
 intro K j1 j2 j3 hK hj1 hj2 hj3
 obtain ⟨j1, rfl⟩ : ∃ j, j1 = j + 1 := ⟨j1 - 1, by omega⟩
 obtain ⟨j2, rfl⟩ : ∃ j, j2 = j + 1 := ⟨j2 - 1, by omega⟩
 obtain ⟨j3, rfl⟩ : ∃ j, j3 = j + 1 := ⟨j3 - 1, by omega⟩
 refine gR 6 rfl ?_
 refine gV 62 (.int .i64 ((r3_3.length : Nat) : Int)) rfl (aW (aq V.str _)) rfl ?_
 refine gLO 1 rfl (aq V.str _) fun hl43 => ?_
 refine gR 3 rfl ?_
 refine gB 63 rfl rfl rfl (fun hd => ?_) (fun hd => ?_)
 replace hd := (cx hd)
 replace h := h.1 hd
 refine gR 5 rfl ?_
 refine gDs [1, 0] 8 11 rfl (by kernel_rfl) (by kernel_rfl) ?_
 refine gDr [(0, 0), (1, 0)] (by kernel_rfl) rfl rfl ?_
 refine gB 67 rfl rfl rfl (fun hd => ?_) (fun hd => ?_)
 refine gT 10 rfl hd rfl ?_
 refine gT 66 rfl hd rfl ?_
 replace h := h.1 hd
 refine gDr [(2, 2), (3, 2), (4, 2), (5, 2), (6, 0), (7, 0), (8, 0), (9, 1), (10, 1)] (by kernel_rfl) rfl rfl ?_
 refine gDe (by kernel_rfl) ?_
 refine gR 5 rfl ?_
 refine gV 65 (.int .i64 ((i4v2 + 1 : Nat) : Int)) rfl (an (by have := hl43; omega) (by omega)) rfl ?_
 refine gR 2 rfl ?_
 refine ao ?_
 exact gJ (h K _ _ _ hK (by omega) (by omega) (by omega)) [0, 1] [] rfl hK ⟨⟨_, rfl, .rfl⟩, ⟨_, rfl, .rfl⟩, ⟨_, rfl, .rfl⟩, ⟨_, rfl, .rfl⟩, ⟨_, rfl, .rfl⟩, ⟨_, rfl, .rfl⟩, ⟨_, rfl, .rfl⟩, ⟨_, rfl, .rfl⟩, trivial⟩ ⟨⟨_, rfl, ⟨rfl, rfl, (ai _ V.str (fun _ => rfl) r3_3).symm⟩⟩, ⟨⟨_, rfl, ⟨rfl, ah.rfl⟩⟩, trivial⟩⟩ rfl
 refine gF 10 rfl hd rfl ?_
 refine gF 66 rfl hd rfl ?_
 replace h := h.2 hd
 refine gDr [(2, 2), (3, 2)] (by kernel_rfl) rfl rfl ?_
 obtain ⟨s4_1, hxs4_1, h⟩ := h
 refine gYd 4 rfl (by kernel_rfl) (yIO aa rfl rfl rfl rfl (by have := (mapget (f := V.str) hxs4_1); exact (List.getElem?_eq_some_iff.1 this).1)) rfl rfl ?_
 refine Bw 5 rfl (by kernel_rfl) rfl aa rfl rfl rfl (mapget (f := V.str) hxs4_1) rfl rfl ?_
 refine gDr [(6, 0), (7, 0), (8, 1), (9, 1), (10, 1)] (by kernel_rfl) rfl rfl ?_
 refine gDe (by kernel_rfl) ?_
 refine gR 5 rfl ?_
 refine gV 65 (.int .i64 ((i4v2 + 1 : Nat) : Int)) rfl (an (by have := hl43; omega) (by omega)) rfl ?_
 refine gR 2 rfl ?_
 refine ao ?_
 exact gJ (h K _ _ _ hK (by omega) (by omega) (by omega)) [0, 1] [] rfl hK ⟨⟨_, rfl, .rfl⟩, ⟨_, rfl, .rfl⟩, ⟨_, rfl, .rfl⟩, ⟨_, rfl, .rfl⟩, ⟨_, rfl, .rfl⟩, ⟨_, rfl, .rfl⟩, ⟨_, rfl, .rfl⟩, ⟨_, rfl, .rfl⟩, trivial⟩ ⟨⟨_, rfl, ⟨rfl, rfl, (ai _ V.str (fun _ => rfl) r3_3).symm⟩⟩, ⟨⟨_, rfl, ⟨rfl, ah.rfl⟩⟩, trivial⟩⟩ rfl
 replace hd := (cy hd)
 replace h := h.2 hd
 refine gR 3 rfl ?_
 refine ay ?_
 refine gR 3 rfl ?_
 refine gDs [] 14 16 rfl (by kernel_rfl) (by kernel_rfl) ?_
 refine gDr [(0, 2), (1, 2)] (by kernel_rfl) rfl rfl ?_
 obtain ⟨t4_2, hxt4_2, h⟩ := h
 refine gYd 2 rfl (by kernel_rfl) (az (ar hxt4_2) aa rfl rfl rfl rfl) rfl rfl ?_
 refine gDr [(3, 2), (4, 2), (5, 2)] (by kernel_rfl) rfl rfl ?_
 obtain ⟨x4_3, hxx4_3, h⟩ := h
 refine gYd 6 rfl (by kernel_rfl) (az (mapget (f := GVariable.w) hxx4_3) aa rfl rfl rfl rfl) rfl rfl ?_
 refine gDr [(7, 2), (8, 2)] (by kernel_rfl) rfl rfl ?_
 obtain ⟨t4_4, b4_5, hs44, h⟩ := h
 apply e6 (i := 9) (j := 13) (by kernel_rfl) rfl rfl rfl rfl
 exact (eT (L' := []) (by kernel_rfl) rfl rfl (lE hs44 .rfl [] rfl) (.inl rfl))
 exact (ej aa rfl rfl)
 refine gDr [(10, 2), (11, 2), (12, 2), (13, 0), (14, 1), (15, 1)] (by kernel_rfl) rfl rfl ?_
 refine gDe (by kernel_rfl) ?_
 exact gJ (h K _ _ hK (by omega) (by omega)) [0, 2] [] rfl hK ⟨⟨_, rfl, .rfl⟩, ⟨_, rfl, .rfl⟩, ⟨_, rfl, .rfl⟩, ⟨_, rfl, .rfl⟩, ⟨_, rfl, .rfl⟩, ⟨_, rfl, .rfl⟩, ⟨_, rfl, .rfl⟩, ⟨_, rfl, .rfl⟩, trivial⟩ ⟨⟨_, rfl, ⟨rfl, ah.rfl⟩⟩, ⟨⟨_, rfl, ⟨rfl, ah.rfl⟩⟩, trivial⟩⟩ rfl
 refine br 9 hs44 (by kernel_rfl) rfl (by kernel_rfl) rfl rfl .rfl rfl rfl ?_
 refine gDr [(10, 0), (11, 2), (12, 2), (14, 1), (15, 1)] (by kernel_rfl) rfl rfl ?_
 refine gDe (by kernel_rfl) ?_
 exact gJ (h K _ _ hK (by omega) (by omega)) [0, 2] [] rfl hK ⟨⟨_, rfl, .rfl⟩, ⟨_, rfl, .rfl⟩, ⟨_, rfl, .rfl⟩, ⟨_, rfl, .rfl⟩, ⟨_, rfl, .rfl⟩, ⟨_, rfl, .rfl⟩, ⟨_, rfl, .rfl⟩, ⟨_, rfl, .rfl⟩, trivial⟩ ⟨⟨_, rfl, ⟨rfl, ah.rfl⟩⟩, ⟨⟨_, rfl, ⟨rfl, ah.rfl⟩⟩, trivial⟩⟩ rfl
theorem lu (m : Nat) (r0_3 : (List Tree)) (r1_2 : (List GVariable)) (t2_3 : Tree) (t4_4 : Tree) (b4_5 : Bool) (i5v1 : Nat) (i5v2 : Nat) (b5v3 : Bool) (r0 : Bool) (h : ((t2_3.kind ≠ 12) → false = r0) ∧ ((t2_3.kind = 12) → ∃ (x5_1 : GVariable), r1_2[i5v2]? = some x5_1 ∧ ((b5v3 = x5_1.Free) → false = r0) ∧ ((b5v3 ≠ x5_1.Free) → ∃ (x5_2 : GVariable), r1_2[i5v2]? = some x5_2 ∧ ((x5_2.Free = false) → ((b4_5 = false) → false = r0) ∧ ((b4_5 = true) → ((t4_4.text ≠ t2_3.text) → false = r0) ∧ ((t4_4.text = t2_3.text) → ((t4_4.kind ≠ 4) → ((t4_4.kind ≠ 20) → false = r0) ∧ ((t4_4.kind = 20) → i5v2 + 1 ≤ 9223372036854775807 ∧ bB m r0_3 r1_2 (i5v2 + 1) i5v1 r0)) ∧ ((t4_4.kind = 4) → i5v2 + 1 ≤ 9223372036854775807 ∧ bB m r0_3 r1_2 (i5v2 + 1) i5v1 r0)))) ∧ ((x5_2.Free = true) → i5v2 + 1 ≤ 9223372036854775807 ∧ bB m r0_3 r1_2 (i5v2 + 1) i5v1 r0)))) : df (m + 1) r0_3 r1_2 t2_3 t4_4 b4_5 i5v1 i5v2 b5v3 r0 := by
 intro K j1 j2 hK hj1 hj2
 obtain ⟨j1, rfl⟩ : ∃ j, j1 = j + 1 := ⟨j1 - 1, by omega⟩
 obtain ⟨j2, rfl⟩ : ∃ j, j2 = j + 1 := ⟨j2 - 1, by omega⟩
 refine gR 7 rfl ?_
 refine gB 92 rfl rfl rfl (fun hd => ?_) (fun hd => ?_)
 refine gT 91 rfl hd rfl ?_
 replace hd := (gU hd)
 replace h := h.1 hd
 refine gR 40 rfl ?_
 refine ab (F' := (mkF 131 0 [])) (H' := ⟨0, []⟩) [] [] rfl hK trivial trivial rfl ?_
 refine gR 8 rfl ?_
 refine aK ?_
 refine gR 3 rfl ?_
 refine aK ?_
 refine gR 2 rfl ?_
 subst h
 refine ab (F' := (mkF 131 0 [(2, .bool false)])) (H' := ⟨0, []⟩) [] [] rfl hK ⟨⟨_, rfl, .rfl⟩, trivial⟩ trivial rfl ?_
 exact ae aa (rs := [.tmp 2]) rfl rfl rfl
 refine gF 91 rfl hd rfl ?_
 replace hd := (eO hd)
 replace h := h.2 hd
 refine gR 3 rfl ?_
 obtain ⟨x5_1, hxx5_1, h⟩ := h
 refine gY (az (mapget (f := GVariable.w) hxx5_1) aa rfl rfl rfl rfl) rfl rfl ?_
 refine gR 5 rfl ?_
 refine gB 101 rfl rfl rfl (fun hd => ?_) (fun hd => ?_)
 refine gT 100 rfl hd rfl ?_
 replace hd := (eq_of_beq hd)
 replace h := h.1 hd
 refine gR 31 rfl ?_
 refine ab (F' := (mkF 131 0 [])) (H' := ⟨0, []⟩) [] [] rfl hK trivial trivial rfl ?_
 refine gR 8 rfl ?_
 refine aK ?_
 refine gR 3 rfl ?_
 refine aK ?_
 refine gR 2 rfl ?_
 subst h
 refine ab (F' := (mkF 131 0 [(2, .bool false)])) (H' := ⟨0, []⟩) [] [] rfl hK ⟨⟨_, rfl, .rfl⟩, trivial⟩ trivial rfl ?_
 exact ae aa (rs := [.tmp 2]) rfl rfl rfl
 refine gF 100 rfl hd rfl ?_
 replace hd := (ne_of_beq_false hd)
 replace h := h.2 hd
 refine gR 2 rfl ?_
 obtain ⟨x5_2, hxx5_2, h⟩ := h
 refine gY (az (mapget (f := GVariable.w) hxx5_2) aa rfl rfl rfl rfl) rfl rfl ?_
 refine gR 4 rfl ?_
 refine gB 108 rfl rfl rfl (fun hd => ?_) (fun hd => ?_)
 refine gT 107 rfl hd rfl ?_
 replace hd := (bZ hd)
 replace h := h.1 hd
 refine gR 3 rfl ?_
 refine gB 111 rfl rfl rfl (fun hd => ?_) (fun hd => ?_)
 refine gT 110 rfl hd rfl ?_
 replace hd := (bZ hd)
 replace h := h.1 hd
 refine gR 21 rfl ?_
 refine ab (F' := (mkF 131 0 [])) (H' := ⟨0, []⟩) [] [] rfl hK trivial trivial rfl ?_
 refine gR 8 rfl ?_
 refine aK ?_
 refine gR 3 rfl ?_
 refine aK ?_
 refine gR 2 rfl ?_
 subst h
 refine ab (F' := (mkF 131 0 [(2, .bool false)])) (H' := ⟨0, []⟩) [] [] rfl hK ⟨⟨_, rfl, .rfl⟩, trivial⟩ trivial rfl ?_
 exact ae aa (rs := [.tmp 2]) rfl rfl rfl
 refine gF 110 rfl hd rfl ?_
 replace hd := (bY hd)
 replace h := h.2 hd
 refine gR 7 rfl ?_
 refine gB 118 rfl rfl rfl (fun hd => ?_) (fun hd => ?_)
 refine gT 117 rfl hd rfl ?_
 replace hd := (gU hd)
 replace h := h.1 hd
 refine gR 14 rfl ?_
 refine ab (F' := (mkF 131 0 [])) (H' := ⟨0, []⟩) [] [] rfl hK trivial trivial rfl ?_
 refine gR 8 rfl ?_
 refine aK ?_
 refine gR 3 rfl ?_
 refine aK ?_
 refine gR 2 rfl ?_
 subst h
 refine ab (F' := (mkF 131 0 [(2, .bool false)])) (H' := ⟨0, []⟩) [] [] rfl hK ⟨⟨_, rfl, .rfl⟩, trivial⟩ trivial rfl ?_
 exact ae aa (rs := [.tmp 2]) rfl rfl rfl
 refine gF 117 rfl hd rfl ?_
 replace hd := (eO hd)
 replace h := h.2 hd
 refine gR 4 rfl ?_
 refine gB 122 rfl rfl rfl (fun hd => ?_) (fun hd => ?_)
 refine gT 121 rfl hd rfl ?_
 replace hd := (gU hd)
 replace h := h.1 hd
 refine gR 9 rfl ?_
 refine gB 129 rfl rfl rfl (fun hd => ?_) (fun hd => ?_)
 replace hd := (gU hd)
 replace h := h.1 hd
 refine gR 1 rfl ?_
 refine ab (F' := (mkF 131 0 [])) (H' := ⟨0, []⟩) [] [] rfl hK trivial trivial rfl ?_
 refine gR 8 rfl ?_
 refine aK ?_
 refine gR 3 rfl ?_
 refine aK ?_
 refine gR 2 rfl ?_
 subst h
 refine ab (F' := (mkF 131 0 [(2, .bool false)])) (H' := ⟨0, []⟩) [] [] rfl hK ⟨⟨_, rfl, .rfl⟩, trivial⟩ trivial rfl ?_
 exact ae aa (rs := [.tmp 2]) rfl rfl rfl
 replace hd := (eO hd)
 replace h := h.2 hd
 refine gR 6 rfl ?_
 obtain ⟨hb, h⟩ := h
 refine gR 1 rfl ?_
 refine gV 36 (.int .i64 ((i5v2 + 1 : Nat) : Int)) rfl (an (by omega) (by omega)) rfl ?_
 refine gR 2 rfl ?_
 refine ao ?_
 exact gJ (h K _ _ hK (by omega) (by omega)) [] [] rfl hK ⟨⟨_, rfl, .rfl⟩, ⟨_, rfl, .rfl⟩, ⟨_, rfl, .rfl⟩, ⟨_, rfl, .rfl⟩, trivial⟩ trivial rfl
 refine gF 121 rfl hd rfl ?_
 replace hd := (eO hd)
 replace h := h.2 hd
 refine gR 15 rfl ?_
 obtain ⟨hb, h⟩ := h
 refine gR 1 rfl ?_
 refine gV 36 (.int .i64 ((i5v2 + 1 : Nat) : Int)) rfl (an (by omega) (by omega)) rfl ?_
 refine gR 2 rfl ?_
 refine ao ?_
 exact gJ (h K _ _ hK (by omega) (by omega)) [] [] rfl hK ⟨⟨_, rfl, .rfl⟩, ⟨_, rfl, .rfl⟩, ⟨_, rfl, .rfl⟩, ⟨_, rfl, .rfl⟩, trivial⟩ trivial rfl
 refine gF 107 rfl hd rfl ?_
 replace hd := (bY hd)
 replace h := h.2 hd
 refine gR 29 rfl ?_
 obtain ⟨hb, h⟩ := h
 refine gR 1 rfl ?_
 refine gV 36 (.int .i64 ((i5v2 + 1 : Nat) : Int)) rfl (an (by omega) (by omega)) rfl ?_
 refine gR 2 rfl ?_
 refine ao ?_
 exact gJ (h K _ _ hK (by omega) (by omega)) [] [] rfl hK ⟨⟨_, rfl, .rfl⟩, ⟨_, rfl, .rfl⟩, ⟨_, rfl, .rfl⟩, ⟨_, rfl, .rfl⟩, trivial⟩ trivial rfl
end Go.Proofs.YteglbnopdedadaaGreat
namespace Go.Proofs.YteglbnopdedadaaGreat
open Go.RowKit Lx Sx
set_option maxRecDepth 100000
def oS (t : Tree) (q : List Int) (w : List UInt8) : List Int × Bool := if cp t = true then cd ((arP t q).map (bb t)) w else ([], false)
theorem Ab (t : Tree) (q : List Int) (w : List UInt8) (ht : tbulk t ≤ 10000000) (hq : q.length ≤ 10000000) : dB t q w (oS t q w).1 (oS t q w).2 := by
  by_cases hf : cp t = true
  · rw [oS, if_pos hf]
    exact sH t q w hf (by omega) (by omega) fun y hy => Nat.le_trans (ln (n := 10000000) hq (by omega) y hy) (by omega)
  · rw [oS, if_neg hf]
    exact jN 0 _ _ _ _ _ ⟨_, mZ t (by omega), fun h => ⟨rfl, rfl⟩, fun h => absurd h hf⟩
theorem AR (t : Tree) (q : List Int) (w : List UInt8) (ht : tbulk t ≤ 10000000) (hq : q.length ≤ 10000000) : gi t q w (oS t q w).1 (oS t q w).2 := by
  by_cases hf : cp t = true
  · rw [oS, if_pos hf, ← rN hf q]
    have hk := cv t
    have e := rN hf q
    have hlen : (auL t t [] [] q).1.length ≤ q.length + t.kids.length := by
      have := congrArg List.length e
      simp only [List.length_reverse, List.length_map] at this
      rw [this]; exact qK t q
    refine rn t q w hf (by omega) (by omega) (by omega) fun b hb => ?_
    have : b ∈ (arP t q).map (bb t) := by rw [← e]; exact List.mem_reverse.2 hb
    obtain ⟨y, hy, rfl⟩ := List.mem_map.1 this
    have := ln (t := t) (n := 10000000) hq (by omega) y hy
    simp only [bb]; omega
  · rw [oS, if_neg hf]
    exact mo 0 _ _ _ _ _ ⟨_, qd t (by omega), fun h => ⟨rfl, rfl⟩, fun h => absurd h hf⟩
theorem zE (aw : bI true) (l : List Int) : ik l true := by
  refine Classical.byCases (fun h : ((l.length : Nat) : Int) ≤ 120 => ?_) (fun h => g7 0 _ _ ⟨_, lJ l, fun _ => ⟨_, aw, rfl⟩, fun h' => absurd (of_decide_eq_true h') h⟩)
  obtain ⟨fs, h1, h2, hfs⟩ := mG l (by omega)
  have loop : ∀ (k i : Nat), fs.length - i ≤ k → ∃ m, cm m fs i true := fun k => by
    have fin : ∀ i, ¬ i < fs.length → ∃ m, cm m fs i true := fun i hi => ⟨1, gy 0 _ _ _ ⟨fun h => absurd h hi, fun _ => ⟨_, aw, rfl⟩⟩⟩
    induction k with
    | zero => intro i hi; exact fin i (by omega)
    | succ k ih =>
      intro i hi
      obtain ⟨f, hf, hlt⟩ | h' := aE fs i
      rotate_left
      · exact fin i h'
      · have hb := h2 f (List.mem_of_getElem? hf)
        obtain ⟨m0, hm0⟩ := ih (i + 1) (by omega)
        have hP := uv f (by omega)
        have hbd : ∀ x ∈ paths (nodK f []), x.length ≤ 1000000 := fun x hx => by
          obtain ⟨y, hy, rfl⟩ := List.mem_map.1 hx
          have := nodK_bnd f [] y hy; simp only [List.length_nil] at this; omega
        have hPl : (paths (nodK f [])).length ≤ 1000000 := by
          have := nodK_len f []; unfold paths; rw [List.length_map]; omega
        obtain ⟨P, hPe⟩ : ∃ P, P = paths (nodK f []) := ⟨_, rfl⟩
        rw [← hPe] at hP hbd hPl
        have inner : ∀ (k j : Nat), P.length - j ≤ k → ∃ m, ck m fs P i j true := fun k => by
          have fin1 : ∀ j, ¬ j < P.length → ∃ m, ck m fs P i j true := fun j hj => ⟨m0 + 1, gz m0 _ _ _ _ _ ⟨fun h => absurd h hj, fun _ => ⟨by omega, hm0⟩⟩⟩
          induction k with
          | zero => intro j hj; exact fin1 j (by omega)
          | succ k ihk =>
            intro j hj
            obtain ⟨x, hx, hlx⟩ | h' := aE P j
            rotate_left
            · exact fin1 j h'
            · have hxl := hbd x (List.mem_of_getElem? hx)
              obtain ⟨m, hm⟩ := ihk (j + 1) (by omega)
              have z3 : bQ (m + 1) fs P 3 i j true := rL2_semvcslaw05_ScopePlaces m _ _ _ _ _ _ ⟨fun h => absurd h (by decide), fun _ => ⟨by omega, hm⟩⟩
              have step : ∀ (m n : Nat) (s : List UInt8), n < 3 → ([[120], [121], [122]] : List (List UInt8))[n]? = some s → bQ m fs P (n + 1) i j true → bQ (m + 1) fs P n i j true := fun m n s hn hs hnx =>
                rL2_semvcslaw05_ScopePlaces m _ _ _ _ _ _ ⟨fun _ => ⟨f, hf, x, hx, s, hs, _, _, AR f x s (by omega) (by omega), f, hf, x, hx, s, hs, _, _, Ab f x s (by omega) (by omega), fun h => absurd rfl h, fun _ => ⟨_, kE _, fun h => (by cases h), fun _ => ⟨by omega, hnx⟩⟩⟩, fun h => by omega⟩
              have z0 := step _ 0 _ (by decide) rfl (step _ 1 _ (by decide) rfl (step _ 2 _ (by decide) rfl z3))
              exact ⟨_, gz _ _ _ _ _ _ ⟨fun _ => ⟨f, hf, x, hx, f, hf, x, hx, _, nE f x (by omega) (by omega), _, uF f x (by omega) (by omega), _, tT _, fun h => (by cases h), fun _ => z0⟩, fun h => absurd hlx h⟩⟩
        obtain ⟨m, hm⟩ := inner P.length 0 (by omega)
        exact ⟨m + 1, gy m _ _ _ ⟨fun _ => ⟨f, hf, P, hP, hm⟩, fun h => absurd hlt h⟩⟩
  obtain ⟨m, hm⟩ := loop fs.length 0 (by omega)
  exact g7 m _ _ ⟨_, lJ l, fun h' => absurd h (of_decide_eq_false h'), fun _ => ⟨fs, h1, hm⟩⟩
theorem th {t : Tree} {x : GVariable} : ∀ {a : List (List Int × Tree)}, x ∈ eQ t a → ∃ y ∈ a, y.2.kind = 12 ∧ x = ⟨y.1, (cd ((arP t y.1).map (bb t)) y.2.text).1, !(cd ((arP t y.1).map (bb t)) y.2.text).2⟩
  | [], h => by simp [eQ] at h
  | y :: r, h => by
    simp only [eQ, List.mem_append] at h
    rcases h with h | h
    · split at h
      · simp only [List.mem_singleton] at h
        exact ⟨y, by simp, by assumption, h⟩
      · simp at h
    · obtain ⟨z, h1, h2⟩ := th h
      exact ⟨z, by simp [h1], h2⟩
theorem r4 {w : List UInt8} : ∀ {l : List GScopeBinder}, (cd l w).2 = true ↔ w ∈ l.map (·.name)
  | [] => by simp [cd]
  | b :: r => by
    simp only [cd, List.map_cons, List.mem_cons]
    split
    · rename_i h; simp [h]
    · rename_i h
      rw [r4 (l := r)]
      constructor
      · exact .inr
      · rintro (h1 | h1)
        · exact absurd h1.symm h
        · exact h1
theorem sQ {w : List UInt8} : ∀ {l : List GScopeBinder}, (cd l w).2 = true → ∃ b ∈ l, b.name = w ∧ (cd l w).1 = b.path
  | [], h => by simp [cd] at h
  | b :: r, h => by
    simp only [cd] at h ⊢
    split
    · rename_i h1; exact ⟨b, by simp, h1, rfl⟩
    · rename_i h1
      rw [if_neg h1] at h
      obtain ⟨c, h2, h3⟩ := sQ h
      exact ⟨c, by simp [h2], h3⟩
theorem zi {t : Tree} (hf : cp t = true) {q x : List Int} (h : x ∈ arP t q) : ∃ u, atK t x = some u ∧ (u.kind = 4 ∨ u.kind = 20) := by
  have hl : ∀ k, ∀ x ∈ dD t q k, ∃ u, atK t x = some u ∧ (u.kind = 4 ∨ u.kind = 20) := fun k => by
    induction k with
    | zero => intro x hx; simp [dD] at hx
    | succ k ih =>
      intro x hx
      simp only [dD, List.mem_append] at hx
      rcases hx with hx | hx
      · split at hx
        · rename_i hc
          simp only [List.mem_singleton] at hx
          subst hx
          have h20 := hc.1
          unfold atD at h20
          cases hat : atK t (q.take k) with
          | none => rw [hat] at h20; simp [zT0, Tree.kind] at h20
          | some u => rw [hat] at h20; exact ⟨u, rfl, .inr h20⟩
        · simp at hx
      · exact ih x hx
  unfold arP at h
  split at h
  · simp at h
  · split at h
    · simp at h
    · split at h
      · rw [List.mem_append] at h
        rcases h with h | h
        · exact hl _ x h
        · simp only [jH, List.mem_map, List.mem_range] at h
          obtain ⟨i, hi, rfl⟩ := h
          obtain ⟨w, hw, _⟩ | h' := aE t.kids i
          · refine ⟨w, j5 hw, .inl ?_⟩
            simp only [cp, Bool.and_eq_true, beq_iff_eq] at hf
            have hs := hf.2
            rw [eS, hf.1] at hs
            simp only [Bool.and_eq_true] at hs
            obtain ⟨g1, g2⟩ := hI hs.2 hw
            rw [Nat.zero_add] at g1
            simp only [gO] at g1
            rw [if_neg (by omega), if_pos trivial, if_neg (by omega), if_neg (by omega)] at g1
            simpa using g1
          · omega
      · simp at h
theorem yo {t : Tree} {x : GVariable} (h : x ∈ iu t) : cp t = true ∧ ∃ u, atK t x.Path = some u ∧ u.kind = 12 ∧ x.Path.length ≤ tbulk t ∧ x.Binder = (cd ((arP t x.Path).map (bb t)) u.text).1 ∧ x.Free = !(cd ((arP t x.Path).map (bb t)) u.text).2 := by
  unfold iu at h
  split at h
  · rename_i hf
    obtain ⟨y, h1, h2, rfl⟩ := th h
    refine ⟨hf, y.2, nodK_at t t [] rfl y h1, h2, ?_, rfl, rfl⟩
    have := nodK_bnd t [] y h1; simp only [List.length_nil] at this; simp only; omega
  · simp at h
theorem wF (t : Tree) : (iu t).length ≤ tbulk t := by
  unfold iu
  split
  · have := r8 t (nodK t []); have := nodK_len t []; omega
  · simp
theorem zD (aw : bI true) (l : List Int) : iy l true := by
  refine Classical.byCases (fun h : ((l.length : Nat) : Int) ≤ 120 => ?_) (fun h => gZ 0 _ _ ⟨_, lJ l, fun _ => ⟨_, aw, rfl⟩, fun h' => absurd (of_decide_eq_true h') h⟩)
  obtain ⟨fs, h1, h2, hfs⟩ := mG l (by omega)
  have loop : ∀ (k i : Nat), fs.length - i ≤ k → ∃ m, cn m fs i true := fun k => by
    have fin : ∀ i, ¬ i < fs.length → ∃ m, cn m fs i true := fun i hi => ⟨1, gx 0 _ _ _ ⟨fun h => absurd h hi, fun _ => ⟨_, aw, rfl⟩⟩⟩
    induction k with
    | zero => intro i hi; exact fin i (by omega)
    | succ k ih =>
      intro i hi
      obtain ⟨f, hf, hlt⟩ | h' := aE fs i
      rotate_left
      · exact fin i h'
      · have hb := h2 f (List.mem_of_getElem? hf)
        obtain ⟨m0, hm0⟩ := ih (i + 1) (by omega)
        have hV := lK f (by omega)
        have hmem := fun x (hx : x ∈ iu f) => yo hx
        have hVl := wF f
        obtain ⟨V, hVe⟩ : ∃ V, V = iu f := ⟨_, rfl⟩
        rw [← hVe] at hV hmem hVl
        have inner : ∀ (k j : Nat), V.length - j ≤ k → ∃ m, bB m fs V j i true := fun k => by
          have fin1 : ∀ j, ¬ j < V.length → ∃ m, bB m fs V j i true := fun j hj => ⟨m0 + 1, gA m0 _ _ _ _ _ ⟨fun h => absurd h hj, fun _ => ⟨by omega, hm0⟩⟩⟩
          induction k with
          | zero => intro j hj; exact fin1 j (by omega)
          | succ k ihk =>
            intro j hj
            obtain ⟨x, hx, hlx⟩ | h' := aE V j
            rotate_left
            · exact fin1 j h'
            · obtain ⟨hfi, u, hu, hu12, hpl, hbi, hfr⟩ := hmem x (List.mem_of_getElem? hx)
              obtain ⟨m, hm⟩ := ihk (j + 1) (by omega)
              have hA := sC f x.Path (by omega)
              rw [hu] at hA
              have hsee : u.text ∈ lP f x.Path ↔ (cd ((arP f x.Path).map (bb f)) u.text).2 = true := by
                rw [r4, lP, if_pos hfi, nA]; simp
              have hvis := nE f x.Path (by omega) (by omega)
              obtain ⟨sn, hsn⟩ : ∃ sn, sn = lP f x.Path := ⟨_, rfl⟩
              rw [← hsn] at hvis hsee
              obtain ⟨fd, hfd⟩ : ∃ fd, fd = (cd ((arP f x.Path).map (bb f)) u.text).2 := ⟨_, rfl⟩
              rw [← hfd] at hsee hfr
              have hBl : x.Binder.length ≤ 1000000000 := by
                rw [hbi]
                refine sB _ _ fun b hb => ?_
                obtain ⟨y, hy, rfl⟩ := List.mem_map.1 hb
                have := ln (t := f) (q := x.Path) (n := 10000000) (by omega) (by omega) y hy
                simp only [bb]; omega
              have hAb := sC f x.Binder hBl
              have z4 : df (m + 1) fs V u ((atK f x.Binder).getD (.node 0 [] [] [])) (atK f x.Binder).isSome i j (decide (u.text ∈ sn)) true := by
                refine lu m _ _ _ _ _ _ _ _ _ ⟨fun h => absurd hu12 h, fun _ => ⟨x, hx, fun h => ?_, fun _ => ⟨x, hx, fun h => ?_, fun _ => ⟨by omega, hm⟩⟩⟩⟩
                · rw [hfr] at h
                  cases fd with
                  | true => rw [decide_eq_true (hsee.2 rfl)] at h; cases h
                  | false => rw [decide_eq_false (fun hc => by have := hsee.1 hc; cases this)] at h; cases h
                · rw [h] at hfr
                  have hfd1 : fd = true := by cases fd <;> simp at hfr ⊢
                  obtain ⟨b, hb1, hb2, hb3⟩ := sQ (hfd.symm.trans hfd1)
                  obtain ⟨y, hy, rfl⟩ := List.mem_map.1 hb1
                  obtain ⟨v, hv, hvk⟩ := zi hfi hy
                  have hxb : x.Binder = y := by rw [hbi, hb3]; rfl
                  have hvt : v.text = u.text := by
                    have : (bb f y).name = v.text := by unfold bb atD; rw [hv]; rfl
                    rw [← this]; exact hb2
                  rw [hxb, hv]
                  refine ⟨fun h => (by cases h), fun _ => ⟨fun h => absurd hvt h, fun _ => ⟨fun h4 => ⟨fun h20 => ?_, fun _ => ⟨by omega, hm⟩⟩, fun _ => ⟨by omega, hm⟩⟩⟩⟩
                  rcases hvk with hk | hk
                  · exact absurd hk h4
                  · exact absurd hk h20
              have z3 : ∀ (k n : Nat) (b : Bool), sn.length - n = k → (b || decide (u.text ∈ sn.drop n)) = decide (u.text ∈ sn) → bP (m + 1 + k + 1) fs V u sn b n i j true := fun k => by
                have fin3 : ∀ (m' n : Nat) (b : Bool), ¬ n < sn.length → (b || decide (u.text ∈ sn.drop n)) = decide (u.text ∈ sn) → df m' fs V u ((atK f x.Binder).getD (.node 0 [] [] [])) (atK f x.Binder).isSome i j (decide (u.text ∈ sn)) true → bP (m' + 1) fs V u sn b n i j true := fun m' n b hn hb hz => by
                  refine gw m' _ _ _ _ _ _ _ _ _ ⟨fun h => absurd h hn, fun _ => ⟨f, hf, x, hx, _, _, hAb, ?_⟩⟩
                  rw [List.drop_of_length_le (by omega)] at hb
                  have : b = decide (u.text ∈ sn) := by simpa using hb
                  rw [this]; exact hz
                induction k with
                | zero => intro n b hn hb; exact fin3 _ n b (by omega) hb z4
                | succ k ih3 =>
                  intro n b hn hb
                  obtain ⟨s, hs, hls⟩ | h' := aE sn n
                  · refine gw _ _ _ _ _ _ _ _ _ _ ⟨fun _ => ⟨fun hbt => ?_, fun hbf => ⟨s, hs, ?_⟩⟩, fun h => absurd hls h⟩
                    · subst hbt
                      exact ih3 (n + 1) true (by omega) (by rw [← hb]; simp)
                    · subst hbf
                      refine ih3 (n + 1) _ (by omega) ?_
                      rw [← hb, ci hs]
                      by_cases he : s = u.text
                      · simp [he]
                      · have : ¬ u.text = s := fun h => he h.symm
                        simp [he, this]
                  · omega
              have z0 := z3 sn.length 0 false (by omega) (by simp)
              exact ⟨_, gA _ _ _ _ _ _ ⟨fun _ => ⟨f, hf, x, hx, _, _, hA, lv _ _ _ _ _ _ _ ⟨f, hf, x, hx, sn, hvis, z0⟩⟩, fun h => absurd hlx h⟩⟩
        obtain ⟨m, hm⟩ := inner V.length 0 (by omega)
        exact ⟨m + 1, gx m _ _ _ ⟨fun _ => ⟨f, hf, V, hV, hm⟩, fun h => absurd hlt h⟩⟩
  obtain ⟨m, hm⟩ := loop fs.length 0 (by omega)
  exact gZ m _ _ ⟨_, lJ l, fun h' => absurd h (of_decide_eq_false h'), fun _ => ⟨fs, h1, hm⟩⟩
end Go.Proofs.YteglbnopdedadaaGreat
