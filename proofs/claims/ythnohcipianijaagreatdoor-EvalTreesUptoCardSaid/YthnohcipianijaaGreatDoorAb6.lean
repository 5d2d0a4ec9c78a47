/- Contracts of the functions that the law reaches, part 6. -/
import Derived.Test.YthnohcipianijaaGreatDoorAb5
set_option linter.unusedVariables false
set_option linter.unusedSimpArgs false
namespace Go.Proofs.YthnohcipianijaaGreatDoor
open Go.RowKit Lx Sx
set_option maxRecDepth 100000
set_option maxHeartbeats 1100000
theorem tv : oJ gK (sn vz 5000 27 [.str yV]) = true := by kernel_rfl
theorem lr : kbulk [gK] ≤ 1100000 := by decide +kernel
theorem Ao : (bh [gK] 0 0 [dI 2] 100).2 = (25, 0) ∧ sameD (bh [gK] 0 0 [dI 2] 100).1 (dI 3) = true ∧ cb (bh [gK] 0 0 [dI 2] 100).1 = true := by decide +kernel
theorem BA : (bh [gK] 0 0 [dI 2] 5).2 = (5, 21) := by decide +kernel
theorem yc : hO true := by
 obtain ⟨a1, a2, a3⟩ := Ao
 have a4 := BA
 have r1 := rT lr 0 0 [dI 2] (by simp) 100
 have r2 := rT lr 0 0 [dI 2] (by simp) 5
 have hw := um lr 0 0 [dI 2] 100
 have hn := qg (bh [gK] 0 0 [dI 2] 100).1
 revert a1 a2 a3 a4 r1 r2 hw hn
 generalize bh [gK] 0 0 [dI 2] 100 = x
 generalize bh [gK] 0 0 [dI 2] 5 = y
 obtain ⟨x1, x2, x3⟩ := x
 obtain ⟨y1, y2, y3⟩ := y
 intro a1 a2 a3 a4 r1 r2 hw hn
 simp only [Prod.mk.injEq] at a1 a2 a3 a4 r1 r2 hw hn
 obtain ⟨rfl, rfl⟩ := a1
 obtain ⟨rfl, rfl⟩ := a4
 refine lG 5 _ ⟨gK, 0, 0, uo tv, _, kJ 2, _, _, _, r1, lc 4 _ _ _ _ _ _ ⟨_, kJ 2, _, _, _, r2, lg 3 _ _ _ _ _ _ _ ⟨fun _ => ⟨fun _ => ⟨fun _ => ⟨_, kJ 3, _, nK x1 (by omega) _, fun _ => ⟨fun _ => ⟨fun _ => ⟨_, qw x1, a3⟩, fun h => absurd rfl h⟩, fun h => absurd rfl h⟩, fun h => by rw [a2] at h; cases h⟩, fun h => absurd rfl h⟩, fun h => absurd rfl h⟩, fun h => absurd rfl h⟩⟩⟩
theorem aw9 : aK true := yc
theorem Cw (d : GDatum) (hd : mD d ≤ 1000000000000000) : gG d true := by
 refine lb 0 _ _ ⟨_, oM d, fun _ => ⟨_, aw9, rfl⟩, fun _ => ⟨_, aw9, fun _ => ⟨_, qw d, _, sg d hd, fun _ => ⟨_, pD d, _, ly d hd, by simp⟩, fun h => absurd rfl h⟩, fun h => by cases h⟩⟩
theorem BJ (a b : GDatum) : gl a b true := by
 refine kY 0 _ _ _ ⟨_, oM a, fun _ => ⟨_, aw9, rfl⟩, fun ha => ⟨_, oM b, fun _ => ⟨_, aw9, rfl⟩, fun _ => ⟨_, aw9, fun _ => ?_, fun h => by cases h⟩⟩⟩
 have ha' : nD a < 3000 := of_decide_eq_true ha
 exact ⟨_, nK a (by omega) b, _, qv a (by omega) b, fun _ => ⟨_, nK a (by omega) a, mT a⟩, fun h => absurd rfl h⟩
end Go.Proofs.YthnohcipianijaaGreatDoor
namespace Go.Proofs.YthnohcipianijaaGreatDoor
open Go.RowKit Lx Sx
abbrev fI (W : World) : Nat → Prop := fun b => b < W.heap.size
theorem RowIn.live {W : World} {sz n : Nat} {A : Option Addr} {xs : List Value} (h : RowIn Any W sz A n xs) : RowIn (fI W) W sz A n xs := ⟨h.1, fun hp => by
 obtain ⟨b, off, h1, _, h3, h4⟩ := h.2 hp
 exact ⟨b, off, h1, h3, h3, h4⟩⟩
mutual
theorem TreeIs.live {W : World} : ∀ {t : Tree} {c : List Value}, TreeIs Any W t c → TreeIs (fI W) W t c
 | .node k s ls ks, c, h => by
  simp only [TreeIs] at h ⊢
  obtain ⟨A, m, B, n, h1, h2, h3, h4, h5, h6, cs, h7, h8⟩ := h
  exact ⟨A, m, B, n, h1, h2, h3, h4, h5, h6.live, cs, KidsAre.live h7, h8.live⟩
theorem KidsAre.live {W : World} : ∀ {ts : List Tree} {cs : List Value}, KidsAre Any W ts cs → KidsAre (fI W) W ts cs
 | [], cs, h => by simp only [KidsAre] at h ⊢; exact h
 | t :: r, cs, h => by
  simp only [KidsAre] at h ⊢
  obtain ⟨c, d, h1, h2, h3⟩ := h
  exact ⟨c, d, h1, TreeIs.live h2, KidsAre.live h3⟩
end
abbrev VLive (W : World) (v : V) (x : Value) : Prop := VRel (fI W) W (fun _ => none) v x
theorem CV {W : World} {ts : List Tree} {cs : List Value} {A : Option Addr} {cap : Nat} (h : KidsAre Any W ts cs) (hr : RowIn Any W 4 A ts.length cs) (hc : ts.length ≤ cap) (hm : cap ≤ maxLen) : VLive W (.row 4 (kidsV ts)) (.slice A ts.length cap) := by
 simp only [VLive, VRel]
 exact ⟨A, cap, cs, by rw [fb], by rw [fb]; exact hc, hm, KidsAre.crel h.live, by rw [fb]; exact hr.live⟩
theorem Db {W : World} (z : Int) : VLive W (.int .i64 z) (.int .i64 z) := by simp only [VLive, VRel]
theorem Da {fid : FuncId} {us : List V} {b : Bool} (h : lN Tryz.prog fid us (.bool b)) {W : World} {xs : List Value} (hx : LRel (fI W) W (fun _ => none) us xs) : Calls Tryz.prog fid xs.toArray W fun e W' => e = .returned (.bool b) ∧ Ext W W' := by
 have h0 := yR W
 have hr' : HRel (fI W) W (fun _ => none) (⟨0, []⟩ : Hp).get := ⟨h0.ob, fun i b hb => by rw [lR] at hb; exact hb.elim, fun i j b hb _ => by rw [lR] at hb; exact hb.elim, fun _ h => h⟩
 refine (h.2.2 _ W _ xs hr' hx).mono ?_
 rintro e W' ⟨x, S', ρ', v, H', rfl, rfl, h1, h2, h3⟩
 simp only [VRel] at h3
 subst h3
 have hno : ∀ b, ¬ ∃ id, own (fun _ => none) id ((⟨0, []⟩ : Hp).get id) b := fun b ⟨id, hb⟩ => by rw [lR] at hb; exact hb
 exact ⟨rfl, Chg.ext ⟨h2.chg.os, h2.chg.tape, h2.chg.output, h2.chg.size, fun b hb _ => h2.chg.block b hb (hno b)⟩⟩
theorem lr1 {W : World} {u : V} {x : Value} (h : VLive W u x) : LRel (fI W) W (fun _ => none) [u] [x] := ⟨x, [], rfl, h, rfl⟩
theorem lrc {W : World} {u : V} {us : List V} {x : Value} {xs : List Value} (h : VLive W u x) (k : LRel (fI W) W (fun _ => none) us xs) : LRel (fI W) W (fun _ => none) (u :: us) (x :: xs) := ⟨x, xs, rfl, h, k⟩
end Go.Proofs.YthnohcipianijaaGreatDoor
namespace Go.Proofs.YthnohcipianijaaGreatDoor
open Go.RowKit Lx Sx Go.ChangeShapes Go.WideShapes Go.Deep Go.Joins
instance : Inhabited Tree := ⟨fp⟩
theorem mL : Tryz.prog.cellsOf 35 = 4 := by kernel_rfl
theorem qZ : Tryz.prog.cellsOf 3 = 1 := by kernel_rfl
theorem nN : Tryz.prog.cellsOf 9 = 1 := by kernel_rfl
theorem yn : Tryz.prog.cellsOf 33 = 1 := by kernel_rfl
theorem yx : Tryz.prog.cellsOf 31 = 1 := by kernel_rfl
theorem nO {α : Type} {l : List α} (h : l.length = 4) : ∃ a b c d, l = [a, b, c, d] := by
 match l, h with
 | [a, b, c, d], _ => exact ⟨a, b, c, d, rfl⟩
theorem ou {α : Type} {c : Nat → List α} : ∀ (l : List Nat) (i r : Nat), (∀ j ∈ l, (c j).length = 4) → r < 4 → (l.flatMap c)[i * 4 + r]? = (l[i]?).bind fun j => (c j)[r]?
 | [], i, r, _, _ => by simp
 | j :: l, 0, r, h, hr => by
  have := h j (by simp)
  rw [List.flatMap_cons, List.getElem?_append_left (by omega)]; simp
 | j :: l, i + 1, r, h, hr => by
  have h4 := h j (by simp)
  rw [List.flatMap_cons, List.getElem?_append_right (by omega), show (i + 1) * 4 + r - (c j).length = i * 4 + r by omega, ou l i r (fun q hq => h q (by simp [hq])) hr]; simp
theorem yj {v a b c d : Value} (h : v.cells = #[a, b, c, d]) : v = .agg #[a, b, c, d] := by
 cases v <;> simp_all [Value.cells]
section
variable {H : Type} {enc : TypeId × Value → H} {W : World}
theorem jK (b off k : Nat) : (⟨b, off, none⟩ : Addr).add k = ⟨b, off + k, none⟩ := by unfold Addr.add; split <;> simp_all
theorem nR {g : Nat → Tree} {D : Nat → DataW H} : ∀ (l : List Nat), (∀ i ∈ l, tbulk (g i) ≤ Rows.uptoBulk (D i)) → kbulk (l.map g) ≤ Rows.uptoBulkAll (l.map D)
 | [], _ => by simp [kbulk, Rows.uptoBulkAll]
 | i :: l, h => by
  have := nR l (fun j hj => h j (by simp [hj]))
  have := h i (by simp)
  simp only [List.map_cons, kbulk, Rows.uptoBulkAll]; omega
theorem rV {g : Nat → List UInt8} {D : Nat → DataW H} : ∀ (l : List Nat), (∀ i ∈ l, D i = .lit (.string (g i))) → lsum (l.map g) ≤ Rows.uptoBulkAll (l.map D)
 | [], _ => by simp [lsum, Rows.uptoBulkAll]
 | i :: l, h => by
  have := rV l (fun j hj => h j (by simp [hj]))
  have := h i (by simp)
  simp only [List.map_cons, lsum, Rows.uptoBulkAll, this, Rows.uptoBulk]; omega
theorem kB {g : Nat → Tree} {c : Nat → List Value} : ∀ (l : List Nat), (∀ i ∈ l, TreeIs Any W (g i) (c i)) → KidsAre Any W (l.map g) (l.flatMap c)
 | [], _ => rfl
 | i :: l, h => by
  simp only [List.map_cons, List.flatMap_cons, KidsAre]
  exact ⟨c i, l.flatMap c, rfl, h i (by simp), kB l (fun j hj => h j (by simp [hj]))⟩
theorem zZ {n : Nat} {v : Value} {x : DataW H × List MemPlace} (h : DataW.trod enc Tryz.prog W 0 (fun _ => true) true n 33 [v] = some x) :
  ∃ (ls : List (List UInt8)) (A : Option Addr) (m : Nat), v = .slice A ls.length m ∧ ls.length ≤ m ∧ m ≤ maxLen ∧ RowIn Any W 1 A ls.length (ls.map iA) ∧ lsum ls ≤ Rows.uptoBulk x.1 := by
 rcases open_slice Tryz.underlying33 h with ⟨hcs, hx⟩ | ⟨a, len, cap, m, n', D, Pl, hcs, hb, hl, hm, hmm, hx, hi⟩
 ·simp only [List.cons.injEq, and_true] at hcs
  exact ⟨[], none, 0, hcs, Nat.le_refl _, by simp [maxLen], RowIn.none_, by simp [lsum]⟩
 ·simp only [List.cons.injEq, and_true] at hcs
  simp only [if_true] at hmm
  subst hmm hcs
  rw [nN] at hi
  obtain ⟨T, hT⟩ := choose_lt (α := List UInt8) (p := fun i t => W.cell? (a.add i) = some (iA t) ∧ D i = .lit (.string t)) (n := m) (fun i him => by
   obtain ⟨cs', hc, ht⟩ := hi i him
   obtain ⟨s, e1, f1, _⟩ := DataW.trod_string Tryz.underlying9 ht
   subst e1
   refine ⟨s.data.toList, ?_, by have := congrArg Prod.fst f1; simpa using this⟩
   have := (World.cells?_some hc).2.2 0 (by omega)
   simpa [Addr.add] using this)
  refine ⟨(List.range len).map T, some a, m, by simp, by simpa using hl, hm, ⟨by simp, fun h0 => ?_⟩, ?_⟩
  ·simp only [List.length_map, List.length_range] at h0 ⊢
   have hs : a.spot = none := World.cell?_spot (a := a) (by have := (hT 0 (by omega)).1; simpa [Addr.add] using this)
   obtain ⟨b, off, spot⟩ := a
   simp only at hs
   subst hs
   refine ⟨b, off, rfl, trivial, ?_, fun j hj => ?_⟩
   ·have := (hT 0 (by omega)).1
    exact World.block_lt_of_cell? W ⟨b, off, none⟩ (by simpa [Addr.add] using this)
   ·have := (hT j (by omega)).1
    rw [jK] at this
    rw [this]; simp [show j < len by omega]
  ·rw [hx]
   have := rV (g := T) (D := D) (List.range len) (fun i hi' => (hT i (by have := List.mem_range.1 hi'; omega)).2)
   simp only [Rows.uptoBulk]; omega
theorem uz : ∀ (q n : Nat) (cs : List Value) (x : DataW H × List MemPlace), Rows.uptoBulk x.1 ≤ q → DataW.trod enc Tryz.prog W 0 (fun _ => true) true n 35 cs = some x → ∃ t, TreeIs Any W t cs ∧ tbulk t ≤ Rows.uptoBulk x.1
 | q, n, cs, x, hq, h => by
  obtain ⟨y0, y1, y2, y3, n', hx, hl, h0, h1, h2, h3⟩ := trod_struct4 Tryz.underlying35 h
  rw [mL] at hl
  obtain ⟨v0, v1, v2, v3, rfl⟩ := nO hl
  simp only [qZ, nN, yn, yx, List.drop_zero, List.drop_succ_cons, List.take_succ_cons, List.take_zero] at h0 h1 h2 h3
  obtain ⟨k, e0, f0, _⟩ := DataW.trod_int Tryz.underlying3 h0
  obtain ⟨s1, e1, f1, _⟩ := DataW.trod_string Tryz.underlying9 h1
  obtain ⟨ls, A, m, e2, l1, l2, l3, l4⟩ := zZ h2
  simp only [List.cons.injEq, and_true] at e0 e1
  have hbk : Rows.uptoBulk x.1 = Rows.uptoBulk y0.1 + (Rows.uptoBulk y1.1 + (Rows.uptoBulk y2.1 + (Rows.uptoBulk y3.1 + 0))) + 1 := by rw [hx]; simp only [Rows.uptoBulk, Rows.uptoBulkAll]
  have hs1 : Rows.uptoBulk y1.1 = s1.data.toList.length + 1 := by
   have : y1.1 = .lit (.string s1.data.toList) := by rw [f1]
   rw [this]; rfl
  have go : ∃ (ks : List Tree) (B : Option Addr) (c : Nat) (cells : List Value), v3 = .slice B ks.length c ∧ ks.length ≤ c ∧ c ≤ maxLen ∧ KidsAre Any W ks cells ∧ RowIn Any W 4 B ks.length cells ∧ kbulk ks ≤ Rows.uptoBulk y3.1 := by
   rcases open_slice Tryz.underlying31 h3 with ⟨hcs, hx3⟩ | ⟨a, len, cap, m3, n3, D, Pl, hcs, hb, hl3, hm3, hmm, hx3, hi⟩
   ·simp only [List.cons.injEq, and_true] at hcs
    exact ⟨[], none, 0, [], hcs, Nat.le_refl _, by simp [maxLen], rfl, RowIn.none_, by simp [kbulk]⟩
   ·simp only [List.cons.injEq, and_true] at hcs
    simp only [if_true] at hmm
    subst hmm hcs
    rw [mL] at hi
    have hall : Rows.uptoBulk y3.1 = Rows.uptoBulkAll ((List.range len).map D) + Rows.uptoBulkAll ((List.range (m3 - len)).map fun j => D (len + j)) + 1 := by rw [hx3]; simp only [Rows.uptoBulk]
    have hle : ∀ (l : List Nat) i, i ∈ l → Rows.uptoBulk (D i) ≤ Rows.uptoBulkAll (l.map D) := by
     intro l i hi'
     induction l with
     | nil => cases hi'
     | cons j r ih =>
      simp only [List.map_cons, Rows.uptoBulkAll]
      rcases List.mem_cons.1 hi' with e | e
      ·subst e; omega
      ·have := ih e; omega
    obtain ⟨T, hT⟩ := choose_lt (α := Tree × List Value) (p := fun i t => i < len → W.cells? 0 (a.add (i * 4)) 4 = some t.2 ∧ TreeIs Any W t.1 t.2 ∧ tbulk t.1 ≤ Rows.uptoBulk (D i)) (n := m3) (fun i him => by
     by_cases hil : i < len
     ·obtain ⟨cs', hc, ht⟩ := hi i him
      have hb1 := hle (List.range len) i (by simp [hil])
      obtain ⟨t, g1, g2⟩ := uz (q - 1) n3 cs' (D i, Pl i) (by simp only; omega) ht
      exact ⟨(t, cs'), fun _ => ⟨hc, g1, g2⟩⟩
     ·exact ⟨(fp, []), fun h => absurd h hil⟩)
    have hTl : ∀ i, i ∈ List.range len → W.cells? 0 (a.add (i * 4)) 4 = some (T i).2 ∧ TreeIs Any W (T i).1 (T i).2 ∧ tbulk (T i).1 ≤ Rows.uptoBulk (D i) := fun i hi' => by
     have := List.mem_range.1 hi'
     exact hT i (by omega) this
    refine ⟨(List.range len).map fun i => (T i).1, some a, m3, (List.range len).flatMap fun i => (T i).2, by simp, by simpa using hl3, hm3, kB _ (fun i hi' => (hTl i hi').2.1), ⟨?_, fun h0 => ?_⟩, ?_⟩
    ·have := (kB (W := W) (g := fun i => (T i).1) (c := fun i => (T i).2) (List.range len) (fun i hi' => (hTl i hi').2.1)).length
     rw [this]
    ·simp only [List.length_map, List.length_range] at h0 ⊢
     have hcell : ∀ i, i < len → ∀ r, r < 4 → W.cell? ((a.add (i * 4)).add r) = (T i).2[r]? := fun i hi' r hr => by
      have h4 := (hTl i (by simp [hi'])).2.1.four
      have := (World.cells?_some (hTl i (by simp [hi'])).1).2.2 r (by omega)
      rw [this]
     have hsome : ∃ v, W.cell? a = some v := by
      have h4 := (hTl 0 (by simp [h0])).2.1.four
      have := hcell 0 h0 0 (by omega)
      refine ⟨(T 0).2[0]'(by omega), ?_⟩
      rw [List.getElem?_eq_getElem (by omega)] at this
      simpa [Addr.add] using this
     obtain ⟨vv, hvv⟩ := hsome
     have hs : a.spot = none := World.cell?_spot (a := a) hvv
     obtain ⟨b, off, spot⟩ := a
     simp only at hs
     subst hs
     refine ⟨b, off, rfl, trivial, World.block_lt_of_cell? W ⟨b, off, none⟩ hvv, fun j hj => ?_⟩
     have e := hcell (j / 4) (by omega) (j % 4) (by omega)
     rw [jK, jK, show off + j / 4 * 4 + j % 4 = off + j by omega] at e
     have e2 := ou (c := fun i => (T i).2) (List.range len) (j / 4) (j % 4) (fun i hi' => (hTl i hi').2.1.four) (by omega)
     rw [show j / 4 * 4 + j % 4 = j by omega] at e2
     rw [e, e2]; simp [show j / 4 < len by omega]
    ·have := nR (g := fun i => (T i).1) (D := D) (List.range len) (fun i hi' => (hTl i hi').2.2)
     omega
  obtain ⟨ks, B, c, cells, e3, k1, k2, k3, k4, k5⟩ := go
  refine ⟨.node k s1.data.toList ls ks, ?_, ?_⟩
  ·subst e0 e1 e2 e3
   simp only [TreeIs]
   exact ⟨A, m, B, c, by simp, l1, l2, k1, k2, l3, cells, k3, k4⟩
  ·simp only [tbulk]
   omega
 termination_by q => q
 decreasing_by omega
end
end Go.Proofs.YthnohcipianijaaGreatDoor
namespace Go.Proofs.YthnohcipianijaaGreatDoor
open Go.RowKit Go.ChangeShapes Go.WideShapes Go.Deep Go.Joins
open Lx Sx
instance : Inhabited GDatum := ⟨GD0⟩
theorem se : Tryz.prog.cellsOf 24 = 4 := by kernel_rfl
theorem xT : Tryz.prog.cellsOf 2 = 1 := by kernel_rfl
theorem yq : Tryz.prog.cellsOf 22 = 1 := by kernel_rfl
theorem uJ {B : Nat} : ∀ l : List GDatum, (∀ d, d ∈ l → mD d ≤ B) → mDs l ≤ B
 | [], _ => by simp [mDs]
 | a :: r, h => by
  have := h a (by simp)
  have := uJ r fun x hx => h x (by simp [hx])
  simp only [mDs]; omega
section
variable {H : Type} {enc : TypeId × Value → H} {W : World}
theorem oS {T : TypeId} {y : DataW H} {n : Nat} (hn : n ∈ y.weights Tryz.prog T) : ∀ {l : List (DataW H)}, y ∈ l → n ∈ DataW.weightsAll Tryz.prog T l
 | z :: r, h => by
  simp only [DataW.weightsAll, List.mem_append]
  rcases List.mem_cons.1 h with rfl | h
  ·exact .inl hn
  ·exact .inr (oS hn h)
theorem sN {y : DataW H} : ∀ {l : List (DataW H)}, y ∈ l → Rows.uptoBulk y ≤ Rows.uptoBulkAll l
 | z :: r, h => by
  simp only [Rows.uptoBulkAll]
  rcases List.mem_cons.1 h with rfl | h
  ·omega
  ·have := sN h; omega
def rJ (W : World) (y : DataW H) (d : GDatum) (cs : List Value) : Prop := (LRel (fI W) W ρ0 (GDatum.c d) cs ∧ cs.length = 4 ∧ cs.all (·.oneCell') = true) ∧ ∀ B, (∀ k, k ∈ y.weights Tryz.prog 24 → k ≤ B) → mD d ≤ B
theorem sy {g : Nat → GDatum} {c : Nat → List Value} : ∀ (l : List Nat), (∀ i, i ∈ l → LRel (fI W) W ρ0 (GDatum.c (g i)) (c i) ∧ (c i).length = 4 ∧ (c i).all (·.oneCell') = true) → CRel (fI W) W ρ0 4 (GDatum.vs (l.map g)) (l.flatMap c)
 | [], _ => by simp [CRel, GDatum.vs]
 | i :: l, h => by
  obtain ⟨h1, h2, h3⟩ := h i (by simp)
  simp only [List.map_cons, List.flatMap_cons, GDatum.vs, CRel]
  refine ⟨.agg (c i).toArray, _, by simp [Value.cells], ⟨by simp [Value.cells, h2], by simpa [Value.cells] using h3⟩, ?_, sy l fun j hj => h j (by simp [hj])⟩
  rw [GDatum.v_eq]
  simp only [VRel]
  exact ⟨_, rfl, h1⟩
theorem tR {n : Nat} {v : Value} {x : DataW H × List MemPlace} (h : DataW.trod enc Tryz.prog W 0 (fun _ => true) true n 22 [v] = some x) (ih : ∀ n cs (y : DataW H × List MemPlace), Rows.uptoBulk y.1 < Rows.uptoBulk x.1 → DataW.trod enc Tryz.prog W 0 (fun _ => true) true n 24 cs = some y → ∃ d, rJ W y.1 d cs) :
  ∃ ks, VRel (fI W) W ρ0 (.row 4 (GDatum.vs ks)) v ∧ v.oneCell' = true ∧ ∀ B, (∀ k, k ∈ x.1.weights Tryz.prog 22 → k ≤ B) → mDs ks ≤ B := by
 rcases open_slice Tryz.underlying22 h with ⟨hcs, hx3⟩ | ⟨a, len, cap, m3, n3, D, Pl, hcs, hb, hl3, hm3, hmm, hx3, hi⟩
 ·simp only [List.cons.injEq, and_true] at hcs
  subst hcs
  refine ⟨[], ?_, rfl, fun B _ => by simp [mDs]⟩
  simp only [VRel]
  exact ⟨none, 0, [], rfl, Nat.le_refl _, by simp [maxLen], by simp [CRel, GDatum.vs], RowIn.none_⟩
 ·simp only [List.cons.injEq, and_true] at hcs
  simp only [if_true] at hmm
  subst hmm hcs
  rw [se] at hi
  have hall : Rows.uptoBulk x.1 = Rows.uptoBulkAll ((List.range len).map D) + Rows.uptoBulkAll ((List.range (m3 - len)).map fun j => D (len + j)) + 1 := by
   rw [hx3]; simp only [Rows.uptoBulk]
  obtain ⟨T, hT⟩ := choose_lt (α := GDatum × List Value) (p := fun i t => i < len → W.cells? 0 (a.add (i * 4)) 4 = some t.2 ∧ rJ W (D i) t.1 t.2) (n := m3) (fun i him => by
   by_cases hil : i < len
   ·obtain ⟨cs', hc, ht⟩ := hi i him
    have hb1 : Rows.uptoBulk (D i) ≤ Rows.uptoBulkAll ((List.range len).map D) := sN (List.mem_map.2 ⟨i, by simp [hil], rfl⟩)
    obtain ⟨d, g1⟩ := ih n3 cs' (D i, Pl i) (by simp only; omega) ht
    exact ⟨(d, cs'), fun _ => ⟨hc, g1⟩⟩
   ·exact ⟨(GD0, []), fun h => absurd h hil⟩)
  have hTl : ∀ i, i ∈ List.range len → W.cells? 0 (a.add (i * 4)) 4 = some (T i).2 ∧ rJ W (D i) (T i).1 (T i).2 := fun i hi' => by
   have := List.mem_range.1 hi'
   exact hT i (by omega) this
  have hrow : RowIn (fI W) W 4 (some a) len ((List.range len).flatMap fun i => (T i).2) := by
   refine ⟨?_, fun h0 => ?_⟩
   ·have e : ∀ l : List Nat, (∀ i, i ∈ l → (T i).2.length = 4) → (l.flatMap fun i => (T i).2).length = l.length * 4 := by
     intro l
     induction l with
     | nil => simp
     | cons i r ihr =>
      intro hh
      have := hh i (by simp)
      have := ihr fun j hj => hh j (by simp [hj])
      simp only [List.flatMap_cons, List.length_append, List.length_cons]; omega
    rw [e _ fun i hi' => (hTl i hi').2.1.2.1]; simp
   ·have hcell : ∀ i, i < len → ∀ r, r < 4 → W.cell? ((a.add (i * 4)).add r) = (T i).2[r]? := fun i hi' r hr => by
     have h4 := (hTl i (by simp [hi'])).2.1.2.1
     have := (World.cells?_some (hTl i (by simp [hi'])).1).2.2 r (by omega)
     rw [this]
    have hsome : ∃ v, W.cell? a = some v := by
     have h4 := (hTl 0 (by simp [h0])).2.1.2.1
     have := hcell 0 h0 0 (by omega)
     refine ⟨(T 0).2[0]'(by omega), ?_⟩
     rw [List.getElem?_eq_getElem (by omega)] at this
     simpa [Addr.add] using this
    obtain ⟨vv, hvv⟩ := hsome
    have hs : a.spot = none := World.cell?_spot (a := a) hvv
    obtain ⟨b, off, spot⟩ := a
    simp only at hs
    subst hs
    refine ⟨b, off, rfl, World.block_lt_of_cell? W ⟨b, off, none⟩ hvv, World.block_lt_of_cell? W ⟨b, off, none⟩ hvv, fun j hj => ?_⟩
    have e := hcell (j / 4) (by omega) (j % 4) (by omega)
    rw [jK, jK, show off + j / 4 * 4 + j % 4 = off + j by omega] at e
    have e2 := ou (c := fun i => (T i).2) (List.range len) (j / 4) (j % 4) (fun i hi' => (hTl i hi').2.1.2.1) (by omega)
    rw [show j / 4 * 4 + j % 4 = j by omega] at e2
    rw [e, e2]; simp [show j / 4 < len by omega]
  refine ⟨(List.range len).map fun i => (T i).1, ?_, rfl, fun B hB => ?_⟩
  ·simp only [VRel]
   refine ⟨some a, m3, (List.range len).flatMap fun i => (T i).2, ?_, ?_, hm3, sy _ fun i hi' => (hTl i hi').2.1, ?_⟩
   ·rw [GDatum.vlen]; simp
   ·rw [GDatum.vlen]; simpa using hl3
   ·rw [GDatum.vlen]; simpa using hrow
  ·refine uJ _ fun d hd => ?_
   obtain ⟨i, hi', rfl⟩ := List.mem_map.1 hd
   refine (hTl i hi').2.2 B fun k hk => hB k ?_
   rw [hx3]
   simp only [DataW.weights, Tryz.underlying22, List.mem_cons, List.mem_append]
   exact .inr (.inl (oS hk (List.mem_map.2 ⟨i, hi', rfl⟩)))
theorem tw : ∀ (q n : Nat) (cs : List Value) (x : DataW H × List MemPlace), Rows.uptoBulk x.1 ≤ q → DataW.trod enc Tryz.prog W 0 (fun _ => true) true n 24 cs = some x → ∃ d, rJ W x.1 d cs
 | q, n, cs, x, hq, h => by
  obtain ⟨y0, y1, y2, y3, n', hx, hl, h0, h1, h2, h3⟩ := trod_struct4 Tryz.underlying24 h
  rw [se] at hl
  obtain ⟨v0, v1, v2, v3, rfl⟩ := nO hl
  simp only [qZ, nN, xT, yq, List.drop_zero, List.drop_succ_cons, List.take_succ_cons, List.take_zero] at h0 h1 h2 h3
  obtain ⟨k, e0, f0, _⟩ := DataW.trod_int Tryz.underlying3 h0
  obtain ⟨j, e1, f1, _⟩ := DataW.trod_int Tryz.underlying2 h1
  obtain ⟨s, e2, f2, _⟩ := DataW.trod_string Tryz.underlying9 h2
  simp only [List.cons.injEq, and_true] at e0 e1 e2
  have hbk : Rows.uptoBulk x.1 = Rows.uptoBulk y0.1 + (Rows.uptoBulk y1.1 + (Rows.uptoBulk y2.1 + (Rows.uptoBulk y3.1 + 0))) + 1 := by rw [hx]; simp only [Rows.uptoBulk, Rows.uptoBulkAll]
  obtain ⟨ks, g1, g2, g3⟩ := tR h3 fun n cs y hy hc => tw (q - 1) n cs y (by omega) hc
  have hs : y2.1 = .lit (.string s.data.toList) := by rw [f2]
  refine ⟨⟨k, j, s.data.toList, ks⟩, ⟨?_, rfl, ?_⟩, fun B hB => ?_⟩
  ·subst e0 e1 e2
   simp only [GDatum.c, LRel]
   exact ⟨_, _, rfl, by simp only [VRel], _, _, rfl, by simp only [VRel], _, _, rfl, by simp only [VRel], _, _, rfl, g1, rfl⟩
  ·subst e0 e1 e2
   simp only [List.all_cons, List.all_nil, g2, Bool.and_true]; rfl
  ·have hw : ∀ k, k ∈ y2.1.weights Tryz.prog 9 ∨ k ∈ y3.1.weights Tryz.prog 22 → k ≤ B := fun k hk => hB k (by
    rw [hx]
    simp only [DataW.weights, Tryz.underlying24, List.map_cons, List.map_nil, DataW.weightsEach, List.mem_append, List.toList_toArray]
    rcases hk with hk | hk
    ·exact .inr (.inr (.inl hk))
    ·exact .inr (.inr (.inr (.inl hk))))
   rw [vt]
   have a1 : s.data.toList.length ≤ B := hw _ (.inl (by rw [hs]; simp [DataW.weights]))
   have a2 := g3 B fun k hk => hw k (.inr hk)
   show max s.data.toList.length (mDs ks) ≤ B
   omega
 termination_by q => q
 decreasing_by omega
theorem CD {v : Value} {d : DataW H} {p : List MemPlace} (h : DataW.Trod enc Tryz.prog W 0 (fun _ => true) true 22 v d p) (hv : v.cells.toList = [v]) : ∃ ks, VLive W (.row 4 (GDatum.vs ks)) v ∧ ∀ B, (∀ k, k ∈ d.weights Tryz.prog 22 → k ≤ B) → mDs ks ≤ B := by
 obtain ⟨fuel, h3⟩ := h
 rw [hv] at h3
 obtain ⟨ks, g1, _, g3⟩ := tR h3 fun n cs y hy hc => tw _ n cs y (Nat.le_refl _) hc
 exact ⟨ks, g1, g3⟩
theorem CJ {v : Value} {d : DataW H} {p : List MemPlace} (h : DataW.Trod enc Tryz.prog W 0 (fun _ => true) true 24 v d p) : ∃ t, VLive W (GDatum.w t) v ∧ ∀ B, (∀ k, k ∈ d.weights Tryz.prog 24 → k ≤ B) → mD t ≤ B := by
 obtain ⟨fuel, h3⟩ := h
 obtain ⟨t, g1, g3⟩ := tw _ fuel _ _ (Nat.le_refl _) h3
 obtain ⟨c0, c1, c2, c3, e⟩ := nO g1.2.1
 have e' : v = .agg #[c0, c1, c2, c3] := yj (by apply Array.ext'; simpa using e)
 subst e'
 refine ⟨t, ?_, g3⟩
 simp only [VLive, VRel]
 exact ⟨_, rfl, g1.1⟩
theorem CE {ts : List TypeId} {ds : List (DataW H)} (h : (DataW.weightsEach Tryz.prog ts ds).all (· ≤ reachBytes) = true) {j : Nat} {t : TypeId} {d : DataW H} (ht : ts[j]? = some t) (hd : ds[j]? = some d) : ∀ k, k ∈ d.weights Tryz.prog t → k ≤ reachBytes := fun k hk => by
 have := List.all_eq_true.1 h _ (DataW.weights_mem_each ht hd k hk)
 simpa using this
end
end Go.Proofs.YthnohcipianijaaGreatDoor
namespace Go.Proofs.YthnohcipianijaaGreatDoor
def sO (cs : Array Value) : Obj → Obj
 | .cells _ t frozen => .cells cs t frozen
 | o => o
noncomputable def Bq : Nat := (World.holding Tryz.prog default ⟨#[], #[], []⟩).heap.size
noncomputable def wz (os : Os) : World :=
 let w0 := World.holding Tryz.prog os ⟨#[.cells #[.string ⟨#[105, 110, 118, 97, 108, 105, 100, 32, 115, 121, 110, 116, 97, 120]⟩] 242, .cells #[.string ⟨#[118, 97, 108, 117, 101, 32, 111, 117, 116, 32, 111, 102, 32, 114, 97, 110, 103, 101]⟩] 242], #[], []⟩
 { w0 with heap := ((((w0.heap.modify 3 (sO #[.iface 240 (.pointer (some ⟨Bq, 0, none⟩))])).modify 4 (sO #[.iface 240 (.pointer (some ⟨Bq + 1, 0, none⟩))])).modify 6 (sO #[.int .u64 1, .int .u64 10, .int .u64 100, .int .u64 1000, .int .u64 10000, .int .u64 100000, .int .u64 1000000, .int .u64 10000000, .int .u64 100000000, .int .u64 1000000000, .int .u64 10000000000, .int .u64 100000000000, .int .u64 1000000000000, .int .u64 10000000000000, .int .u64 100000000000000, .int .u64 1000000000000000, .int .u64 10000000000000000, .int .u64 100000000000000000, .int .u64 1000000000000000000, .int .u64 10000000000000000000])).modify 7 (sO #[.int .u8 0, .int .u8 1, .int .u8 28, .int .u8 2, .int .u8 29, .int .u8 14, .int .u8 24, .int .u8 3, .int .u8 30, .int .u8 22, .int .u8 20, .int .u8 15, .int .u8 25, .int .u8 17, .int .u8 4, .int .u8 8, .int .u8 31, .int .u8 27, .int .u8 13, .int .u8 23, .int .u8 21, .int .u8 19, .int .u8 16, .int .u8 7, .int .u8 26, .int .u8 12, .int .u8 18, .int .u8 6, .int .u8 11, .int .u8 5, .int .u8 10, .int .u8 9])).modify 8 (sO #[.int .u8 0, .int .u8 1, .int .u8 56, .int .u8 2, .int .u8 57, .int .u8 49, .int .u8 28, .int .u8 3, .int .u8 61, .int .u8 58, .int .u8 42, .int .u8 50, .int .u8 38, .int .u8 29, .int .u8 17, .int .u8 4, .int .u8 62, .int .u8 47, .int .u8 59, .int .u8 36, .int .u8 45, .int .u8 43, .int .u8 51, .int .u8 22, .int .u8 53, .int .u8 39, .int .u8 33, .int .u8 30, .int .u8 24, .int .u8 18, .int .u8 12, .int .u8 5, .int .u8 63, .int .u8 55, .int .u8 48, .int .u8 27, .int .u8 60, .int .u8 41, .int .u8 37, .int .u8 16, .int .u8 46, .int .u8 35, .int .u8 44, .int .u8 21, .int .u8 52, .int .u8 32, .int .u8 23, .int .u8 11, .int .u8 54, .int .u8 26, .int .u8 40, .int .u8 15, .int .u8 34, .int .u8 20, .int .u8 31, .int .u8 10, .int .u8 25, .int .u8 14, .int .u8 19, .int .u8 9, .int .u8 13, .int .u8 8, .int .u8 7, .int .u8 6]) }
theorem CZ (os : Os) (args : Array Value) : laidMet Tryz.prog Rows.evalDataRow.laid ((wz os).forCall (fun _ _ => 0) ⟨#[], args, []⟩).memory :=
 laidMet_of_run' 8 (by kernel_rfl) (by kernel_rfl)
end Go.Proofs.YthnohcipianijaaGreatDoor
namespace Go.Proofs.YthnohcipianijaaGreatDoor
open Go.RowKit Lx Sx
set_option maxHeartbeats 1000000
def Dc (L : List Int) (a : Int) : Prop := 0 ≤ a ∧ a ≤ L.length ∧ L.length ≤ 1000000000
theorem Cu {a n : Int} (hn : 0 < n) (hn2 : n ≤ 1000000000) : ∃ r, hI a n r ∧ 0 ≤ r ∧ r < n := by
 have h1 := Int.lt_tmod_of_pos a hn
 have h2 := Int.tmod_lt_of_pos a hn
 by_cases h : Int.tmod a n < 0
 ·exact ⟨_, km 0 _ _ _ ⟨by omega, fun _ => ⟨by omega, rfl⟩, fun h' => absurd h h'⟩, by omega, by omega⟩
 ·exact ⟨_, km 0 _ _ _ ⟨by omega, fun h' => absurd h' h, fun _ => rfl⟩, by omega, by omega⟩
def Gt (L : List Int) (C : Tree → Int → Prop) (B : Nat) : Prop := ∃ t a', C t a' ∧ Dc L a' ∧ tbulk t ≤ B
theorem Gt.map {L : List Int} {C C' : Tree → Int → Prop} {B B' : Nat} (h : Gt L C B) (hb : B ≤ B') (k : ∀ t a', C t a' → C' t a') : Gt L C' B' := by
 obtain ⟨t, a', h1, h2, h3⟩ := h; exact ⟨t, a', k t a' h1, h2, by omega⟩
section
variable {L : List Int} {d a z : Int} {t : Tree} {a' : Int} {m : Nat}
end
end Go.Proofs.YthnohcipianijaaGreatDoor
namespace Go.Proofs.YthnohcipianijaaGreatDoor
open Go.RowKit Lx Sx
set_option maxRecDepth 100000
set_option maxHeartbeats 1000000
abbrev P9 : List Tree := [gK]
def bIf : Tree := am (bD P9 0 0) 2
def bLt : Tree := am bIf 0
def bZ : Tree := am bIf 1
def lH : Tree := am bIf 2
def bN1 : Tree := am bLt 0
def qK : Tree := am bLt 1
def bN2 : Tree := am lH 0
def ei : Tree := am lH 1
def vI : Tree := am ei 0
def lO : Tree := am vI 0
def bN3 : Tree := am lO 0
def oL : Tree := am lO 1
theorem vR {t : Tree} (h : t.kids.length = 2) : t.kids = [am t 0, am t 1] := by
 unfold am
 match hk : t.kids, h with
 | [a, b], _ => rfl
theorem Ck {t : Tree} (h : t.kids.length = 1) : t.kids = [am t 0] := by
 unfold am
 match hk : t.kids, h with
 | [a], _ => rfl
theorem k9 : bIf.kind = 19 ∧ bLt.kind = 21 ∧ bZ.kind = 10 ∧ lH.kind = 21 ∧ bN1.kind = 12 ∧ qK.kind = 10 ∧ bN2.kind = 12 ∧ ei.kind = 16 ∧ vI.kind = 17 ∧ lO.kind = 21 ∧ bN3.kind = 12 ∧ oL.kind = 10 := by decide +kernel
theorem t9 : bLt.text = [60] ∧ iy bZ.text 0 = 0 ∧ lH.text = [43] ∧ bN1.text = [110] ∧ iy qK.text 0 = 1 ∧ bN2.text = [110] ∧ lO.text = [45] ∧ bN3.text = [110] ∧ iy oL.text 0 = 1 := by decide +kernel
theorem l9 : bLt.kids.length = 2 ∧ lH.kids.length = 2 ∧ ei.kids.length = 1 ∧ lO.kids.length = 2 ∧ (bD P9 0 0).kids.length = 3 ∧ (am (bD P9 0 0) 0).text = [110] := by decide +kernel
theorem Ci : az P9 0 ei.text = (0, 0, true) := by decide +kernel
theorem Bm (d : GDatum) : bu (bD P9 0 0).kids [d] = [([110], d)] := by
 obtain ⟨_, _, _, _, h, ht⟩ := l9
 unfold am at ht
 match hk : (bD P9 0 0).kids, h with
 | [a, b, c], _ =>
  rw [hk] at ht
  have ht' : a.text = [110] := ht
  simp [bu, ht']
def s9 : Nat → Int
 | 0 => 0
 | k + 1 => ((k + 1 : Nat) : Int) + s9 k
theorem sU : ∀ k : Nat, k ≤ 1000 → 0 ≤ s9 k ∧ s9 k ≤ 1000 * k
 | 0, _ => by simp [s9]
 | k + 1, h => by have := sU k (by omega); simp only [s9]; omega
theorem wu : ∀ k : Nat, s9 k * 2 = (k : Int) * ((k : Int) + 1)
 | 0 => by simp [s9]
 | k + 1 => by
  have h := wu k
  have e : ((k + 1 : Nat) : Int) * (((k + 1 : Nat) : Int) + 1) = (k : Int) * ((k : Int) + 1) + 2 * ((k : Int) + 1) := by
   rw [show ((k + 1 : Nat) : Int) = (k : Int) + 1 by omega]
   simp only [Int.mul_add, Int.add_mul, Int.mul_one, Int.one_mul]; omega
  rw [e, ← h, s9, Int.add_mul]; omega
theorem lt9 (k : Int) : aV [60] (dI k) (dI 1) = (dB (decide (k < 1)), 0) := by
 rw [aV, if_neg (by decide), if_neg (fun h => absurd h.1 (by decide)), if_neg (fun h => h ⟨rfl, rfl⟩), if_neg (by decide), if_neg (by decide), if_neg (by decide)]; rfl
theorem CU {k : Int} (h : 0 ≤ k ∧ k ≤ 1000) : aV [45] (dI k) (dI 1) = (dI (k - 1), 0) := by
 have : IntKind.i64.wrap (k - 1) = k - 1 := IntWalk.i64_in _ (by omega)
 simp [aV, dI, this]
theorem CK {k l : Int} (h : 0 ≤ k ∧ k ≤ 1000) (hl : 0 ≤ l ∧ l ≤ 1000000) : aV [43] (dI k) (dI l) = (dI (k + l), 0) := by
 have : IntKind.i64.wrap (k + l) = k + l := IntWalk.i64_in _ (by omega)
 simp [aV, dI, this]
theorem vr (d : GDatum) : eI [([110], d)] [110] = some d := by simp [eI]
theorem yT (k : Int) (q g : Nat) : evG P9 (g + 2) 0 bLt [([110], dI k)] (q + 3) = (dB (decide (k < 1)), 0, q) := by
 obtain ⟨k1, k2, k3, k4, k5, k6, k7, k8, k9', k10, k11, k12⟩ := k9
 obtain ⟨t1, t2, t3, t4, t5, t6, t7, t8, t9'⟩ := t9
 have a1 : ba bN1 = bN1 := by rw [ba, if_neg (by omega)]
 have a2 : ba qK = qK := by rw [ba, if_neg (by omega)]
 rw [nb (t := bLt) k2, vR l9.1]
 change (match evL (fun k_1 r => evG P9 (g + 1) 0 k_1 [([110], dI k)] r) [bN1, qK] (q + 2) with | (l, e, r') => if e = 0 then ((aV bLt.text (l.getD 0 GD0) (l.getD 1 GD0)).1, (aV bLt.text (l.getD 0 GD0) (l.getD 1 GD0)).2, r') else (GD0, e, r')) = _
 simp only [evL, a1, a2, nk (t := bN1) k5, mM (t := qK) k6, t4, t5, vr, t1, if_true, List.getD_cons_zero, List.getD_cons_succ, lt9]
theorem CG {k : Int} (h : 0 ≤ k ∧ k ≤ 1000) (q g : Nat) : evG P9 (g + 2) 0 lO [([110], dI k)] (q + 3) = (dI (k - 1), 0, q) := by
 obtain ⟨k1, k2, k3, k4, k5, k6, k7, k8, k9', k10, k11, k12⟩ := k9
 obtain ⟨t1, t2, t3, t4, t5, t6, t7, t8, t9'⟩ := t9
 have a1 : ba bN3 = bN3 := by rw [ba, if_neg (by omega)]
 have a2 : ba oL = oL := by rw [ba, if_neg (by omega)]
 rw [nb (t := lO) k10, vR l9.2.2.2.1]
 change (match evL (fun k_1 r => evG P9 (g + 1) 0 k_1 [([110], dI k)] r) [bN3, oL] (q + 2) with | (l, e, r') => if e = 0 then ((aV lO.text (l.getD 0 GD0) (l.getD 1 GD0)).1, (aV lO.text (l.getD 0 GD0) (l.getD 1 GD0)).2, r') else (GD0, e, r')) = _
 simp only [evL, a1, a2, nk (t := bN3) k11, mM (t := oL) k12, t8, t9', vr, t7, if_true, List.getD_cons_zero, List.getD_cons_succ, CU h]
theorem CT : ∀ (k q g : Nat), k ≤ 1000 → 10 * k + 6 ≤ g → evG P9 g 0 bIf [([110], dI k)] (10 * k + 5 + q) = (dI (s9 k), 0, q) := fun k => by
 obtain ⟨k1, k2, k3, k4, k5, k6, k7, k8, k9', k10, k11, k12⟩ := k9
 obtain ⟨t1, t2, t3, t4, t5, t6, t7, t8, t9'⟩ := t9
 induction k with
 | zero =>
  intro q g _ hg
  obtain ⟨g, rfl⟩ : ∃ x, g = x + 3 := ⟨g - 3, by omega⟩
  rw [show 10 * 0 + 5 + q = (q + 1 + 3) + 1 by omega, oz (t := bIf) k1]
  change (match evG P9 (g + 2) 0 bLt [([110], dI ((0 : Nat) : Int))] (q + 1 + 3) with | (d, e, r') => if e = 0 then (if d.Kind = 3 then (if d.N = 1 then evG P9 (g + 2) 0 bZ [([110], dI ((0 : Nat) : Int))] r' else evG P9 (g + 2) 0 lH [([110], dI ((0 : Nat) : Int))] r') else (GD0, 20, r')) else (GD0, e, r')) = _
  rw [yT]
  have e : dB (decide (((0 : Nat) : Int) < 1)) = ⟨3, 1, [], []⟩ := by rw [decide_eq_true (by omega)]; rfl
  rw [e]
  simp only [if_true]
  rw [mM (t := bZ) k3, t2]; rfl
 | succ k ih =>
  intro q g hk hg
  obtain ⟨g, rfl⟩ : ∃ x, g = x + 5 := ⟨g - 5, by omega⟩
  have hb := sU k (by omega)
  rw [show 10 * (k + 1) + 5 + q = (10 * k + 11 + q + 3) + 1 by omega, oz (t := bIf) k1]
  change (match evG P9 (g + 2 + 2) 0 bLt [([110], dI ((k + 1 : Nat) : Int))] (10 * k + 11 + q + 3) with | (d, e, r') => if e = 0 then (if d.Kind = 3 then (if d.N = 1 then evG P9 (g + 4) 0 bZ [([110], dI ((k + 1 : Nat) : Int))] r' else evG P9 (g + 4) 0 lH [([110], dI ((k + 1 : Nat) : Int))] r') else (GD0, 20, r')) else (GD0, e, r')) = _
  rw [yT]
  have e : dB (decide (((k + 1 : Nat) : Int) < 1)) = ⟨3, 0, [], []⟩ := by rw [decide_eq_false (by omega)]; rfl
  rw [e]
  simp only [if_true]
  rw [if_neg (by decide), show 10 * k + 11 + q = (10 * k + 10 + q) + 1 by omega, nb (t := lH) k4, vR l9.2.1]
  have a1 : ba bN2 = bN2 := by rw [ba, if_neg (by omega)]
  have a2 : ba ei = ei := by rw [ba, if_neg (by omega)]
  have a3 : ba vI = lO := by rw [ba, if_pos k9']; rfl
  have hcall : evG P9 (g + 3) 0 ei [([110], dI ((k + 1 : Nat) : Int))] (10 * k + 9 + q) = (dI (s9 k), 0, q) := by
   rw [show 10 * k + 9 + q = (10 * k + 5 + q + 3) + 1 by omega, pL (t := ei) k8, Ck l9.2.2.1]
   change (match evL (fun k_1 r => evG P9 (g + 2) 0 k_1 [([110], dI ((k + 1 : Nat) : Int))] r) [vI] (10 * k + 5 + q + 3) with | (l, e, r') => if e = 0 then (if (az P9 0 ei.text).2.2 = true then (if (bD P9 (az P9 0 ei.text).1 (az P9 0 ei.text).2.1).kids.length = l.length + 2 then evG P9 (g + 2) (az P9 0 ei.text).1 (am (bD P9 (az P9 0 ei.text).1 (az P9 0 ei.text).2.1) (l.length + 1)) (bu (bD P9 (az P9 0 ei.text).1 (az P9 0 ei.text).2.1).kids l) r' else (GD0, 5, r')) else (GD0, 7, r')) else (GD0, e, r')) = _
   simp only [evL, a3, CG (show 0 ≤ ((k + 1 : Nat) : Int) ∧ ((k + 1 : Nat) : Int) ≤ 1000 by omega), Ci, if_true, List.length_cons, List.length_nil, l9.2.2.2.2.1, Bm]
   have := ih q (g + 2) (by omega) (by omega)
   rw [show (((k + 1 : Nat) : Int) - 1) = (k : Int) by omega]
   exact this
  change (match evL (fun k_1 r => evG P9 (g + 3) 0 k_1 [([110], dI ((k + 1 : Nat) : Int))] r) [bN2, ei] (10 * k + 10 + q) with | (l, e, r') => if e = 0 then ((aV lH.text (l.getD 0 GD0) (l.getD 1 GD0)).1, (aV lH.text (l.getD 0 GD0) (l.getD 1 GD0)).2, r') else (GD0, e, r')) = _
  rw [show 10 * k + 10 + q = (10 * k + 9 + q) + 1 by omega]
  simp only [evL, a1, a2, nk (t := bN2) k7, t6, vr, hcall, if_true, t3, List.getD_cons_zero, List.getD_cons_succ, CK (show 0 ≤ ((k + 1 : Nat) : Int) ∧ ((k + 1 : Nat) : Int) ≤ 1000 by omega) (show 0 ≤ s9 k ∧ s9 k ≤ 1000000 by omega), s9]
theorem BZ : gP P9 0 0 1 = true := by decide +kernel
theorem zK (k : Nat) (hk : k < 300) : bh P9 0 0 [dI k] 16384 = (dI (s9 k), 10 * (k : Int) + 5, 0) := by
 have hv : [dI (k : Int)].all cb = true := by simp [cb, wD, wDs, formD, dI]
 have h := CT k (16384 - (10 * k + 5)) 16385 (by omega) (by omega)
 rw [show 10 * k + 5 + (16384 - (10 * k + 5)) = 16384 by omega] at h
 rw [bh, if_pos ⟨BZ, by decide, by decide, hv⟩]
 have e1 : evG P9 16385 0 (am (bD P9 0 0) ([dI (k : Int)].length + 1)) (bu (bD P9 0 0).kids [dI (k : Int)]) (16384 : Int).toNat = (dI (s9 k), 0, 16384 - (10 * k + 5)) := by
  rw [Bm]; exact h
 rw [e1]
 simp only [Prod.mk.injEq, true_and, and_true]
 omega
theorem Cg (n : Int) : gH n true := by
 obtain ⟨x, hM, h0, h1⟩ := Cu (a := n) (n := 300) (by decide) (by decide)
 obtain ⟨k, rfl⟩ := iM (m := x) (by omega)
 have hk : k < 300 := by omega
 have r1 := rT (p := P9) lr 0 0 [dI k] (by simp) 16384
 rw [zK k hk] at r1
 have hb := sU k (by omega)
 have h2 := wu k
 have hm : Int.tdiv ((k : Int) * ((k : Int) + 1)) 2 = s9 k := by rw [← h2]; exact Int.mul_tdiv_cancel _ (by decide)
 refine lf 2 _ _ ⟨_, hM, gK, 0, 0, uo tv, _, kJ _, _, _, _, r1, kI 1 _ _ _ _ _ _ ⟨_, aw9, fun _ => ⟨fun _ => ⟨fun _ => ⟨by constructor <;> omega, by constructor <;> omega, fun _ => ⟨by constructor <;> omega, by rw [← h2]; constructor <;> omega, ⟨by decide, by rw [hm]; constructor <;> omega⟩, ?_⟩, fun h => absurd rfl h⟩, fun h => absurd rfl h⟩, fun h => absurd rfl h⟩, fun h => by cases h⟩⟩
 rw [hm]
 exact ⟨_, kJ _, _, nK (dI (s9 k)) (by simp [nD, nDs, dI]) _, mT _⟩
end Go.Proofs.YthnohcipianijaaGreatDoor
namespace Go.Proofs.YthnohcipianijaaGreatDoor
open Go.RowKit Lx Sx
set_option maxRecDepth 100000
set_option maxHeartbeats 4000000
def gh (p0 : List Tree) (p1 p2 : Int) (p3 : List GDatum) (p4 : Int) (r0 : Bool) : Prop := qS 6 [.row 4 (kidsV p0), .int .i64 p1, .int .i64 p2, .row 4 (GDatum.vs p3), .int .i64 p4] (.bool r0)
def dY (p0 : Tree) (r0 : Int) : Prop := qS 24 [.agg (aM p0)] (.int .i64 r0)
def dF (m : Nat) (p0 : List Tree) (p1 p2 : Int) (p3 : List GDatum) (p4 : Int) (r0 : Bool) : Prop := ∀ (K : Ctx), ao K [] → qLG K Tryz.f6 (fun u _ => u = .bool r0) (xA (ae Tryz.f6)) [] 85 (mkF 85 0 [(0, .row 4 (kidsV p0)), (1, .int .i64 p1), (2, .int .i64 p2), (3, .row 4 (GDatum.vs p3)), (4, .int .i64 p4)]) ⟨0, []⟩
def bF (m : Nat) (p0 : List Tree) (p1 p2 : Int) (p3 : List GDatum) (p4 : Int) (a : Nat) (r0 : Bool) : Prop := ∀ (K : Ctx) (j1 : Nat), ao K [] → m ≤ j1 → qLG K Tryz.f6 (fun u _ => u = .bool r0) (xI (ae Tryz.f6)) [.loop (xI (ae Tryz.f6)) j1, .blk 0, .seq (xG (ae Tryz.f6))] 85 (mkF 85 0 [(0, .row 4 (kidsV p0)), (1, .int .i64 p1), (2, .int .i64 p2), (3, .row 4 (GDatum.vs p3)), (4, .int .i64 p4), (11, .int .i64 (a : Int))]) ⟨0, []⟩
theorem fR (m : Nat) (p0 : List Tree) (p1 p2 : Int) (p3 : List GDatum) (p4 : Int) (r0 : Bool) (h : ∃ a, dY (Tree.node 0 [] [] p0) a ∧ ((200 < a) → ∃ b, aK b ∧ b = r0) ∧ ((¬ 200 < a) → ((10 < (p3.length : Int)) → ∃ c, aK c ∧ c = r0) ∧ ((¬ 10 < (p3.length : Int)) → ((2000 < p4) → ((p4 ≤ 16384) → ∃ d, aK d ∧ d = r0) ∧ ((¬ p4 ≤ 16384) → dF m p0 p1 p2 p3 p4 r0)) ∧ ((¬ 2000 < p4) → dF m p0 p1 p2 p3 p4 r0)))) : gh p0 p1 p2 p3 p4 r0 := by
 refine ⟨rfl, rfl, ?_⟩
 refine aj 85 [] Tryz.func6 rfl rfl rfl (av rfl) fun K hK => ?_
 refine gR 10 rfl ?_
 obtain ⟨a, hs30, h⟩ := h
 refine gC0 hs30 (by kernel_rfl) rfl rfl (.cons (.agg (.cons .rfl (.cons .rfl (.cons (.nil 1) (.cons .rfl .nil))))) .nil) rfl <| gR 2 rfl <| qBdZ 22 21 rfl rfl rfl rfl h (fun h => ?_) fun h => ?_
 refine gR 17 rfl ?_
 obtain ⟨b, hs31, h⟩ := h
 refine gC0 hs31 (by kernel_rfl) rfl rfl .rfl rfl <| gR 5 rfl ?_
 subst h
 exact go_end ab (rs := [.tmp 10]) rfl rfl rfl
 refine gR 2 rfl <| gV 24 (.int .i64 (p3.length : Int)) rfl (aJ (GDatum.vlen _)) rfl <| gLB 23 rfl (GDatum.vlen _) fun hl32 => gR 3 rfl <| qBdZ 27 26 rfl rfl rfl rfl h (fun h => ?_) fun h => ?_
 refine gR 12 rfl ?_
 obtain ⟨c, hs33, h⟩ := h
 refine gC0 hs33 (by kernel_rfl) rfl rfl .rfl rfl <| gR 5 rfl ?_
 subst h
 exact go_end ab (rs := [.tmp 10]) rfl rfl rfl
 refine gR 3 rfl <| qBdZ 30 29 rfl rfl rfl rfl h (fun h => ?_) fun h => ?_
 refine gR 6 rfl <| qBd 34 rfl rfl rfl h (fun h => ?_) fun h => ?_
 refine gR 3 rfl ?_
 obtain ⟨d, hs34, h⟩ := h
 refine gC0 hs34 (by kernel_rfl) rfl rfl .rfl rfl <| gR 5 rfl ?_
 subst h
 exact go_end ab (rs := [.tmp 10]) rfl rfl rfl
 exact gR 3 rfl <| gJ (h K hK) [] [] rfl hK pq5 trivial rfl
 exact gR 9 rfl <| gJ (h K hK) [] [] rfl hK pq5 trivial rfl
theorem ko (m : Nat) (p0 : List Tree) (p1 p2 : Int) (p3 : List GDatum) (p4 : Int) (r0 : Bool) (h : bF m p0 p1 p2 p3 p4 0 r0) : dF (m + 1) p0 p1 p2 p3 p4 r0 := by
 intro K hK
 exact gR 7 rfl <| go_loop m <| gJ (h K _ hK (by omega)) [] [] rfl hK pq6 trivial rfl
theorem fH (m : Nat) (p0 : List Tree) (p1 p2 : Int) (p3 : List GDatum) (p4 : Int) (a : Nat) (r0 : Bool) (h : ((a < p3.length) → ∃ k, p3[a]? = some k ∧ ∃ d, bQ k d ∧ ((d = false) → ∃ l, aK l ∧ l = r0) ∧ ((d = true) → bF m p0 p1 p2 p3 p4 (a + 1) r0)) ∧ ((¬ a < p3.length) → ∃ n e f, gd p0 p1 p2 p3 p4 n e f ∧ ∃ o g i, gp p0 p1 p2 p3 p4 o g i ∧ ∃ b, aK b ∧ ((b = true) → ((f = i) → ((e = g) → ∃ c, cd n o c ∧ c = r0) ∧ ((e ≠ g) → false = r0)) ∧ ((f ≠ i) → false = r0)) ∧ ((b = false) → false = r0))) : bF (m + 1) p0 p1 p2 p3 p4 a r0 := by
 intro K j1 hK hj1
 obtain ⟨j1, rfl⟩ : ∃ j, j1 = j + 1 := ⟨j1 - 1, by omega⟩
 refine gR 6 rfl <| gV 38 (.int .i64 (p3.length : Int)) rfl (aJ (GDatum.vlen _)) rfl <| gLB 37 rfl (GDatum.vlen _) fun hl35 => gR 3 rfl <| gB 39 rfl rfl rfl ?_ ?_ <;> intro hd
 replace hd := (cx hd)
 replace h := h.1 hd
 refine gR 9 rfl ?_
 obtain ⟨k, hxx2_1, h⟩ := h
 refine gY (aB (GDatum.vget hxx2_1) ab rfl rfl rfl rfl) rfl rfl <| gR 1 rfl ?_
 obtain ⟨d, hs36, h⟩ := h
 refine gC0 hs36 (by kernel_rfl) rfl rfl .rfl rfl <| gR 3 rfl <| gB 47 rfl rfl rfl ?_ ?_ <;> intro hd
 replace hd := (cj hd)
 replace h := h.1 hd
 refine gR 3 rfl ?_
 obtain ⟨l, hs37, h⟩ := h
 refine gC0 hs37 (by kernel_rfl) rfl rfl .rfl rfl <| gR 6 rfl <| go_xloopR <| gR 2 rfl ?_
 subst h
 exact go_end ab (rs := [.tmp 10]) rfl rfl rfl
 replace hd := (ci hd)
 replace h := h.2 hd
 exact gR 7 rfl <| gV 41 (.int .i64 ((a + 1 : Nat) : Int)) rfl (ax (by have := hl35; omega) (by omega)) rfl <| gR 2 rfl <| go_xloop <| gJ (h K _ hK (by omega)) [] [] rfl hK pq6 trivial rfl
 replace hd := (cw hd)
 replace h := h.2 hd
 refine gR 3 rfl <| go_xloopE <| gR 9 rfl ?_
 obtain ⟨n, e, f, hs38, h⟩ := h
 refine gC0 hs38 (by kernel_rfl) rfl rfl .rfl rfl <| gR 17 rfl ?_
 obtain ⟨o, g, i, hs39, h⟩ := h
 refine gC0 hs39 (by kernel_rfl) rfl rfl .rfl rfl <| gR 12 rfl ?_
 obtain ⟨b, hs40, h⟩ := h
 refine gC0 hs40 (by kernel_rfl) rfl rfl .rfl rfl <| gR 1 rfl <| gB 70 rfl rfl rfl ?_ ?_ <;> intro hd
 refine gT 69 rfl hd rfl ?_
 replace h := h.1 hd
 refine gR 5 rfl <| gB 75 rfl rfl rfl ?_ ?_ <;> intro hd
 refine gT 74 rfl hd rfl ?_
 replace hd := (eq_of_beq hd)
 replace h := h.1 hd
 refine gR 5 rfl <| gB 80 rfl rfl rfl ?_ ?_ <;> intro hd
 refine gT 79 rfl hd rfl ?_
 replace hd := (eq_of_beq hd)
 replace h := h.1 hd
 refine gR 2 rfl ?_
 obtain ⟨c, hs41, h⟩ := h
 refine gC0 hs41 (by kernel_rfl) rfl rfl .rfl rfl <| gR 5 rfl ?_
 subst h
 exact go_end ab (rs := [.tmp 10]) rfl rfl rfl
 refine gF 79 rfl hd rfl ?_
 replace hd := (ne_of_beq_false hd)
 replace h := h.2 hd
 refine gR 8 rfl ?_
 subst h
 exact go_end ab (rs := [.tmp 10]) rfl rfl rfl
 refine gF 74 rfl hd rfl ?_
 replace hd := (ne_of_beq_false hd)
 replace h := h.2 hd
 refine gR 13 rfl ?_
 subst h
 exact go_end ab (rs := [.tmp 10]) rfl rfl rfl
 refine gF 69 rfl hd rfl ?_
 replace h := h.2 hd
 refine gR 18 rfl ?_
 subst h
 exact go_end ab (rs := [.tmp 10]) rfl rfl rfl
def dS (m : Nat) (p0 : Tree) (a : Int) (b : Nat) (r0 : Int) : Prop := ∀ (K : Ctx) (j1 : Nat), ao K [] → m ≤ j1 → qLG K Tryz.f24 (fun u _ => u = .int .i64 r0) (xI (ae Tryz.f24)) [.loop (xI (ae Tryz.f24)) j1, .blk 0, .seq (xG (ae Tryz.f24))] 21 (mkF 21 0 [(1, .box (aM p0) 0), (3, .int .i64 a), (4, .int .i64 (b : Int))]) ⟨0, []⟩
theorem nB (m : Nat) (p0 : Tree) (r0 : Int) (h : dS m p0 1 0 r0) : dY p0 r0 := by
 refine ⟨rfl, rfl, ?_⟩
 refine aj 21 [] Tryz.func24 rfl rfl rfl (av rfl) fun K hK => ?_
 exact gR 3 rfl <| gFP 0 rfl rfl rfl rfl <| gR 15 rfl <| go_loop m <| gJ (h K _ hK (by omega)) [] [] rfl hK pq3 trivial rfl
theorem fo (m : Nat) (p0 : Tree) (b : Int) (a : Nat) (r0 : Int) (h : ((a < p0.kids.length) → ∃ d, p0.kids[a]? = some d ∧ ∃ c, dY d c ∧ InI (b + c) ∧ dS m p0 (b + c) (a + 1) r0) ∧ ((¬ a < p0.kids.length) → b = r0)) : dS (m + 1) p0 b a r0 := by
 intro K j1 hK hj1
 obtain ⟨j1, rfl⟩ : ∃ j, j1 = j + 1 := ⟨j1 - 1, by omega⟩
 refine gR 7 rfl <| gV 8 (.int .i64 (p0.kids.length : Int)) rfl (aJ (aO _)) rfl <| gLB 7 rfl (aO _) fun hl5 => gR 3 rfl <| gB 9 rfl rfl rfl ?_ ?_ <;> intro hd
 replace hd := (cx hd)
 replace h := h.1 hd
 refine gR 10 rfl ?_
 obtain ⟨d, hxt1_1, h⟩ := h
 refine gY (aB (aq hxt1_1) ab rfl rfl rfl rfl) rfl rfl <| gR 1 rfl ?_
 obtain ⟨c, hs6, h⟩ := h
 refine gC0 hs6 (by kernel_rfl) rfl rfl .rfl rfl ?_
 obtain ⟨hb, h⟩ := h
 exact gR 1 rfl <| gV 19 (.int .i64 (b + c)) rfl (ax hb rfl) rfl <| gR 7 rfl <| gV 11 (.int .i64 ((a + 1 : Nat) : Int)) rfl (ax (by have := hl5; omega) (by omega)) rfl <| gR 2 rfl <| go_xloop <| gJ (h K _ hK (by omega)) [] [] rfl hK pq3 trivial rfl
 replace hd := (cw hd)
 replace h := h.2 hd
 refine gR 3 rfl <| go_xloopE <| gR 9 rfl ?_
 subst h
 exact go_end ab (rs := [.tmp 2]) rfl rfl rfl
end Go.Proofs.YthnohcipianijaaGreatDoor
namespace Go.Proofs.YthnohcipianijaaGreatDoor
open Go.RowKit Lx Sx
set_option maxHeartbeats 1000000
set_option maxRecDepth 100000
def Sh (l : List (List UInt8)) (n : Nat) : Prop := l.length = n ∧ ∀ x ∈ l, x.length ≤ 2
theorem Sh.set {l : List (List UInt8)} {n i : Nat} {x : List UInt8} (h : Sh l n) (hx : x.length ≤ 2) : Sh (l.set i x) n := ⟨by simpa using h.1, fun y hy => by
 rcases List.mem_or_eq_of_mem_set hy with h1 | h1
 ·exact h.2 y h1
 ·subst h1; exact hx⟩
theorem Sh.get {l : List (List UInt8)} {n i : Nat} (h : Sh l n) (hi : i < n) : ∃ s, l[i]? = some s := by
 obtain ⟨s, hs, _⟩ | h' := aE l i
 ·exact ⟨s, hs⟩
 ·have := h.1; omega
section
variable {t : Tree} {N : Nat} {us : List Tree}
end
end Go.Proofs.YthnohcipianijaaGreatDoor
namespace Go.Proofs.YthnohcipianijaaGreatDoor
open Go.RowKit Lx Sx
set_option maxRecDepth 100000
set_option maxHeartbeats 1100000
theorem nD9 {d : GDatum} (h : wD d ≤ 2000000) : nD d ≤ 1000000000 := by have := qg d; omega
section
variable {args : List GDatum} (ha : args.length ≤ 10) (hm : mDs args ≤ 1000000000000000) (fuel : Int) {p : List Tree} (hb : kbulk p ≤ 1100000)
include ha hm hb
end
theorem zu : ∀ t : Tree, tbulk t ≤ 1000000000 → ∃ n : Int, dY t n ∧ 0 ≤ n ∧ n ≤ tbulk t := kZ fun t ih hb => by
 have he := jE t
 have loop : ∀ (k i : Nat) (z : Int), t.kids.length - i ≤ k → 0 ≤ z → z + kbulk (t.kids.drop i) ≤ tbulk t → ∃ n : Int, dS (k + 1) t z i n ∧ 0 ≤ n ∧ n ≤ tbulk t := fun k => by
  induction k with
  | zero =>
   intro i z hi h0 h1
   exact ⟨z, fo 0 _ _ _ _ ⟨fun h => by omega, fun _ => rfl⟩, h0, by omega⟩
  | succ k ihk =>
   intro i z hi h0 h1
   obtain ⟨u, hu, _⟩ | h' := aE t.kids i
   ·have hbu := bj hu
    obtain ⟨n, hn, hn0, hn1⟩ := ih i u hu (by omega)
    rw [aI hu, kbulk] at h1
    obtain ⟨r, hr, hr0, hr1⟩ := ihk (i + 1) (z + n) (by omega) (by omega) (by omega)
    exact ⟨r, fo (k + 1) _ _ _ _ ⟨fun _ => ⟨u, hu, n, hn, by constructor <;> omega, hr⟩, fun h => by omega⟩, hr0, hr1⟩
   ·exact ⟨z, fo (k + 1) _ _ _ _ ⟨fun h => absurd h h', fun _ => rfl⟩, h0, by omega⟩
 obtain ⟨n, hn, h0, h1⟩ := loop t.kids.length 0 1 (by omega) (by omega) (by rw [List.drop_zero]; omega)
 exact ⟨n, nB _ _ _ hn, h0, h1⟩
theorem BK (p : List Tree) (m d : Int) (args : List GDatum) (hb : kbulk p ≤ 1100000) (hm : mDs args ≤ 1000000000000000) (fuel : Int) : gh p m d args fuel true := by
 obtain ⟨n, hn, _⟩ := zu (.node 0 [] [] p) (by simp only [tbulk, lsum, List.length_nil]; omega)
 have h9 := um hb m d args fuel
 have loop : args.length ≤ 10 → ∀ (j i : Nat), args.length - i ≤ j → ∃ R, bF R p m d args fuel i true := fun ha j => by
  have last : ∀ i, ¬ i < args.length → ∃ R, bF R p m d args fuel i true := fun i hi =>
   ⟨1, fH 0 _ _ _ _ _ _ _ ⟨fun h => absurd h hi, fun _ => ⟨_, _, _, rT hb m d args (by omega) fuel, _, _, _, Ar hb m d args (by omega) (Bi hm) fuel, _, aw9, fun _ => ⟨fun _ => ⟨fun _ => ⟨_, qv _ (nD9 h9) _, mT _⟩, fun h => absurd rfl h⟩, fun h => absurd rfl h⟩, fun h => by cases h⟩⟩⟩
  induction j with
  | zero => intro i hi; exact last i (by omega)
  | succ j ihj =>
   intro i hi
   obtain ⟨x, hx, hlt⟩ | h' := aE args i
   ·obtain ⟨R, hR⟩ := ihj (i + 1) (by omega)
    exact ⟨R + 1, fH R _ _ _ _ _ _ _ ⟨fun _ => ⟨x, hx, _, oM x, fun _ => ⟨_, aw9, rfl⟩, fun _ => hR⟩, fun h => absurd hlt h⟩⟩
   ·exact last i h'
 by_cases ha : args.length ≤ 10
 ·obtain ⟨R, hR⟩ := loop ha args.length 0 (by omega)
  have l0 := ko R _ _ _ _ _ _ hR
  exact fR (R + 1) _ _ _ _ _ _ ⟨n, hn, fun _ => ⟨_, aw9, rfl⟩, fun _ => ⟨fun _ => ⟨_, aw9, rfl⟩, fun _ => ⟨fun _ => ⟨fun _ => ⟨_, aw9, rfl⟩, fun _ => l0⟩, fun _ => l0⟩⟩⟩
 ·exact fR 0 _ _ _ _ _ _ ⟨n, hn, fun _ => ⟨_, aw9, rfl⟩, fun _ => ⟨fun _ => ⟨_, aw9, rfl⟩, fun h => by omega⟩⟩
section
variable {args : List GDatum} (ha : args.length ≤ 10) {f k : Nat} (hf : f ≤ 1500) (hk : k ≤ 1500) {p : List Tree} (hb : kbulk p ≤ 1100000)
include ha hf hk hb
end
section
variable {args : List GDatum} (ha : args.length ≤ 10) (f : Int) {p : List Tree} (hb : kbulk p ≤ 1100000)
include ha hb
end
end Go.Proofs.YthnohcipianijaaGreatDoor
namespace Go.Proofs.YthnohcipianijaaGreatDoor
open Go.RowKit Go.ChangeShapes Go.WideShapes Go.Deep Go.Joins
open Lx Sx
section
variable {H : Type} {enc : TypeId × Value → H} {W : World}
theorem BX {v : Value} {d : DataW H} {p : List MemPlace} (h : DataW.Trod enc Tryz.prog W 0 (fun _ => true) true 31 v d p) : v.cells.toList = [v] → ∃ (ks : List Tree) (B : Option Addr) (c : Nat) (cells : List Value), v = .slice B ks.length c ∧ ks.length ≤ c ∧ c ≤ maxLen ∧ KidsAre Any W ks cells ∧ RowIn Any W 4 B ks.length cells ∧ kbulk ks ≤ Rows.uptoBulk d := fun hv => by
 obtain ⟨fuel, h3⟩ := h
 rw [hv] at h3
 rcases open_slice Tryz.underlying31 h3 with ⟨hcs, hx3⟩ | ⟨a, len, cap, m3, n3, D, Pl, hcs, hb, hl3, hm3, hmm, hx3, hi⟩
 ·simp only [List.cons.injEq, and_true] at hcs
  exact ⟨[], none, 0, [], hcs, Nat.le_refl _, by simp [maxLen], rfl, RowIn.none_, by simp [kbulk]⟩
 ·simp only [List.cons.injEq, and_true] at hcs
  simp only [if_true] at hmm
  subst hmm hcs
  rw [mL] at hi
  have hall : Rows.uptoBulk d = Rows.uptoBulkAll ((List.range len).map D) + Rows.uptoBulkAll ((List.range (m3 - len)).map fun j => D (len + j)) + 1 := by
   have : d = _ := congrArg Prod.fst hx3
   rw [this]; simp only [Rows.uptoBulk]
  obtain ⟨T, hT⟩ := choose_lt (α := Tree × List Value) (p := fun i t => i < len → W.cells? 0 (a.add (i * 4)) 4 = some t.2 ∧ TreeIs Any W t.1 t.2 ∧ tbulk t.1 ≤ Rows.uptoBulk (D i)) (n := m3) (fun i him => by
   by_cases hil : i < len
   ·obtain ⟨cs', hc, ht⟩ := hi i him
    obtain ⟨t, g1, g2⟩ := uz _ n3 cs' (D i, Pl i) (Nat.le_refl _) ht
    exact ⟨(t, cs'), fun _ => ⟨hc, g1, g2⟩⟩
   ·exact ⟨(fp, []), fun h => absurd h hil⟩)
  have hTl : ∀ i, i ∈ List.range len → W.cells? 0 (a.add (i * 4)) 4 = some (T i).2 ∧ TreeIs Any W (T i).1 (T i).2 ∧ tbulk (T i).1 ≤ Rows.uptoBulk (D i) := fun i hi' => by
   have := List.mem_range.1 hi'
   exact hT i (by omega) this
  refine ⟨(List.range len).map fun i => (T i).1, some a, m3, (List.range len).flatMap fun i => (T i).2, by simp, by simpa using hl3, hm3, kB _ (fun i hi' => (hTl i hi').2.1), ⟨?_, fun h0 => ?_⟩, ?_⟩
  ·have := (kB (W := W) (g := fun i => (T i).1) (c := fun i => (T i).2) (List.range len) (fun i hi' => (hTl i hi').2.1)).length
   rw [this]
  ·simp only [List.length_map, List.length_range] at h0 ⊢
   have hcell : ∀ i, i < len → ∀ r, r < 4 → W.cell? ((a.add (i * 4)).add r) = (T i).2[r]? := fun i hi' r hr => by
    have h4 := (hTl i (by simp [hi'])).2.1.four
    have := (World.cells?_some (hTl i (by simp [hi'])).1).2.2 r (by omega)
    rw [this]
   have hsome : ∃ v, W.cell? a = some v := by
    have h4 := (hTl 0 (by simp [h0])).2.1.four
    have := hcell 0 h0 0 (by omega)
    refine ⟨(T 0).2[0]'(by omega), ?_⟩
    rw [List.getElem?_eq_getElem (by omega)] at this
    simpa [Addr.add] using this
   obtain ⟨vv, hvv⟩ := hsome
   have hs : a.spot = none := World.cell?_spot (a := a) hvv
   obtain ⟨b, off, spot⟩ := a
   simp only at hs
   subst hs
   refine ⟨b, off, rfl, trivial, World.block_lt_of_cell? W ⟨b, off, none⟩ hvv, fun j hj => ?_⟩
   have e := hcell (j / 4) (by omega) (j % 4) (by omega)
   rw [jK, jK, show off + j / 4 * 4 + j % 4 = off + j by omega] at e
   have e2 := ou (c := fun i => (T i).2) (List.range len) (j / 4) (j % 4) (fun i hi' => (hTl i hi').2.1.four) (by omega)
   rw [show j / 4 * 4 + j % 4 = j by omega] at e2
   rw [e, e2]; simp [show j / 4 < len by omega]
  ·have := nR (g := fun i => (T i).1) (D := D) (List.range len) (fun i hi' => (hTl i hi').2.2)
   omega
end
end Go.Proofs.YthnohcipianijaaGreatDoor
