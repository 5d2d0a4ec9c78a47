/- Contracts of the functions that the law reaches, part 6. -/
import Derived.Test.YtpnpdlnpikkeaaaLa5
set_option linter.unusedVariables false
set_option linter.unusedSimpArgs false
namespace Go.Proofs.Ytpnpdlnpikkeaaa
open Go.RowKit Lx Sx
set_option maxRecDepth 100000
set_option maxHeartbeats 1000000
theorem xk : nk fu (sO uR 6000 9 [.str yF]) = true := by kernel_rfl
theorem kZ : tbulk fu ≤ 2000000 ∧ tbulk (ln fu) ≤ 2000000 := by decide +kernel
theorem xw : iM fu = [[35, 32, 120]] := by decide +kernel
theorem xV : (shapeK fu && eqT fu (ln fu)) = false := by decide +kernel
theorem vx : (if (shapeK (ln fu) && leadedT (ln fu)) = true then fM (ln fu) else []) = [109, 111, 100, 117, 108, 101, 32, 77, 10, 10, 100, 101, 102, 32, 102, 40, 97, 58, 32, 73, 110, 116, 44, 32, 98, 58, 32, 73, 110, 116, 41, 58, 32, 73, 110, 116, 32, 61, 32, 103, 40, 97, 44, 32, 91, 98, 93, 41, 10] := by decide +kernel
theorem sh : fH true := by
 have h1 := nK fu (by have := kZ.1; omega)
 have h2 := rK fu (by have := kZ.1; omega)
 have h3 := oR fu (by have := kZ.1; omega)
 have h4 := rW (ln fu) (by have := kZ.2; omega)
 rw [xw] at h1
 rw [xV] at h2
 rw [vx] at h4
 have w : ir true := lu 0 _ ⟨fu, 0, 0, zq xk, _, h1, fun _ => ⟨fun _ => ⟨[35, 32, 120], rfl, fun _ => ⟨false, h2, fun _ => ⟨_, h3, _, h4, by decide +kernel⟩, fun h => (by cases h)⟩, fun h => absurd rfl h⟩, fun h => absurd rfl h⟩, fun h => absurd rfl h⟩
 exact w
end Go.Proofs.Ytpnpdlnpikkeaaa
namespace Go.Proofs.Ytpnpdlnpikkeaaa
open Go.RowKit Lx Sx
set_option maxRecDepth 100000
set_option maxHeartbeats 1000000
theorem zo : ∀ t : Tree, tbulk t ≤ 1000000000 → ∃ n : Int, ek t n ∧ 0 ≤ n ∧ n ≤ tbulk t := fh fun t ih hb => by
 have he := bx t
 have loop : ∀ (k i : Nat) (z : Int), t.kids.length - i ≤ k → 0 ≤ z → z + kbulk (t.kids.drop i) ≤ tbulk t → ∃ n : Int, dY (k + 1) t z i n ∧ 0 ≤ n ∧ n ≤ tbulk t := fun k => by
  induction k with
  | zero =>
   intro i z hi h0 h1
   exact ⟨z, fq 0 _ _ _ _ ⟨fun h => by omega, fun _ => rfl⟩, h0, by omega⟩
  | succ k ihk =>
   intro i z hi h0 h1
   obtain ⟨u, hu, _⟩ | h' := aX t.kids i
   ·have hbu := ej hu
    obtain ⟨n, hn, hn0, hn1⟩ := ih i u hu (by omega)
    rw [bv hu, kbulk] at h1
    obtain ⟨r, hr, hr0, hr1⟩ := ihk (i + 1) (z + n) (by omega) (by omega) (by omega)
    exact ⟨r, fq (k + 1) _ _ _ _ ⟨fun _ => ⟨u, hu, n, hn, by constructor <;> omega, hr⟩, fun h => by omega⟩, hr0, hr1⟩
   ·exact ⟨z, fq (k + 1) _ _ _ _ ⟨fun h => absurd h h', fun _ => rfl⟩, h0, by omega⟩
 obtain ⟨n, hn, h0, h1⟩ := loop t.kids.length 0 1 (by omega) (by omega) (by rw [List.drop_zero]; omega)
 exact ⟨n, mE _ _ _ hn, h0, h1⟩
theorem xp (t : Tree) (ht : tbulk t ≤ 2000000) : fa t true := by
 obtain ⟨n, hn, _, _⟩ := zo t (by omega)
 refine iV 0 _ _ ⟨n, hn, fun _ => ⟨_, sh, rfl⟩, fun _ => ⟨_, sh, fun _ => ⟨_, nK t ht, _, th t ht, _, tk _ _, by simp⟩, fun h => (by cases h)⟩⟩
end Go.Proofs.Ytpnpdlnpikkeaaa
namespace Go.Proofs.Ytpnpdlnpikkeaaa
open Go.RowKit Lx Sx Go.ChangeShapes Go.WideShapes Go.Deep Go.Joins
instance : Inhabited Tree := ⟨fY⟩
theorem oW : Try.prog.cellsOf 25 = 4 := by kernel_rfl
theorem wN : Try.prog.cellsOf 3 = 1 := by kernel_rfl
theorem qn : Try.prog.cellsOf 9 = 1 := by kernel_rfl
theorem xq : Try.prog.cellsOf 22 = 1 := by kernel_rfl
theorem xh : Try.prog.cellsOf 23 = 1 := by kernel_rfl
theorem qH {α : Type} {l : List α} (h : l.length = 4) : ∃ a b c d, l = [a, b, c, d] := by
 match l, h with
 | [a, b, c, d], _ => exact ⟨a, b, c, d, rfl⟩
theorem tD {α : Type} {c : Nat → List α} : ∀ (l : List Nat) (i r : Nat), (∀ j ∈ l, (c j).length = 4) → r < 4 → (l.flatMap c)[i * 4 + r]? = (l[i]?).bind fun j => (c j)[r]?
 | [], i, r, _, _ => by simp
 | j :: l, 0, r, h, hr => by
  have := h j (by simp)
  rw [List.flatMap_cons, List.getElem?_append_left (by omega)]; simp
 | j :: l, i + 1, r, h, hr => by
  have h4 := h j (by simp)
  rw [List.flatMap_cons, List.getElem?_append_right (by omega), show (i + 1) * 4 + r - (c j).length = i * 4 + r by omega, tD l i r (fun q hq => h q (by simp [hq])) hr]; simp
theorem BZ {v a b c d : Value} (h : v.cells = #[a, b, c, d]) : v = .agg #[a, b, c, d] := by
 cases v <;> simp_all [Value.cells]
section
variable {H : Type} {enc : TypeId × Value → H} {W : World}
theorem pF (b off k : Nat) : (⟨b, off, none⟩ : Addr).add k = ⟨b, off + k, none⟩ := by unfold Addr.add; split <;> simp_all
theorem pZ {g : Nat → Tree} {D : Nat → DataW H} : ∀ (l : List Nat), (∀ i ∈ l, tbulk (g i) ≤ Rows.uptoBulk (D i)) → kbulk (l.map g) ≤ Rows.uptoBulkAll (l.map D)
 | [], _ => by simp [kbulk, Rows.uptoBulkAll]
 | i :: l, h => by
  have := pZ l (fun j hj => h j (by simp [hj]))
  have := h i (by simp)
  simp only [List.map_cons, kbulk, Rows.uptoBulkAll]; omega
theorem rG {g : Nat → List UInt8} {D : Nat → DataW H} : ∀ (l : List Nat), (∀ i ∈ l, D i = .lit (.string (g i))) → lsum (l.map g) ≤ Rows.uptoBulkAll (l.map D)
 | [], _ => by simp [lsum, Rows.uptoBulkAll]
 | i :: l, h => by
  have := rG l (fun j hj => h j (by simp [hj]))
  have := h i (by simp)
  simp only [List.map_cons, lsum, Rows.uptoBulkAll, this, Rows.uptoBulk]; omega
theorem oI {g : Nat → Tree} {c : Nat → List Value} : ∀ (l : List Nat), (∀ i ∈ l, TreeIs Any W (g i) (c i)) → KidsAre Any W (l.map g) (l.flatMap c)
 | [], _ => rfl
 | i :: l, h => by
  simp only [List.map_cons, List.flatMap_cons, KidsAre]
  exact ⟨c i, l.flatMap c, rfl, h i (by simp), oI l (fun j hj => h j (by simp [hj]))⟩
theorem yV {n : Nat} {v : Value} {x : DataW H × List MemPlace} (h : DataW.trod enc Try.prog W 0 (fun _ => true) true n 22 [v] = some x) :
  ∃ (ls : List (List UInt8)) (A : Option Addr) (m : Nat), v = .slice A ls.length m ∧ ls.length ≤ m ∧ m ≤ maxLen ∧ RowIn Any W 1 A ls.length (ls.map aF) ∧ lsum ls ≤ Rows.uptoBulk x.1 := by
 rcases open_slice Try.underlying22 h with ⟨hcs, hx⟩ | ⟨a, len, cap, m, n', D, Pl, hcs, hb, hl, hm, hmm, hx, hi⟩
 ·simp only [List.cons.injEq, and_true] at hcs
  exact ⟨[], none, 0, hcs, Nat.le_refl _, by simp [maxLen], RowIn.none_, by simp [lsum]⟩
 ·simp only [List.cons.injEq, and_true] at hcs
  simp only [if_true] at hmm
  subst hmm hcs
  rw [qn] at hi
  obtain ⟨T, hT⟩ := choose_lt (α := List UInt8) (p := fun i t => W.cell? (a.add i) = some (aF t) ∧ D i = .lit (.string t)) (n := m) (fun i him => by
   obtain ⟨cs', hc, ht⟩ := hi i him
   obtain ⟨s, e1, f1, _⟩ := DataW.trod_string Try.underlying9 ht
   subst e1
   refine ⟨s.data.toList, ?_, by have := congrArg Prod.fst f1; simpa using this⟩
   have := (World.cells?_some hc).2.2 0 (by omega)
   simpa [Addr.add] using this)
  refine ⟨(List.range len).map T, some a, m, by simp, by simpa using hl, hm, ⟨by simp, fun h0 => ?_⟩, ?_⟩
  ·simp only [List.length_map, List.length_range] at h0 ⊢
   have hs : a.spot = none := World.cell?_spot (a := a) (by have := (hT 0 (by omega)).1; simpa [Addr.add] using this)
   obtain ⟨b, off, spot⟩ := a
   simp only at hs
   subst hs
   refine ⟨b, off, rfl, trivial, ?_, fun j hj => ?_⟩
   ·have := (hT 0 (by omega)).1
    exact World.block_lt_of_cell? W ⟨b, off, none⟩ (by simpa [Addr.add] using this)
   ·have := (hT j (by omega)).1
    rw [pF] at this
    rw [this]; simp [show j < len by omega]
  ·rw [hx]
   have := rG (g := T) (D := D) (List.range len) (fun i hi' => (hT i (by have := List.mem_range.1 hi'; omega)).2)
   simp only [Rows.uptoBulk]; omega
theorem tt : ∀ (q n : Nat) (cs : List Value) (x : DataW H × List MemPlace), Rows.uptoBulk x.1 ≤ q → DataW.trod enc Try.prog W 0 (fun _ => true) true n 25 cs = some x → ∃ t, TreeIs Any W t cs ∧ tbulk t ≤ Rows.uptoBulk x.1
 | q, n, cs, x, hq, h => by
  obtain ⟨y0, y1, y2, y3, n', hx, hl, h0, h1, h2, h3⟩ := trod_struct4 Try.underlying25 h
  rw [oW] at hl
  obtain ⟨v0, v1, v2, v3, rfl⟩ := qH hl
  simp only [wN, qn, xq, xh, List.drop_zero, List.drop_succ_cons, List.take_succ_cons, List.take_zero] at h0 h1 h2 h3
  obtain ⟨k, e0, f0, _⟩ := DataW.trod_int Try.underlying3 h0
  obtain ⟨s1, e1, f1, _⟩ := DataW.trod_string Try.underlying9 h1
  obtain ⟨ls, A, m, e2, l1, l2, l3, l4⟩ := yV h2
  simp only [List.cons.injEq, and_true] at e0 e1
  have hbk : Rows.uptoBulk x.1 = Rows.uptoBulk y0.1 + (Rows.uptoBulk y1.1 + (Rows.uptoBulk y2.1 + (Rows.uptoBulk y3.1 + 0))) + 1 := by rw [hx]; simp only [Rows.uptoBulk, Rows.uptoBulkAll]
  have hs1 : Rows.uptoBulk y1.1 = s1.data.toList.length + 1 := by
   have : y1.1 = .lit (.string s1.data.toList) := by rw [f1]
   rw [this]; rfl
  have go : ∃ (ks : List Tree) (B : Option Addr) (c : Nat) (cells : List Value), v3 = .slice B ks.length c ∧ ks.length ≤ c ∧ c ≤ maxLen ∧ KidsAre Any W ks cells ∧ RowIn Any W 4 B ks.length cells ∧ kbulk ks ≤ Rows.uptoBulk y3.1 := by
   rcases open_slice Try.underlying23 h3 with ⟨hcs, hx3⟩ | ⟨a, len, cap, m3, n3, D, Pl, hcs, hb, hl3, hm3, hmm, hx3, hi⟩
   ·simp only [List.cons.injEq, and_true] at hcs
    exact ⟨[], none, 0, [], hcs, Nat.le_refl _, by simp [maxLen], rfl, RowIn.none_, by simp [kbulk]⟩
   ·simp only [List.cons.injEq, and_true] at hcs
    simp only [if_true] at hmm
    subst hmm hcs
    rw [oW] at hi
    have hall : Rows.uptoBulk y3.1 = Rows.uptoBulkAll ((List.range len).map D) + Rows.uptoBulkAll ((List.range (m3 - len)).map fun j => D (len + j)) + 1 := by rw [hx3]; simp only [Rows.uptoBulk]
    have hle : ∀ (l : List Nat) i, i ∈ l → Rows.uptoBulk (D i) ≤ Rows.uptoBulkAll (l.map D) := by
     intro l i hi'
     induction l with
     | nil => cases hi'
     | cons j r ih =>
      simp only [List.map_cons, Rows.uptoBulkAll]
      rcases List.mem_cons.1 hi' with e | e
      ·subst e; omega
      ·have := ih e; omega
    obtain ⟨T, hT⟩ := choose_lt (α := Tree × List Value) (p := fun i t => i < len → W.cells? 0 (a.add (i * 4)) 4 = some t.2 ∧ TreeIs Any W t.1 t.2 ∧ tbulk t.1 ≤ Rows.uptoBulk (D i)) (n := m3) (fun i him => by
     by_cases hil : i < len
     ·obtain ⟨cs', hc, ht⟩ := hi i him
      have hb1 := hle (List.range len) i (by simp [hil])
      obtain ⟨t, g1, g2⟩ := tt (q - 1) n3 cs' (D i, Pl i) (by simp only; omega) ht
      exact ⟨(t, cs'), fun _ => ⟨hc, g1, g2⟩⟩
     ·exact ⟨(fY, []), fun h => absurd h hil⟩)
    have hTl : ∀ i, i ∈ List.range len → W.cells? 0 (a.add (i * 4)) 4 = some (T i).2 ∧ TreeIs Any W (T i).1 (T i).2 ∧ tbulk (T i).1 ≤ Rows.uptoBulk (D i) := fun i hi' => by
     have := List.mem_range.1 hi'
     exact hT i (by omega) this
    refine ⟨(List.range len).map fun i => (T i).1, some a, m3, (List.range len).flatMap fun i => (T i).2, by simp, by simpa using hl3, hm3, oI _ (fun i hi' => (hTl i hi').2.1), ⟨?_, fun h0 => ?_⟩, ?_⟩
    ·have := (oI (W := W) (g := fun i => (T i).1) (c := fun i => (T i).2) (List.range len) (fun i hi' => (hTl i hi').2.1)).length
     rw [this]
    ·simp only [List.length_map, List.length_range] at h0 ⊢
     have hcell : ∀ i, i < len → ∀ r, r < 4 → W.cell? ((a.add (i * 4)).add r) = (T i).2[r]? := fun i hi' r hr => by
      have h4 := (hTl i (by simp [hi'])).2.1.four
      have := (World.cells?_some (hTl i (by simp [hi'])).1).2.2 r (by omega)
      rw [this]
     have hsome : ∃ v, W.cell? a = some v := by
      have h4 := (hTl 0 (by simp [h0])).2.1.four
      have := hcell 0 h0 0 (by omega)
      refine ⟨(T 0).2[0]'(by omega), ?_⟩
      rw [List.getElem?_eq_getElem (by omega)] at this
      simpa [Addr.add] using this
     obtain ⟨vv, hvv⟩ := hsome
     have hs : a.spot = none := World.cell?_spot (a := a) hvv
     obtain ⟨b, off, spot⟩ := a
     simp only at hs
     subst hs
     refine ⟨b, off, rfl, trivial, World.block_lt_of_cell? W ⟨b, off, none⟩ hvv, fun j hj => ?_⟩
     have e := hcell (j / 4) (by omega) (j % 4) (by omega)
     rw [pF, pF, show off + j / 4 * 4 + j % 4 = off + j by omega] at e
     have e2 := tD (c := fun i => (T i).2) (List.range len) (j / 4) (j % 4) (fun i hi' => (hTl i hi').2.1.four) (by omega)
     rw [show j / 4 * 4 + j % 4 = j by omega] at e2
     rw [e, e2]; simp [show j / 4 < len by omega]
    ·have := pZ (g := fun i => (T i).1) (D := D) (List.range len) (fun i hi' => (hTl i hi').2.2)
     omega
  obtain ⟨ks, B, c, cells, e3, k1, k2, k3, k4, k5⟩ := go
  refine ⟨.node k s1.data.toList ls ks, ?_, ?_⟩
  ·subst e0 e1 e2 e3
   simp only [TreeIs]
   exact ⟨A, m, B, c, by simp, l1, l2, k1, k2, l3, cells, k3, k4⟩
  ·simp only [tbulk]
   omega
 termination_by q => q
 decreasing_by omega
theorem BN {v : Value} {d : DataW H} {p : List MemPlace} (h : DataW.Trod enc Try.prog W 0 (fun _ => true) true 25 v d p) : ∃ t c0 c1 c2 c3, v.cells = #[c0, c1, c2, c3] ∧ TreeIs Any W t [c0, c1, c2, c3] ∧ tbulk t ≤ Rows.uptoBulk d := by
 obtain ⟨fuel, hf⟩ := h
 obtain ⟨t, h1, h2⟩ := tt _ fuel _ _ (Nat.le_refl _) hf
 have h4 := h1.four
 obtain ⟨c0, c1, c2, c3, e⟩ := qH h4
 refine ⟨t, c0, c1, c2, c3, ?_, e ▸ h1, h2⟩
 apply Array.ext'
 simpa using e
end
end Go.Proofs.Ytpnpdlnpikkeaaa
namespace Go.Proofs.Ytpnpdlnpikkeaaa
open Go.RowKit Lx Sx
abbrev lT (W : World) : Nat → Prop := fun b => b < W.heap.size
theorem RowIn.live {W : World} {sz n : Nat} {A : Option Addr} {xs : List Value} (h : RowIn Any W sz A n xs) : RowIn (lT W) W sz A n xs := ⟨h.1, fun hp => by
 obtain ⟨b, off, h1, _, h3, h4⟩ := h.2 hp
 exact ⟨b, off, h1, h3, h3, h4⟩⟩
mutual
theorem TreeIs.live {W : World} : ∀ {t : Tree} {c : List Value}, TreeIs Any W t c → TreeIs (lT W) W t c
 | .node k s ls ks, c, h => by
  simp only [TreeIs] at h ⊢
  obtain ⟨A, m, B, n, h1, h2, h3, h4, h5, h6, cs, h7, h8⟩ := h
  exact ⟨A, m, B, n, h1, h2, h3, h4, h5, h6.live, cs, KidsAre.live h7, h8.live⟩
theorem KidsAre.live {W : World} : ∀ {ts : List Tree} {cs : List Value}, KidsAre Any W ts cs → KidsAre (lT W) W ts cs
 | [], cs, h => by simp only [KidsAre] at h ⊢; exact h
 | t :: r, cs, h => by
  simp only [KidsAre] at h ⊢
  obtain ⟨c, d, h1, h2, h3⟩ := h
  exact ⟨c, d, h1, TreeIs.live h2, KidsAre.live h3⟩
end
abbrev VLive (W : World) (v : V) (x : Value) : Prop := VRel (lT W) W (fun _ => none) v x
theorem Co {W : World} {t : Tree} {c0 c1 c2 c3 : Value} (h : TreeIs Any W t [c0, c1, c2, c3]) : VLive W (lZ t) (.agg #[c0, c1, c2, c3]) := by
 simp only [VLive, VRel]
 exact ⟨_, rfl, TreeIs.vrel h.live⟩
theorem Cn {fid : FuncId} {us : List V} {b : Bool} (h : mi Try.prog fid us (.bool b)) {W : World} {xs : List Value} (hx : LRel (lT W) W (fun _ => none) us xs) : Calls Try.prog fid xs.toArray W fun e W' => e = .returned (.bool b) ∧ Ext W W' := by
 have h0 := yC W
 have hr' : HRel (lT W) W (fun _ => none) (⟨0, []⟩ : Hp).get := ⟨h0.ob, fun i b hb => by rw [lq] at hb; exact hb.elim, fun i j b hb _ => by rw [lq] at hb; exact hb.elim, fun _ h => h⟩
 refine (h.2.2 _ W _ xs hr' hx).mono ?_
 rintro e W' ⟨x, S', ρ', v, H', rfl, rfl, h1, h2, h3⟩
 simp only [VRel] at h3
 subst h3
 have hno : ∀ b, ¬ ∃ id, own (fun _ => none) id ((⟨0, []⟩ : Hp).get id) b := fun b ⟨id, hb⟩ => by rw [lq] at hb; exact hb
 exact ⟨rfl, Chg.ext ⟨h2.chg.os, h2.chg.tape, h2.chg.output, h2.chg.size, fun b hb _ => h2.chg.block b hb (hno b)⟩⟩
theorem lr1 {W : World} {u : V} {x : Value} (h : VLive W u x) : LRel (lT W) W (fun _ => none) [u] [x] := ⟨x, [], rfl, h, rfl⟩
end Go.Proofs.Ytpnpdlnpikkeaaa
