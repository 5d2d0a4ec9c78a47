/- Contracts of the functions that the law reaches, part 8. -/
import Derived.Test.YtomplbgchbfjpaaGreatDoorLa7
set_option linter.unusedVariables false
set_option linter.unusedSimpArgs false
namespace Go.Proofs.YtomplbgchbfjpaaGreatDoor
open Go.RowKit Lx Sx
set_option maxRecDepth 100000
set_option maxHeartbeats 1000000
theorem Gm (l : List ae) (hl : l.length ≤ 1000000000) : gP l l true := by
 have loop : ∀ k i, k + i = l.length → dY (k + 1) l l i true := fun k => by
  induction k with
  | zero => intro i hi; exact kE 0 _ _ _ _ (⟨fun h => absurd h (by omega), fun _ => rfl⟩)
  | succ k ih =>
   intro i hi
   obtain ⟨x, hx⟩ : ∃ x, l[i]? = some x := ⟨_, List.getElem?_eq_getElem (by omega)⟩
   exact kE (k + 1) _ _ _ _ (⟨fun _ => ⟨x, hx, x, hx, fun h => absurd rfl h, fun _ => ⟨x, hx, x, hx, fun h => absurd rfl h, fun _ => ⟨x, hx, x, hx, true, tM _, fun h => (by cases h), fun _ => ih (i + 1) (by omega)⟩⟩⟩, fun h => absurd (by omega) h⟩)
 exact qw (l.length + 1) _ _ _ (⟨fun h => absurd rfl h, fun _ => loop l.length 0 (by omega)⟩)
theorem BJ : ∀ {p : List Tree}, Mok p → bg p = true
 | [], _ => rfl
 | t :: r, h => by
  obtain ⟨h1, h2⟩ := h t (by simp)
  simp only [bg, h1, h2, BJ (p := r) (fun x hx => h x (by simp [hx]))]
  rfl
theorem Fo {p : List Tree} (hp : bg p = true) (hb : kbulk p ≤ 10000000) : ∃ r, cS p r ∧ cS (p.map bareK) r ∧ r.length ≤ 90000000 := by
 obtain ⟨nm, _, h1⟩ := (wR hb).2 hp
 have hb2 := xU p
 obtain ⟨nm', _, h2⟩ := (wR (p := p.map bareK) (by omega)).2 (by rw [pX]; exact hp)
 have hl := (Dv hp hb nm 0 []).1.fa
 have hf := Jm (p := p) nm 0 []
 simp only [List.length_nil, Nat.zero_add] at hl
 obtain ⟨r, g1, g2, _⟩ := Gj (ke p nm 0 []).fa (by omega) (fun e he => by have := hf e he; show e.At.Path.length ≤ 1000000000; omega)
 exact ⟨r, h1 r g1, h2 r (by rw [Hh p nm nm' 0 []]; exact g1), by rw [g2.length_eq]; omega⟩
theorem Ka (l : List Int) : kA l true := by
 have hL : lA l (decide (((l.length : Nat) : Int) ≤ 120)) := uA 0 _ _ (rfl)
 by_cases hl : ((l.length : Nat) : Int) ≤ 120
 ·obtain ⟨p, h1, h2, h3⟩ := EO l (by omega)
  have hp := BJ h3
  obtain ⟨r, e1, e2, e3⟩ := Fo hp (by omega)
  have hlen := gI p
  have loop : ∀ k i, k + i = p.length → dq (k + 1) p ((p.take i).map bareK) i true := fun k => by
   induction k with
   | zero =>
    intro i hi
    have e : p.take i = p := List.take_of_length_le (by omega)
    rw [e]
    exact ju 0 _ _ _ _ (⟨fun h => absurd h (by omega), fun _ => ⟨true, IV, fun _ => ⟨_, e1, _, e2, _, Gm r (by omega), rfl⟩, fun h => (by cases h)⟩⟩)
   | succ k ih =>
    intro i hi
    obtain ⟨t, ht⟩ : ∃ t, p[i]? = some t := ⟨_, List.getElem?_eq_getElem (by omega)⟩
    have hbt := ct ht
    have e : (p.take i).map bareK ++ [bareK t] = (p.take (i + 1)).map bareK := by rw [List.take_add_one, ht, List.map_append]; rfl
    refine ju (k + 1) _ _ _ _ (⟨fun _ => ⟨t, ht, _, Mh t (by omega), ?_, ?_⟩, fun h => absurd (by omega) h⟩)
    ·rw [e, List.length_map, List.length_take]; omega
    ·rw [e]; exact ih (i + 1) (by omega)
  exact jN (p.length + 1) _ _ (⟨_, hL, fun h => absurd hl (of_decide_eq_false h), fun _ => ⟨p, h1, by simpa using loop p.length 0 (by omega)⟩⟩)
 ·exact jN 0 _ _ (⟨_, hL, fun _ => ⟨true, IV, rfl⟩, fun h => absurd (of_decide_eq_true h) hl⟩)
open Go.RowKit Go.ChangeShapes Go.WideShapes Go.Deep
theorem GI : Tryz.prog.cellsOf 3 = 1 := by kernel_rfl
theorem Mt {H : Type} {enc : TypeId × Value → H} {W : World} {a0 : Option Addr} {len cap : Nat} {d : DataW H} {p : List MemPlace} (h : DataW.Trod enc Tryz.prog W 0 (fun _ => true) true 23 (.slice a0 len cap) d p) :
  ∃ zs : List Int, len = zs.length ∧ len ≤ cap ∧ cap ≤ maxLen ∧ RowIn Any W 1 a0 zs.length (zs.map fun z => .int .i64 z) := by
 obtain ⟨fuel, hf⟩ := h
 rcases open_ints Tryz.underlying23 Tryz.underlying3 GI hf with ⟨hcs, hx⟩ | ⟨a, len', cap', zs, hcs, hb, hl, hm, hlen, hx, hcell, hwf⟩
 ·simp [Value.cells] at hcs
  obtain ⟨rfl, rfl, rfl⟩ := hcs
  exact ⟨[], rfl, Nat.le_refl _, Nat.zero_le _, RowIn.none_⟩
 ·simp [Value.cells] at hcs
  obtain ⟨rfl, rfl, rfl⟩ := hcs
  simp only [if_true] at hlen
  have hlt : (zs.take len).length = len := by simp; omega
  refine ⟨zs.take len, hlt.symm, hl, hm, by simp, fun h0 => ?_⟩
  rw [hlt] at h0 ⊢
  have hs : a.spot = none := World.cell?_spot (a := a) (by have := hcell 0 (by omega); simpa [Addr.add] using this)
  obtain ⟨b, off, spot⟩ := a
  simp only at hs
  subst hs
  have hadd : ∀ k, (⟨b, off, none⟩ : Addr).add k = ⟨b, off + k, none⟩ := fun k => by unfold Addr.add; split <;> simp_all
  refine ⟨b, off, rfl, trivial, ?_, fun j hj => ?_⟩
  ·have := hcell 0 (by omega)
   exact World.block_lt_of_cell? W ⟨b, off, none⟩ (by simpa [Addr.add] using this)
  ·have hj' : j < len := by omega
   have := hcell j (by omega)
   rw [hadd] at this
   rw [this]
   simp [hj', List.getD_eq_getElem?_getD, show j < zs.length from by omega]
abbrev rH (W : World) : Nat → Prop := fun b => b < W.heap.size
theorem RowIn.live {W : World} {sz n : Nat} {A : Option Addr} {xs : List Value} (h : RowIn Any W sz A n xs) : RowIn (rH W) W sz A n xs := ⟨h.1, fun hp => by
 obtain ⟨b, off, h1, _, h3, h4⟩ := h.2 hp
 exact ⟨b, off, h1, h3, h3, h4⟩⟩
abbrev VLive (W : World) (v : V) (x : Value) : Prop := VRel (rH W) W (fun _ => none) v x
theorem NP {W : World} {l : List Int} {A : Option Addr} {cap : Nat} (hc : l.length ≤ cap) (hm : cap ≤ maxLen) (hr : RowIn Any W 1 A l.length (l.map fun z => .int .i64 z)) : VLive W (.row 1 (l.map (V.int .i64))) (.slice A l.length cap) := by
 simp only [VLive, VRel]
 exact ⟨A, cap, _, by simp, by simpa using hc, hm, Bg l, by simpa using hr.live⟩
theorem NO {fid : FuncId} {us : List V} {b : Bool} (h : oX Tryz.prog fid us (.bool b)) {W : World} (hgl : ∀ p ∈ vS, VRel (rH W) W ρ0 (.box p.2 0) (.pointer (some ⟨p.1, 0, none⟩)) := by exact fun p hp => nomatch hp) {xs : List Value} (hx : LRel (rH W) W (fun _ => none) us xs) : Calls Tryz.prog fid xs.toArray W fun e W' => e = .returned (.bool b) ∧ Ext W W' := by
 have hr' : HRel (rH W) W (fun _ => none) (⟨0, []⟩ : Hp).get := IS ⟨fun _ h => h, hgl⟩
 refine (h.2.2 _ W _ xs hr' hx).mono ?_
 rintro e W' ⟨x, S', ρ', v, H', rfl, rfl, h1, h2, h3⟩
 simp only [VRel] at h3
 subst h3
 have hno : ∀ b, ¬ ∃ id, own (fun _ => none) id ((⟨0, []⟩ : Hp).get id) b := fun b ⟨id, hb⟩ => by rw [uO] at hb; exact hb
 exact ⟨rfl, Chg.ext ⟨h2.chg.os, h2.chg.tape, h2.chg.output, h2.chg.size, fun b hb _ => h2.chg.block b hb (hno b)⟩⟩
theorem lr1 {W : World} {u : V} {x : Value} (h : VLive W u x) : LRel (rH W) W (fun _ => none) [u] [x] := ⟨x, [], rfl, h, rfl⟩
open Go.RowKit Go.ChangeShapes Go.WideShapes Lx Sx
theorem Ci : Tryz.prog.cellsOf 58 = 2 := by kernel_rfl
theorem Fl : Tryz.prog.cellsOf 3 = 1 := by kernel_rfl
theorem wu {W : World} {n : String} {z : Int} {g : Nat} {r : List (String × DataW Unit)} {ps : List MemPlace} (hg : Tryz.prog.globalNamed n = some g) (ht : (Tryz.prog.globals[g]?).map (·.type) = some 58) (h : DataW.LaidVars Tryz.prog W ((n, .agg [.lit (.int .i64 z), .lit (.int .i64 0)]) :: r) ps) :
  (∃ qs, DataW.LaidVars Tryz.prog W r qs) ∧ VRel (rH W) W ρ0 (.box [.int .i64 z, .int .i64 0] 0) (.pointer (some ⟨g, 0, none⟩)) := by
 obtain ⟨g', t, cs, fuel, p, q, h1, h2, h3, h4, h5, _⟩ := h
 rw [hg] at h1
 injection h1 with h1; subst h1
 rw [ht] at h2
 injection h2 with h2; subst h2
 refine ⟨⟨q, h5⟩, ?_⟩
 obtain ⟨y0, y1, n', hx, hl, h6, h7⟩ := trod_struct2 Tryz.underlying58 h4
 rw [Ci] at hl
 simp only [Fl] at h6 h7
 obtain ⟨a, e0, f0, _⟩ := DataW.trod_int Tryz.underlying3 h6
 obtain ⟨b, e1, f1, _⟩ := DataW.trod_int Tryz.underlying3 h7
 rw [f0, f1] at hx
 simp only [Prod.mk.injEq, DataW.agg.injEq, List.cons.injEq, DataW.lit.injEq, Lit.int.injEq, true_and, and_true] at hx
 obtain ⟨⟨rfl, rfl⟩, _⟩ := hx
 have hcs : cs.toList = [.int .i64 z, .int .i64 0] := by
  match hc : cs.toList, hl with
  | [c0, c1], _ =>
   rw [hc] at e0 e1
   simp only [List.drop_zero, List.drop_succ_cons, List.take_succ_cons, List.take_zero, List.cons.injEq, and_true] at e0 e1
   rw [e0, e1]
 unfold World.var? at h3
 rw [hg] at h3
 simp only [Option.bind_some] at h3
 split at h3
 ·rename_i cs' ty fz hb
  injection h3 with h3; subst h3
  have hlt : g < W.heap.size := by
   rcases Nat.lt_or_ge g W.heap.size with h | h
   ·exact h
   ·rw [Array.getElem?_eq_none h] at hb; cases hb
  simp only [VRel]
  refine ⟨g, 0, [.int .i64 z, .int .i64 0], rfl, hlt, hlt, by simp only [LRel, VRel]; exact ⟨_, _, rfl, rfl, _, _, rfl, rfl, rfl⟩, fun j hj => ?_⟩
  rw [← hcs]
  simp [World.cell?, hb]
 ·cases h3
theorem NN {W : World} {ps : List MemPlace} (h : DataW.LaidVars Tryz.prog W [("semvcs/typing.integer", Rows.laid_semvcs_typing_integer), ("semvcs/typing.text", Rows.laid_semvcs_typing_text), ("semvcs/typing.boolean", Rows.laid_semvcs_typing_boolean)] ps) : ∀ p ∈ vS, VRel (rH W) W ρ0 (.box p.2 0) (.pointer (some ⟨p.1, 0, none⟩)) := by
 obtain ⟨⟨q1, h1⟩, a1⟩ := wu (g := 0) (by kernel_rfl) (by kernel_rfl) h
 obtain ⟨⟨q2, h2⟩, a2⟩ := wu (g := 1) (by kernel_rfl) (by kernel_rfl) h1
 obtain ⟨_, a3⟩ := wu (g := 2) (by kernel_rfl) (by kernel_rfl) h2
 intro p hp
 simp only [vS, List.mem_cons, List.not_mem_nil, or_false] at hp
 rcases hp with rfl | rfl | rfl
 ·exact a1
 ·exact a2
 ·exact a3
def Hf (cs : Array Value) : Obj → Obj
 | .cells _ t frozen => .cells cs t frozen
 | o => o
noncomputable def Fy (os : Os) : World :=
 let w0 := World.holding Tryz.prog os ⟨#[], #[], []⟩
 { w0 with heap := ((w0.heap.modify 0 (Hf #[.int .i64 5, .int .i64 0])).modify 1 (Hf #[.int .i64 6, .int .i64 0])).modify 2 (Hf #[.int .i64 7, .int .i64 0]) }
theorem Nu (os : Os) (args : Array Value) : laidMet Tryz.prog Rows.typingLayoutRow.laid ((Fy os).forCall (fun _ _ => 0) ⟨#[], args, []⟩).memory :=
 laidMet_of_run' 8 (by kernel_rfl) (by kernel_rfl)
end Go.Proofs.YtomplbgchbfjpaaGreatDoor
