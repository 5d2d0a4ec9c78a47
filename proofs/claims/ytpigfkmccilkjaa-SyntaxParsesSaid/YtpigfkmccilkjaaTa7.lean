/- Contracts of the functions that the law reaches, part 7. -/
import Derived.Test.YtpigfkmccilkjaaTa6
set_option linter.unusedVariables false
set_option linter.unusedSimpArgs false
namespace Go.Proofs.Ytpigfkmccilkjaa
open Go.RowKit Lx Sx
set_option maxRecDepth 100000
theorem vx : (Try.prog.info? 66).map (·.size) = some 2 := by kernel_rfl
theorem xU : (Try.prog.info? 5).map (fun i => (i.zero, i.size, i.bytes)) = some (some (.int .u8 0), 1, 1) := by kernel_rfl
theorem vY : Try.prog.cellsOf 5 = 1 := by kernel_rfl
theorem zi : liesAt Try.prog Try.prog.depth 68 (3 / Try.prog.cellsOf 68) 0 66 1 = true := by kernel_rfl
abbrev PrB (b : Nat) (p v : Value) (last : List UInt8) (w : World) : Prop := w.heap[b]? = some (.cells #[p, v, .string ⟨last.toArray⟩] 68 (0, 0))
abbrev Buf (v : Value) (l : List UInt8) (w : World) : Prop := w.ownsRow 0 5 1 v l.length (Lib.byteCells l)
theorem pn {w : World} {b : Nat} {o : Obj} (h : w.heap[b]? = some o) : b < w.heap.size := by
 rcases Nat.lt_or_ge b w.heap.size with h' | h'
 ·exact h'
 ·simp [Array.getElem?_eq_none h'] at h
set_option maxHeartbeats 1000000 in
theorem qO (b : Nat) (w : World) (h0 : w.cell? ⟨b, 0, none⟩ = some (.pointer (some ⟨b, 0, none⟩))) :
  Calls Try.prog 90 #[.pointer (some ⟨b, 0, none⟩)] w fun e w' => e = .returned (.tuple #[]) ∧ w = w' := by
 obtain ⟨j, hj, _⟩ := Option.map_eq_some_iff.1 vx
 go_enter Try.func90, Try.ntmps90
 go_wp2
 rw [Lib.run_neq_ptr_same w _ Try.underlying63 hj]
 go_wp2
 go_end0
 exact ⟨rfl, rfl⟩
set_option maxHeartbeats 1000000 in
theorem ql (b : Nat) (w : World) (h0 : w.cell? ⟨b, 0, none⟩ = some (.pointer none)) (hsh : w.shape? b = some (68, 3)) (hfz : w.frozen? ⟨b, 0, none⟩ = false) :
  Calls Try.prog 90 #[.pointer (some ⟨b, 0, none⟩)] w fun e w' => e = .returned (.tuple #[]) ∧ w' = w.setCell ⟨b, 0, none⟩ (.pointer (some ⟨b, 0, none⟩)) := by
 obtain ⟨j, hj, hjs⟩ := Option.map_eq_some_iff.1 vx
 go_enter Try.func90, Try.ntmps90
 go_wp2
 rw [Lib.run_to_unsafe w ⟨b, 0, none⟩ Try.underlying63 Try.underlying96 hj (by rw [hjs]; decide) hsh (Nat.succ_pos _)]
 simp only [Result.andThen]
 rw [Oper.upon_value]
 go_wp2
 rw [run_callFunc_extern Try.func95 (by kernel_rfl) (by kernel_rfl) (by kernel_rfl) (e := Extern.AbiNoEscape.same) (by kernel_rfl)]
 rw [Lib.run_noEscape]
 simp only [Result.andThen]
 rw [Oper.upon_value]
 go_wp2
 rw [Lib.run_from_unsafe w ⟨b, 0, none⟩ Try.underlying96 Try.underlying63 hj hsh zi]
 simp only [Result.andThen]
 rw [Oper.upon_value]
 go_wp2
 go_end0
 exact ⟨rfl, rfl⟩
theorem vU (w : World) (b i : Nat) (u : Value) : ChgP (· = b) w (w.setCell ⟨b, i, none⟩ u) := ⟨rfl, rfl, rfl, by simp [World.setCell], fun k _ hk => Below.heap_setCell _ _ _ _ hk⟩
theorem vr {w : World} {b i : Nat} {u v : Value} {l : List UInt8} (h : Buf v l w) (hne : v.ownBlock ≠ some b) : Buf v l (w.setCell ⟨b, i, none⟩ u) :=
 h.kept (row := some b) ⟨rfl, rfl, rfl, by simp [World.setCell], fun k _ hk => Below.heap_setCell _ _ _ _ (fun e => hk (by simp [e]))⟩ (Or.inr hne)
theorem uP {b : Nat} {p v : Value} {last l : List UInt8} {w : World} (hp : p = .pointer none ∨ p = .pointer (some ⟨b, 0, none⟩)) (hbk : PrB b p v last w) (hown : Buf v l w) :
  Calls Try.prog 90 #[.pointer (some ⟨b, 0, none⟩)] w fun e w' => e = .returned (.tuple #[]) ∧ PrB b (.pointer (some ⟨b, 0, none⟩)) v last w' ∧ Buf v l w' ∧ ChgP (· = b) w w' := by
 have hc0 : w.cell? ⟨b, 0, none⟩ = some p := by rw [Lib.cell_of_heap hbk]; rfl
 have hne : v.ownBlock ≠ some b := Lib.ownBlock_ne hown hbk (by decide)
 rcases hp with rfl | rfl
 ·refine (ql b w hc0 (by simp [World.shape?, hbk]) (Lib.frozen_of_heap hbk 0)).mono ?_
  rintro e w' ⟨rfl, rfl⟩
  exact ⟨rfl, by simp [PrB, World.setCell, Array.getElem?_modify, hbk], vr hown hne, vU _ _ _ _⟩
 ·refine (qO b w hc0).mono ?_
  rintro e w' ⟨rfl, rfl⟩
  exact ⟨rfl, hbk, hown, ChgP.refl _ _⟩
section
open Go.Lib
variable {P : Program}
theorem uq (w : World) (t u ty e : TypeId) (i : TypeInfo) (ht : P.underlying t = some (.slice e)) (hu : P.underlying u = some .string) (hi : P.info? e = some i) (hz : i.zero = some (.int .u8 0)) (hsize : i.size = 1) (hby : i.bytes = 1)
  (v : Value) (n : Nat) (xs : List Value) (hown : w.ownsRow 0 e 1 v n xs) (s : ByteArray) (h63 : n + s.size ≤ maxLen) (hbytes : n + s.size ≤ 140737488355328) :
  ∃ v' w', (Builtin.append_ #[t, u] ty #[v, .string s]).run P w = .ok v' w' ∧ w'.ownsRow 0 e 1 v' (n + s.size) (xs ++ strCells s) ∧ w.grownBy w' v.ownBlock ∧ ∀ g, v'.ownBlock = some g → v.ownBlock = some g ∨ w.heap.size ≤ g := by
 obtain ⟨v', w', hr, h2, h3, h4⟩ := run_append_own_string (P := P) w 0 t u ty e i ht hu hi hz hsize hby v n xs hown s h63 hbytes (Nat.zero_le _)
 refine ⟨v', w', hr, h2, h3, fun g hg => ?_⟩
 have hxl : xs.length = n := by simpa using hown.1
 rcases hown.2 with ⟨rfl, rfl⟩ | ⟨g0, cap, cur, rfl, hbg, hgh, hnc, hcm, hcs, htake⟩
 ·by_cases hm : s.size = 0
  ·have := h4.2 ⟨rfl, hm⟩
   subst this; cases hg
  ·rw [run_append_nil_string (P := P) w t u ty e i (.int .u8 0) ht hu hi hz s (by omega) (by omega) (by rw [hby]; omega)] at hr
   cases hr; cases hg; exact .inr (Nat.le_refl _)
 ·by_cases hroom : n + s.size ≤ cap
  ·rw [run_append_room_string (P := P) w t u ty e i ht hu hi hsize g0 n cap cur hgh s hroom (by simp at hcs; omega)] at hr
   cases hr; exact .inl hg
  ·rw [run_append_grow_string (P := P) w t u ty e i (.int .u8 0) ht hu hi hz ⟨g0, 0, none⟩ n cap xs (by rw [hsize]; simpa using hxl) (hown.cells (g := g0) rfl) s (by omega) (by omega) (by rw [hby]; exact growslice_fits (by omega) (by omega))] at hr
   cases hr; cases hg; exact .inr (Nat.le_refl _)
theorem ss {w : World} {ops : Array Oper} {rest : List Oper} {o : Oper} {a : Act} {Q : Exit → Act → World → Prop} (hgd : o.guard = none) (sl x : Operand) (t u : TypeId)
  (ho : o.op = .call { callee := .builtin .append, args := #[sl, x], argTypes := #[t, u] })
  (e : TypeId) (i : TypeInfo) (ht : P.underlying t = some (.slice e)) (hu : P.underlying u = some .string) (hi : P.info? e = some i) (hz : i.zero = some (.int .u8 0)) (hsize : i.size = 1) (hby : i.bytes = 1)
  (v : Value) (n : Nat) (xs : List Value) (hs : a.eval sl = v) (hown : w.ownsRow 0 e 1 v n xs) (s : ByteArray) (hx : a.eval x = .string s)
  (h63 : n + s.size ≤ maxLen) (hbytes : n + s.size ≤ 140737488355328)
  (h : ∀ v' w', w'.ownsRow 0 e 1 v' (n + s.size) (xs ++ strCells s) → w.grownBy w' v.ownBlock → (∀ g, v'.ownBlock = some g → v.ownBlock = some g ∨ w.heap.size ≤ g) → wpList P ops Q rest (a.put o.dst v') w') : wpList P ops Q (o :: rest) a w := by
 refine wpList_plain hgd fun K hK => ?_
 obtain ⟨v', w', hr, h2, h3, h4⟩ := uq w t u o.type e i ht hu hi hz hsize hby v n xs hown s h63 hbytes
 unfold Oper.wp execOp
 simp only [ho, resolve, invoke, builtin, Sem.run_bind, Sem.run_pure, Result.andThen_ok, List.map_toArray, List.map_cons, List.map_nil, hs, hx, hr]
 exact hK _ _ (h v' w' h2 h3 h4)
end
set_option maxHeartbeats 2000000 in
theorem sj {b : Nat} {p v : Value} {last l s : List UInt8} {w : World} (hp : p = .pointer none ∨ p = .pointer (some ⟨b, 0, none⟩)) (hbk0 : PrB b p v last w) (hown0 : Buf v l w) (hlen : l.length + s.length ≤ 140737488355328) :
  Calls Try.prog 82 #[.pointer (some ⟨b, 0, none⟩), .string ⟨s.toArray⟩] w fun e w' => e = .returned (.tuple #[.int .i64 s.length, .nilIface]) ∧ ∃ v', PrB b (.pointer (some ⟨b, 0, none⟩)) v' last w' ∧ Buf v' (l ++ s) w' ∧ (∀ g, v'.ownBlock = some g → v.ownBlock = some g ∨ w.heap.size ≤ g) ∧ ChgP (fun k => k = b ∨ v.ownBlock = some k) w w' := by
 obtain ⟨i0, hi, hz0, hz1, hz2⟩ := mZ xU
 have HB := Lib.hid hbk0
 have HO := Lib.hid hown0
 clear hbk0 hown0
 go_enter Try.func82, Try.ntmps82
 go_wp2_with (go_at_call 90; refine (uP (l := l) hp HB.out HO.out).mono ?_)
 rintro e w1 ⟨rfl, hbk, hown, hc1⟩
 have hne : v.ownBlock ≠ some b := Lib.ownBlock_ne hown hbk (by decide)
 have HBk := Lib.hid hbk
 have HC := Lib.hid hc1; clear hc1
 have c1 : w1.cell? ⟨b, 1, none⟩ = some v := by rw [Lib.cell_of_heap hbk]; rfl
 clear hbk
 go_wp2_with (at_builtin; refine ss rfl _ _ 64 9 rfl 5 i0 Try.underlying64 Try.underlying9 hi hz0 hz1 hz2 _ _ _ rfl hown ⟨s.toArray⟩ rfl ?c3 ?c4 ?_)
 case c3 => unfold maxLen; simp only [List.size_toArray, ByteArray.size]; omega
 case c4 => simp only [List.size_toArray, ByteArray.size]; omega
 intro v' w2 hown' hgrow hnew
 have hlt : b < w1.heap.size := pn HBk.out
 have hb2 : PrB b (.pointer (some ⟨b, 0, none⟩)) v last w2 := by
  show w2.heap[b]? = _
  rw [hgrow.block b hlt (fun e => hne e.symm)]
  exact HBk.out
 have d1 : w2.cell? ⟨b, 1, none⟩ = some v := by rw [Lib.cell_of_heap hb2]; rfl
 have f1 : w2.frozen? ⟨b, 1, none⟩ = false := Lib.frozen_of_heap hb2 1
 have hown2 : Buf v' (l ++ s) w2 := by
  have e1 : Lib.byteCells (l ++ s) = Lib.byteCells l ++ Lib.strCells ⟨s.toArray⟩ := by simp [Lib.byteCells, Lib.strCells]
  show w2.ownsRow _ _ _ _ (l ++ s).length (Lib.byteCells (l ++ s))
  rw [e1, List.length_append]; exact hown'
 obtain ⟨ao, n', cap, hv'⟩ : ∃ ao n' cap, v' = .slice ao n' cap := by
  rcases hown'.2 with ⟨hv, _⟩ | ⟨g, cap, cur, hv, _⟩
  ·exact ⟨_, _, _, hv⟩
  ·exact ⟨_, _, _, hv⟩
 subst hv'
 have hne2 := Lib.ownBlock_ne hown2 hb2 (by decide)
 have HG := Lib.hid hgrow
 have HN := Lib.hid hnew
 have HO2 := Lib.hid hown2
 have HB2 := Lib.hid hb2
 clear hgrow hown hown' hown2 hb2 hnew
 go_wp2
 go_ret2
 refine ⟨by simp, .slice ao n' cap, by simp [PrB, World.setCell, Array.getElem?_modify, HB2.out], vr HO2.out hne2, fun g hg => ?_, ?_⟩
 ·rcases HN.out g hg with h | h
  ·exact .inl h
  ·exact .inr (Nat.le_trans HC.out.size h)
 ·have h1 : ChgP (fun k => k = b ∨ v.ownBlock = some k) w w1 := HC.out.mono fun k e => .inl e
  have h2 : ChgP (fun k => k = b ∨ v.ownBlock = some k) w1 w2 := ⟨HG.out.os, HG.out.tape, HG.out.output, HG.out.size, fun k hk hn => HG.out.block k hk fun e => hn (.inr e.symm)⟩
  exact (h1.trans h2 fun k e => .inl e).trans ((vU w2 b 1 _).mono fun k e => .inl e) fun k e => .inl e
theorem oT (X : Nat → Prop) (w : World) : ChgP X w w.drew := ⟨rfl, rfl, rfl, Nat.le_refl _, fun _ _ _ => rfl⟩
theorem xz (X : Nat → Prop) (w : World) (o : Obj) : ChgP X w (w.alloc o) := ⟨rfl, rfl, rfl, by simp, fun k hk _ => Below.heap_alloc _ _ _ hk⟩
theorem wm (w : World) (g n : Nat) : ChgP (· = g) w (w.freeze ⟨g, 0, none⟩ n) := by
 unfold World.freeze
 split
 ·exact ChgP.refl _ _
 ·exact ⟨rfl, rfl, rfl, by simp, fun k hk hn => by
   simp only [Array.getElem?_modify]
   rw [if_neg (fun e => hn e.symm)]⟩
theorem pc (W : World) (q : Option Addr) : (Builtin.unsafeString_ #[85, 3] 9 #[.pointer q, .int .i64 0]).run Try.prog W = .ok (.string .empty) W :=
 Lib.run_unsafeString_none W _ _ _ q
set_option maxHeartbeats 2000000 in
theorem qM {b : Nat} {p v : Value} {last l : List UInt8} {w : World} (hbk : PrB b p v last w) (hown : Buf v l w) :
  Calls Try.prog 39 #[.pointer (some ⟨b, 0, none⟩)] w fun e w' => e = .returned (.string ⟨l.toArray⟩) ∧ ChgP (fun k => k = b ∨ v.ownBlock = some k) w w' := by
 have hlt : b < w.heap.size := pn hbk
 by_cases h0 : l = []
 ·subst h0
  have hUS := pc
  rcases hown.2 with ⟨rfl, _⟩ | ⟨g, cap, cur, rfl, hbg, hg, _⟩
  ·have c1 : w.drew.cell? ⟨b, 1, none⟩ = some (.slice none 0 0) := by
    have : w.drew.heap[b]? = some (.cells #[p, .slice none 0 0, .string ⟨last.toArray⟩] 68 (0, 0)) := hbk
    rw [Lib.cell_of_heap this]; rfl
   have hSD : (Builtin.unsafeSliceData_ #[64] 85 #[.slice none 0 0]).run Try.prog w.drew = .ok (.pointer none) w.drew := rfl
   clear hbk hown
   go_enter Try.func39, Try.ntmps39
   go_wp2
   go_region
   all_goals (go_wp2; go_ret; exact ⟨rfl, oT _ w⟩)
  ·by_cases hc0 : cap = 0
   ·subst hc0
    have c1 : w.drew.cell? ⟨b, 1, none⟩ = some (.slice (some ⟨g, 0, none⟩) 0 0) := by
     have : w.drew.heap[b]? = some (.cells #[p, .slice (some ⟨g, 0, none⟩) 0 0, .string ⟨last.toArray⟩] 68 (0, 0)) := hbk
     rw [Lib.cell_of_heap this]; rfl
    have hSD : (Builtin.unsafeSliceData_ #[64] 85 #[.slice (some ⟨g, 0, none⟩) 0 0]).run Try.prog w.drew = .ok (.pointer (some ⟨w.drew.heap.size, 0, none⟩)) (w.drew.alloc (.view ⟨g, 0, none⟩ 5)) :=
     Lib.run_unsafeSliceData_zero w.drew _ _ 5 Try.underlying85 ⟨g, 0, none⟩ 0 (5, cur.size) (by have hg' : w.drew.heap[g]? = some (.cells cur 5 (0, 0)) := hg; simp [World.shape?, hg'])
    have c2 : (w.drew.alloc (.view ⟨g, 0, none⟩ 5)).cell? ⟨b, 1, none⟩ = some (.slice (some ⟨g, 0, none⟩) 0 0) := by
     have : (w.drew.alloc (.view ⟨g, 0, none⟩ 5)).heap[b]? = _ := (Below.heap_alloc w.drew _ b hlt).trans hbk
     rw [Lib.cell_of_heap this]; rfl
    have c3 : (w.alloc (.view ⟨g, 0, none⟩ 5)).drew.cell? ⟨b, 1, none⟩ = some (.slice (some ⟨g, 0, none⟩) 0 0) := c2
    have c0 : w.cell? ⟨b, 1, none⟩ = some (.slice (some ⟨g, 0, none⟩) 0 0) := c1
    clear hbk hown hg
    go_enter Try.func39, Try.ntmps39
    go_wp2
    go_region
    all_goals (go_wp2; go_ret; exact ⟨rfl, (oT _ w).trans (xz _ _ _) fun _ e => .inl e⟩)
   ·have c1 : w.drew.cell? ⟨b, 1, none⟩ = some (.slice (some ⟨g, 0, none⟩) 0 cap) := by
     have : w.drew.heap[b]? = some (.cells #[p, .slice (some ⟨g, 0, none⟩) 0 cap, .string ⟨last.toArray⟩] 68 (0, 0)) := hbk
     rw [Lib.cell_of_heap this]; rfl
    have hSD : (Builtin.unsafeSliceData_ #[64] 85 #[.slice (some ⟨g, 0, none⟩) 0 cap]).run Try.prog w.drew = .ok (.pointer (some ⟨g, 0, none⟩)) w.drew :=
     Lib.run_unsafeSliceData_row _ _ _ _ _ _ hc0
    clear hbk hown hg hc0
    go_enter Try.func39, Try.ntmps39
    go_wp2
    go_region
    all_goals (go_wp2; go_ret; exact ⟨rfl, oT _ w⟩)
 ·have hl0 : l.length ≠ 0 := by simpa using h0
  obtain ⟨g, cap, cur, rfl, hbg, hg, hnc, hcm, hcs, htake⟩ : ∃ g cap cur, v = .slice (some ⟨g, 0, none⟩) l.length cap ∧ 0 ≤ g ∧ w.heap[g]? = some (.cells cur 5 (0, 0)) ∧ l.length ≤ cap ∧ cap ≤ maxLen ∧ cur.size = cap * 1 ∧ cur.toList.take (l.length * 1) = Lib.byteCells l := by
   rcases hown.2 with ⟨_, hz⟩ | ⟨g, cap, cur, hv, r⟩
   ·exact absurd hz hl0
   ·exact ⟨g, cap, cur, hv, r⟩
  have c1 : w.drew.cell? ⟨b, 1, none⟩ = some (.slice (some ⟨g, 0, none⟩) l.length cap) := by
   have : w.drew.heap[b]? = some (.cells #[p, .slice (some ⟨g, 0, none⟩) l.length cap, .string ⟨last.toArray⟩] 68 (0, 0)) := hbk
   rw [Lib.cell_of_heap this]; rfl
  have hSD : (Builtin.unsafeSliceData_ #[64] 85 #[.slice (some ⟨g, 0, none⟩) l.length cap]).run Try.prog w.drew = .ok (.pointer (some ⟨g, 0, none⟩)) w.drew :=
   Lib.run_unsafeSliceData_row _ _ _ _ _ _ (by omega)
  have hUS : (Builtin.unsafeString_ #[85, 3] 9 #[.pointer (some ⟨g, 0, none⟩), .int .i64 l.length]).run Try.prog w.drew = .ok (.string ⟨l.toArray⟩) (w.drew.freeze ⟨g, 0, none⟩ l.length) := by
   refine Lib.run_unsafeString_row w.drew 85 3 9 5 Try.underlying85 vY g cur.size (by have hg' : w.drew.heap[g]? = some (.cells cur 5 (0, 0)) := hg; simp [World.shape?, hg']) l h0 (by omega) (by unfold maxLen at hcm; omega) ?_
   intro j x hx
   have := hown.cells (g := g) rfl j (.int .u8 x.toNat) (by simp [Lib.byteCells, hx])
   exact this
  clear hbk hown hg htake hcs
  go_enter Try.func39, Try.ntmps39
  go_wp2
  go_region
  all_goals (go_wp2; go_ret; exact ⟨rfl, (oT _ w).trans ((wm _ g _).mono fun k e => .inr (by rw [e]; rfl)) fun _ e => .inl e⟩)
set_option maxHeartbeats 2000000
structure Pce where
 Lead : List UInt8
 Text : List UInt8
def fU (ls : List (List UInt8)) (c : Nat) : List (List Pce) → Nat → List Pce
 | [], _ => []
 | f :: r, i => (if 0 < i then [⟨ls.getD (c + i - 1) [], [44]⟩] else []) ++ (f ++ fU ls c r (i + 1))
def mX (k : Int) (x : List UInt8) (ls : List (List UInt8)) (fs : List (List Pce)) : List Pce :=
 if k = 1 then ⟨ls.getD 0 [], [109, 111, 100, 117, 108, 101]⟩ :: ⟨ls.getD 1 [], x⟩ :: (fs.flatten ++ [⟨ls.getD 2 [], []⟩])
 else if k = 2 then ⟨ls.getD 0 [], [100, 101, 102]⟩ :: ⟨ls.getD 1 [], x⟩ :: ⟨ls.getD 2 [], [40]⟩ :: (fU ls 6 (fs.take (fs.length - 2)) 0 ++ (⟨ls.getD 3 [], [41]⟩ :: ⟨ls.getD 4 [], [58]⟩ :: (fs.getD (fs.length - 2) [] ++ (⟨ls.getD 5 [], [61]⟩ :: fs.getD (fs.length - 1) []))))
 else if k = 3 then ⟨ls.getD 0 [], [116, 121, 112, 101]⟩ :: ⟨ls.getD 1 [], x⟩ :: ⟨ls.getD 2 [], [61]⟩ :: fs.getD 0 []
 else if k = 4 then ⟨ls.getD 0 [], x⟩ :: ⟨ls.getD 1 [], [58]⟩ :: fs.getD 0 []
 else if k = 17 then fs.getD 0 []
 else if k = 8 then ⟨ls.getD 0 [], [91]⟩ :: (fs.getD 0 [] ++ [⟨ls.getD 1 [], [93]⟩])
 else if k = 16 then ⟨ls.getD 0 [], x⟩ :: ⟨ls.getD 1 [], [40]⟩ :: (fU ls 3 fs 0 ++ [⟨ls.getD 2 [], [41]⟩])
 else if k = 18 then ⟨ls.getD 0 [], [91]⟩ :: (fU ls 2 fs 0 ++ [⟨ls.getD 1 [], [93]⟩])
 else if k = 19 then ⟨ls.getD 0 [], [105, 102]⟩ :: (fs.getD 0 [] ++ (⟨ls.getD 1 [], [116, 104, 101, 110]⟩ :: (fs.getD 1 [] ++ (⟨ls.getD 2 [], [101, 108, 115, 101]⟩ :: fs.getD 2 []))))
 else if k = 20 then ⟨ls.getD 0 [], [108, 101, 116]⟩ :: ⟨ls.getD 1 [], x⟩ :: ⟨ls.getD 2 [], [61]⟩ :: (fs.getD 0 [] ++ (⟨ls.getD 3 [], [105, 110]⟩ :: fs.getD 1 []))
 else if k = 21 then fs.getD 0 [] ++ (⟨ls.getD 0 [], x⟩ :: fs.getD 1 [])
 else if k = 22 then ⟨ls.getD 0 [], [40]⟩ :: (fs.getD 0 [] ++ [⟨ls.getD 1 [], [41]⟩])
 else [⟨ls.getD 0 [], if k = 5 then [73, 110, 116] else if k = 6 then [84, 101, 120, 116] else if k = 7 then [66, 111, 111, 108] else if k = 13 then [116, 114, 117, 101] else if k = 14 then [102, 97, 108, 115, 101] else if k = 15 then [63] else x⟩]
mutual
def pcT : Tree → List Pce
 | .node k x ls ks => mX k x ls (pcTs ks)
def pcTs : List Tree → List (List Pce)
 | [] => []
 | t :: r => pcT t :: pcTs r
end
theorem zQ (t : Tree) : pcT t = mX t.kind t.text t.leads (pcTs t.kids) := by cases t; simp only [pcT]; rfl
theorem rX : ∀ ks : List Tree, pcTs ks = ks.map pcT
 | [] => rfl
 | t :: r => by simp [pcTs, rX r]
theorem pi {k n : Int} : ∀ {l : List Tree} {i : Nat}, shapeKs k n i l = true → ∀ j u, l[j]? = some u → nU k n ((i + j : Nat) : Int) u.kind = true ∧ shapeK u = true
 | [], _, _, j, u, h => by simp at h
 | t :: r, i, hs, 0, u, h => by
  simp only [shapeKs, Bool.and_eq_true] at hs
  simp at h; subst h
  exact ⟨hs.1.1, hs.1.2⟩
 | t :: r, i, hs, j + 1, u, h => by
  simp only [shapeKs, Bool.and_eq_true] at hs
  have := pi hs.2 j u (by simpa using h)
  rw [show i + 1 + j = i + (j + 1) by omega] at this
  exact this
theorem lB {t u : Tree} {i : Nat} (hs : shapeK t = true) (hu : t.kids[i]? = some u) : shapeK u = true ∧ nU t.kind t.kids.length i u.kind = true := by
 rw [ox] at hs
 simp only [Bool.and_eq_true] at hs
 have := pi hs.2 i u hu
 rw [Nat.zero_add] at this
 exact ⟨this.2, this.1⟩
theorem vV {t : Tree} (hs : shapeK t = true) : 0 ≤ eL t.kind t.kids.length := by
 rw [ox] at hs
 simp only [Bool.and_eq_true, decide_eq_true_eq] at hs
 exact hs.1.1
theorem qv {t : Tree} (hs : shapeK t = true) : (t.kind = 2 → 2 ≤ t.kids.length) ∧ (t.kind = 18 → 1 ≤ t.kids.length) ∧ (t.kind = 3 ∨ t.kind = 4 ∨ t.kind = 8 ∨ t.kind = 17 ∨ t.kind = 22 → t.kids.length = 1) ∧ (t.kind = 19 → t.kids.length = 3) ∧ (t.kind = 20 ∨ t.kind = 21 → t.kids.length = 2) := by
 have h := vV hs
 refine ⟨fun hk => ?_, fun hk => ?_, fun hk => ?_, fun hk => ?_, fun hk => ?_⟩
 ·rw [hk] at h; simp only [eL, f0] at h; simp at h; omega
 ·rw [hk] at h; simp only [eL, f0] at h; simp at h; omega
 ·rcases hk with hk | hk | hk | hk | hk <;> (rw [hk] at h; simp only [eL, f0] at h; simp at h; omega)
 ·rw [hk] at h; simp only [eL, f0] at h; simp at h; omega
 ·rcases hk with hk | hk <;> (rw [hk] at h; simp only [eL, f0] at h; simp at h; omega)
open Go.RowKit
inductive It where
 | seq (c : Code)
 | blk (id : Nat)
inductive Pt where
 | code (c : Code)
 | ops (all : Array Oper) (rest : List Oper)
 | ex (e : Exit)
def stk (P : Program) (Q : Exit → Act → World → Prop) : List It → Exit → Act → World → Prop
 | [] => Q
 | .seq c :: s => Exit.then (c.wp P (stk P Q s)) (stk P Q s)
 | .blk id :: s => Exit.inBlock id (stk P Q s)
def Pt.wp (P : Program) (Q : Exit → Act → World → Prop) (p : Pt) (s : List It) (a : Act) (w : World) : Prop :=
 match p with
 | .code c => c.wp P (stk P Q s) a w
 | .ops all rest => wpList P all (stk P Q s) rest a w
 | .ex e => stk P Q s e a w
section
variable {P : Program} {Q : Exit → Act → World → Prop} {a : Act} {w w' : World} {n : Nat} {f f' : Nat → Option Value} {ft : Nat → Nat → Option Nat} {p p' : Pt} {s s' : List It}
end
section
variable {P : Program} {Q : Exit → Act → World → Prop} {a : Act} {w w' : World} {n : Nat} {f f' : Nat → Option Value} {p p' : Pt} {s s' : List It} {all : Array Oper} {rest : List Oper} {d : Option Tmp} {op : Op} {ty : TypeId} {ps : String} {af : Array Edge} {g : Option (Nat × Bool)} {v : Value}
end
section
variable {w w1 : World} {b c : Nat} {t : TypeId} {cs : List Value}
theorem Blk.same {w0 : World} {t0 : TypeId} {cs0 : List Value} (h : Blk w b t cs) (h0 : Blk w0 b t0 cs0) (i : Nat) (e : cs[i]? = cs0[i]? := by rfl) : w.cell? ⟨b, i, none⟩ = w0.cell? ⟨b, i, none⟩ := (h.cell i).trans (e.trans (h0.cell i).symm)
end
section
variable {a : Act} {w : World} {n : Nat} {f : Nat → Option Value} {tb : TypeId} {b o : Nat} {v : Value} {vs cs : List Value}
end
set_option maxHeartbeats 4000000
def ot (k n : Int) : Int :=
 if k = 1 then (if n < 0 then -1 else 3)
 else if k = 2 then (if n < 2 then -1 else if 2 < n then 6 + (n - 3) else 6)
 else if k = 16 then (if n < 0 then -1 else if 0 < n then 3 + (n - 1) else 3)
 else if k = 18 then (if n < 1 then -1 else 2 + (n - 1))
 else if k = 3 then (if n = 1 then 3 else -1)
 else if k = 4 ∨ k = 8 ∨ k = 22 then (if n = 1 then 2 else -1)
 else if k = 17 then (if n = 1 then 0 else -1)
 else if k = 19 then (if n = 3 then 3 else -1)
 else if k = 20 then (if n = 2 then 4 else -1)
 else if k = 21 then (if n = 2 then 1 else -1)
 else if k = 5 ∨ k = 6 ∨ k = 7 ∨ k = 9 ∨ k = 10 ∨ k = 11 ∨ k = 12 ∨ k = 13 ∨ k = 14 ∨ k = 15 then (if n = 0 then 1 else -1)
 else -1
def rP (S : Nat → Prop) (w : World) (v : Value) (l : List TokZ) : Prop := ∃ A c, v = .slice A l.length c ∧ l.length ≤ c ∧ c ≤ maxLen ∧ RowIn S w 3 A l.length (bN l)
theorem rP.keep {S S' : Nat → Prop} {w w' : World} {v : Value} {l : List TokZ} (h : rP S w v l) (hS : ∀ b, S b → S' b) (hk : ∀ b, S b → b < w.heap.size → w'.heap[b]? = w.heap[b]?) : rP S' w' v l := by
 obtain ⟨A, c, e, h1, h2, h3⟩ := h
 exact ⟨A, c, e, h1, h2, h3.keep hS hk⟩
def wj : List TokZ → Nat
 | [] => 0
 | t :: r => t.lead.length + t.text.length + wj r
def yi : List TokZ → Nat
 | [] => 0
 | t :: r => t.text.length + wj r
def AX (s : PS) : Prop := s.off + yi s.toks ≤ 1099511627776 ∧ s.size ≤ 1099511627776 ∧ s.failed ≤ 1000 ∧ s.toks.length ≤ 1000000
def PAt (H : Nat) (w : World) (p : Nat) (s : PS) : Prop :=
 H ≤ p ∧ AX s ∧ ∃ v, Blk w p 39 [v, .int .i64 (s.off : Nat), .int .i64 (s.size : Nat), .int .i64 (s.failed : Nat), .int .i64 (s.place : Nat)] ∧ rP (fun b => b < H) w v s.toks
section
variable {H p : Nat} {w w' : World} {s : PS} {X : List Nat}
theorem PAt.lt (h : PAt H w p s) : p < w.heap.size := by obtain ⟨_, _, _, hB, _⟩ := h; exact hB.lt
theorem PAt.le (h : PAt H w p s) : H ≤ p := h.1
theorem PAt.chg (h : PAt H w p s) (hx : Chg X w w') (hX : ∀ b, b ∈ X → H ≤ b ∧ p ≠ b) : PAt H w' p s := by
 obtain ⟨h1, h2, v, hB, hT⟩ := h
 refine ⟨h1, h2, v, hB.chg hx (fun hp => (hX p hp).2 rfl), hT.keep (fun _ h => h) (fun b hb hlt => hx.block b hlt (fun hc => ?_))⟩
 have := (hX b hc).1
 omega
end
section
variable {toks r : List TokZ} {t u : TokZ} {off size failed place e pl : Nat}
end
section
variable {S S' : Nat → Prop} {w w' : World} {X : List Nat}
theorem TreeIs.chg {t : Tree} {c : List Value} (h : TreeIs S w t c) (hx : Chg X w w') (hX : ∀ b, S b → b < w.heap.size → b ∉ X) : TreeIs S w' t c := h.keepB (fun _ h _ => h) (fun b hb hlt => hx.block b hlt (hX b hb hlt))
theorem TreeIs.mono {t : Tree} {c : List Value} (h : TreeIs S w t c) (hS : ∀ b, S b → S' b) : TreeIs S' w t c := h.keepB (fun b hb _ => hS b hb) (fun _ _ _ => rfl)
theorem KidsAre.chg {t : List Tree} {c : List Value} (h : KidsAre S w t c) (hx : Chg X w w') (hX : ∀ b, S b → b < w.heap.size → b ∉ X) : KidsAre S w' t c := h.keepB (fun _ h _ => h) (fun b hb hlt => hx.block b hlt (hX b hb hlt))
theorem KidsAre.mono {t : List Tree} {c : List Value} (h : KidsAre S w t c) (hS : ∀ b, S b → S' b) : KidsAre S' w t c := h.keepB (fun b hb _ => hS b hb) (fun _ _ _ => rfl)
end
section
variable {n m : Nat} {ks : List Tree} {s : PS}
variable (h : ¬ s.toks = [])
include h
variable (h0 : (ab s).text = dQ ∨ (ab s).text = cz)
include h0
end
def oC (w0 : World) (b2 bt lg : Nat) (kv : Value) (ks : List Tree) (w : World) : Prop :=
 (kv = .slice none 0 0 ∧ ks = []) ∨ ∃ kg kcap cc, kv = .slice (some ⟨kg, 0, none⟩) ks.length kcap ∧ w.ownsRow w0.heap.size 26 4 (.slice (some ⟨kg, 0, none⟩) ks.length kcap) ks.length cc ∧
  KidsAre (fun b => w0.heap.size ≤ b ∧ b ≠ b2 ∧ b ≠ bt ∧ b ≠ lg ∧ b ≠ kg) w ks cc ∧ b2 ≠ kg ∧ bt ≠ kg ∧ lg ≠ kg
theorem oC.chg {w0 w w' : World} {b2 bt lg p : Nat} {kv : Value} {ks : List Tree} (h : oC w0 b2 bt lg kv ks w) {X : List Nat} (hx : Chg X w w') (hp : ∀ b, b ∈ X → b < w0.heap.size ∨ b = b2 ∨ b = bt ∨ b = lg) : oC w0 b2 bt lg kv ks w' := by
 rcases h with h | ⟨kg, kcap, cc, h1, h2, h3, h4, h5, h6⟩
 ·exact .inl h
 ·refine .inr ⟨kg, kcap, cc, h1, xh h2 hx (fun hc => ?_), h3.chg hx (fun b hb _ hc => ?_), h4, h5, h6⟩
  ·have := hp kg hc; have := yD h2; omega
  ·have := hp b hc; omega
theorem oC.one {w0 w : World} {b2 bt lg : Nat} {kv : Value} {ks : List Tree} (h : oC w0 b2 bt lg kv ks w) : kv.oneCell' = true := by
 rcases h with ⟨rfl, _⟩ | ⟨kg, kcap, cc, rfl, _⟩ <;> rfl
open Go.RowKit Lx
theorem wI (a b : List UInt8) : (ByteArray.mk a.toArray) ++ (ByteArray.mk b.toArray) = ⟨(a ++ b).toArray⟩ := by
 apply ByteArray.ext; simp
theorem rA {a b : List UInt8} (h : bm a = 0 ∨ bm b = 0) : fusesT a b = false := by simp [fusesT, h]
theorem my {a b : List UInt8} (h : ¬ (bm a = 0 ∨ bm b = 0)) (h2 : ¬ ((scan (a ++ b)).err = 0 ∧ (scan (a ++ b)).toks.length = 2 ∧ (scan (a ++ b)).tail = [])) : fusesT a b = true := by
 unfold fusesT; rw [if_neg h]; simp only; rw [if_neg h2]
theorem vb {a b : List UInt8} {t0 t1 : TokZ} (h : ¬ (bm a = 0 ∨ bm b = 0)) (h1 : (scan (a ++ b)).err = 0) (h2 : (scan (a ++ b)).toks = [t0, t1]) (h3 : (scan (a ++ b)).tail = []) :
  fusesT a b = !(t0.lead == [] && t0.text == a && t1.lead == [] && t1.text == b) := by
 unfold fusesT; rw [if_neg h]; simp only; rw [h1, h2, h3]; simp
theorem sE {l : List TokZ} (h : l.length = 2) : ∃ t0 t1, l = [t0, t1] := by
 match l, h with
 | [a, b], _ => exact ⟨a, b, rfl⟩
set_option maxHeartbeats 2000000 in
theorem Ai (a b : List UInt8) (w : World) (ha : a.length ≤ 140737488355328) (hb : b.length ≤ 140737488355328) : Calls Try.prog 83 #[.string ⟨a.toArray⟩, .string ⟨b.toArray⟩] w fun e w' => e = .returned (.bool (fusesT a b)) ∧ Ext w w' := by
 have hx := wI
 obtain ⟨ka, hka⟩ : ∃ k, bm a = k := ⟨_, rfl⟩
 obtain ⟨kb, hkb⟩ : ∃ k, bm b = k := ⟨_, rfl⟩
 have HKa := Lib.hid hka
 have HKb := Lib.hid hkb
 clear hka hkb
 go_enter Try.func83, Try.ntmps83
 go_wp2_with fail
 refine (sf _ _ (by omega)).mono ?_
 rintro e1 w1 ⟨rfl, rfl⟩
 rw [HKa.out]
 by_cases h1 : ka = 0
 ·subst h1
  go_wp2_with fail
  go_ret
  exact ⟨bS (rA (.inl HKa.out)).symm, Ext.refl _⟩
 have h1b : ((ka : Int) == 0) = false := by simp; omega
 go_wp2_with fail
 refine (sf _ _ (by omega)).mono ?_
 rintro e2 w2 ⟨rfl, rfl⟩
 rw [HKb.out]
 by_cases h2 : kb = 0
 ·subst h2
  go_wp2_with fail
  go_ret
  exact ⟨bS (rA (.inr HKb.out)).symm, Ext.refl _⟩
 have h2b : ((kb : Int) == 0) = false := by simp; omega
 have HN := Lib.hid (show ¬ (bm a = 0 ∨ bm b = 0) from by rw [HKa.out, HKb.out]; omega)
 obtain ⟨Rs, hRs⟩ : ∃ Rs, scan (a ++ b) = Rs := ⟨_, rfl⟩
 have HRs := Lib.hid hRs
 clear hRs
 go_wp2_with fail
 refine (AJ _ _ (by simp; omega)).mono ?_
 rintro e3 w3 ⟨v, rfl, htr, hx3⟩
 rw [HRs.out] at htr ⊢
 obtain ⟨A, c, rfl, hc1, hc2, hrow⟩ := htr
 unfold maxLen at hc2
 have HX3 := Lib.hid (hx3); clear hx3
 have HRow := Lib.hid hrow; clear hrow
 obtain ⟨toks, tail, place, er⟩ := Rs
 simp only at HRow hc1 hc2 ⊢
 by_cases h3 : er = 0
 rotate_left
 ·have h3b : ((er : Int) != 0) = true := by simp; omega
  have HF := Lib.hid (my HN.out (fun h => h3 (by rw [HRs.out] at h; exact h.1)))
  go_wp2_with fail
  go_ret
  exact ⟨bS HF.out.symm, HX3.out⟩
 subst h3
 by_cases h4 : toks.length = 2
 rotate_left
 ·have h4b : ((toks.length : Int) != 2) = true := by simp; omega
  have HF := Lib.hid (my HN.out (fun h => h4 (by rw [HRs.out] at h; exact h.2.1)))
  go_wp2_with fail
  go_ret
  exact ⟨bS HF.out.symm, HX3.out⟩
 by_cases h5 : tail = []
 rotate_left
 ·have h5b : (tail == []) = false := by simpa using h5
  have h5c : tail.isEmpty = false := by simpa using h5
  obtain ⟨t0, t1, rfl⟩ := sE h4
  have HF := Lib.hid (my HN.out (fun h => h5 (by rw [HRs.out] at h; exact h.2.2)))
  clear h5 h4
  go_wp2_with fail
  go_ret
  exact ⟨bS HF.out.symm, HX3.out⟩
 subst h5
 obtain ⟨t0, t1, rfl⟩ := sE h4
 clear h4
 obtain ⟨b0, off, rfl, hb0, p0, p1, p2⟩ := rt HRow.out (k := 0) (by simp)
 obtain ⟨b0', off', heq, _, q0, q1, q2⟩ := rt HRow.out (k := 1) (by simp)
 obtain ⟨rfl, rfl⟩ : b0 = b0' ∧ off = off' := by simpa using heq
 clear heq
 have HF := Lib.hid (vb HN.out (by rw [HRs.out]) (by rw [HRs.out]) (by rw [HRs.out]))
 simp only [Nat.zero_mul, Nat.one_mul, Nat.add_zero, List.getElem_cons_zero, List.getElem_cons_succ] at p0 p1 p2 q0 q1 q2
 cases g0 : (t0.lead == [])
 ·skip
  have g0' : t0.lead.isEmpty = false := by simpa using g0
  go_wp2_with fail
  go_ret
  exact ⟨bS (by rw [HF.out, g0]; rfl), HX3.out⟩
 have g0' : t0.lead.isEmpty = true := by simpa using g0
 cases g1 : (t0.text == a)
 ·skip
  go_wp2_with fail
  go_ret
  exact ⟨bS (by rw [HF.out, g0, g1]; rfl), HX3.out⟩
 cases g2 : (t1.lead == [])
 ·skip
  have g2' : t1.lead.isEmpty = false := by simpa using g2
  go_wp2_with fail
  go_ret
  exact ⟨bS (by rw [HF.out, g0, g1, g2]; rfl), HX3.out⟩
 have g2' : t1.lead.isEmpty = true := by simpa using g2
 cases g3 : (t1.text == b)
 all_goals
  go_wp2_with fail
  go_ret
  exact ⟨bS (by rw [HF.out, g0, g1, g2, g3]; rfl), HX3.out⟩
def mc (k : Int) : List (List UInt8) → Nat → Bool
 | [], _ => true
 | l :: r, i => cS false l (k == 1 && (i : Int) == 2) && mc k r (i + 1)
mutual
def leadedT : Tree → Bool
 | .node k _ ls ks => decide ((ls.length : Int) = ot k ks.length) && mc k ls 0 && leadedsT ks
def leadedsT : List Tree → Bool
 | [] => true
 | t :: r => leadedT t && leadedsT r
end
set_option maxHeartbeats 1000000 in
theorem yo (l : List UInt8) (fin : Bool) (w : World) (hl : l.length ≤ 281474976710656) : Calls Try.prog 37 #[.string ⟨l.toArray⟩, .bool fin] w fun e w' => e = .returned (.bool (cS false l fin)) ∧ w = w' := by
 obtain ⟨r, hr⟩ : ∃ r, cS false l fin = r := ⟨_, rfl⟩
 rw [hr]
 have HR := Lib.hid hr; clear hr
 go_enter Try.func37, Try.ntmps37
 go_wp2_with fail
 go_loopg [5, 6] l.length (fun g s5 s6 wx => ∃ (i : Nat) (c : Bool), g = l.length - i ∧ wx = w ∧ i ≤ l.length ∧ s5 = .bool c ∧ s6 = .int .i64 i ∧ Hid (cS c (l.drop i) fin = r))
 case atStart => exact ⟨0, false, rfl, rfl, Nat.zero_le _, rfl, rfl, Lib.hid (by simpa using HR.out)⟩
 case round =>
  obtain ⟨i, c, rfl, rfl, hil, rfl, rfl, HT⟩ := hrel
  by_cases hit : i < l.length
  rotate_left
  ·have HF := Lib.hid (show (!c || fin) = r from by rw [← HT.out, tu (by omega)])
   cases c <;> (go_wp2_with fail; go_ret; exact ⟨bS (by rw [← HF.out]; rfl), rfl⟩)
  obtain ⟨x, hx⟩ : ∃ c, ({ data := l.toArray } : ByteArray)[i]'hit = c := ⟨_, rfl⟩
  have HXi := Lib.hid (show l[i] = x from hx)
  have HS := Lib.hid (HT.out.symm.trans (rZ hit HXi.out))
  clear HT
  cases ha : aN x
  ·go_wp2_with (first | (go_at_call 20; refine qmm (fv _ _) ?_) | (go_at_call 21; refine qmm (bl _ _) ?_))
   go_ret
   exact ⟨bS (by rw [HS.out, if_pos ha]), rfl⟩
  cases c with
  | true =>
   go_wp2_with (first | (go_at_call 20; refine qmm (fv _ _) ?_) | (go_at_call 21; refine qmm (bl _ _) ?_))
   go_roundg (l.length - (i + 1))
   case measure => omega
   case rel => exact ⟨i + 1, !(x.toNat == 10), rfl, rfl, by omega, by rw [Ay], by go_num, Lib.hid (by rw [HS.out, if_neg (by simp [ha]), if_pos (by trivial)])⟩
  | false =>
   cases h35 : ((x.toNat : Int) == 35)
   rotate_left
   ·go_wp2_with (first | (go_at_call 20; refine qmm (fv _ _) ?_) | (go_at_call 21; refine qmm (bl _ _) ?_))
    go_roundg (l.length - (i + 1))
    case measure => omega
    case rel => exact ⟨i + 1, true, rfl, rfl, by omega, rfl, by go_num, Lib.hid (by rw [HS.out, if_neg (by simp [ha]), if_neg (by simp), if_pos (dE (m := 35) h35)])⟩
   cases hw : bX x
   ·go_wp2_with (first | (go_at_call 20; refine qmm (fv _ _) ?_) | (go_at_call 21; refine qmm (bl _ _) ?_))
    go_ret
    exact ⟨bS (by rw [HS.out, if_neg (by simp [ha]), if_neg (by simp), if_neg (cf (m := 35) h35), if_pos hw]), rfl⟩
   ·go_wp2_with (first | (go_at_call 20; refine qmm (fv _ _) ?_) | (go_at_call 21; refine qmm (bl _ _) ?_))
    go_roundg (l.length - (i + 1))
    case measure => omega
    case rel => exact ⟨i + 1, false, rfl, rfl, by omega, rfl, by go_num, Lib.hid (by rw [HS.out, if_neg (by simp [ha]), if_neg (by simp), if_neg (cf (m := 35) h35), if_neg (by simp [hw])])⟩
theorem ry (a : List UInt8) (f : Bool) (ha : a.length ≤ 140737488351232) : mo a f (cS false a f) := sum0_calls rfl rfl fun S w ρ xs hx => by
 simp only [LRel] at hx
 obtain ⟨x, ys, rfl, h1, y, zs, rfl, h2, rfl⟩ := hx
 simp only [VRel] at h1 h2; subst h1 h2
 exact (yo a f w (by omega)).mono fun e w' ⟨h1, h2⟩ => ⟨_, h1, by simp only [VRel], h2 ▸ Chg.refl _ _⟩
theorem nk (k n : Int) : ot k n = eL k n := by
 unfold ot eL f0
 repeat' split
 all_goals first | rfl | omega
theorem vu : ∀ t : Tree, tbulk t ≤ 40000000 → shapeK t = true → iN t (leadedT t) := kK fun t ih ht hs => by
 have hk := nE t
 have hl := wl t
 have hbt := me t
 have kids : ∀ k i, t.kids.length - i ≤ k → ∃ M, fV M t i (leadedsT (t.kids.drop i)) := fun k => by
  have last : ∀ i, ¬ i < t.kids.length → ∃ M, fV M t i (leadedsT (t.kids.drop i)) := fun i hi => by
   rw [List.drop_of_length_le (by omega)]
   exact ⟨1, lP 0 _ _ _ ⟨fun h => absurd h hi, fun _ => rfl⟩⟩
  induction k with
  | zero => intro i hi; exact last i (by omega)
  | succ k ihk =>
   intro i hi
   obtain ⟨u, hu, hul⟩ | h' := lA t.kids i
   ·have := lm hu
    have hb := ih i u hu (by omega) (lB hs hu).1
    obtain ⟨M, hM⟩ := ihk (i + 1) (by omega)
    rw [kP hu, leadedsT]
    refine ⟨M + 1, lP M _ _ _ ⟨fun _ => ⟨u, hu, _, hb, fun e => ?_, fun e => ?_⟩, fun h => absurd hul h⟩⟩
    ·rw [e]; rfl
    ·rw [e]; exact ⟨by omega, hM⟩
   ·exact last i h'
 obtain ⟨M0, h0⟩ := kids t.kids.length 0 (by omega)
 rw [List.drop_zero] at h0
 have lead : ∀ k i, t.leads.length - i ≤ k → ∃ M, eN M t i (mc t.kind (t.leads.drop i) i && leadedsT t.kids) := fun k => by
  have last : ∀ i, ¬ i < t.leads.length → ∃ M, eN M t i (mc t.kind (t.leads.drop i) i && leadedsT t.kids) := fun i hi => by
   rw [List.drop_of_length_le (by omega)]
   exact ⟨_, jr _ _ _ _ ⟨fun h => absurd h hi, fun _ => h0⟩⟩
  induction k with
  | zero => intro i hi; exact last i (by omega)
  | succ k ihk =>
   intro i hi
   obtain ⟨s, hs, hsl⟩ | h' := lA t.leads i
   ·have hsl2 := sn hs
    obtain ⟨M, hM⟩ := ihk (i + 1) (by omega)
    rw [kP hs, mc]
    by_cases h1 : t.kind = 1
    ·have ht1 := ry s (((i : Nat) : Int) == 2) (by omega)
     have e1 : (t.kind == 1 && (i : Int) == 2) = ((i : Int) == 2) := by simp [h1]
     rw [e1]
     refine ⟨M + 1, jr M _ _ _ ⟨fun _ => ⟨s, hs, fun _ => ⟨_, ht1, fun e => ?_, fun e => ?_⟩, fun h => absurd h1 h⟩, fun h => absurd hsl h⟩⟩
     ·rw [e]; rfl
     ·rw [e]; exact ⟨by omega, hM⟩
    ·have ht1 := ry s false (by omega)
     have e1 : (t.kind == 1 && (i : Int) == 2) = false := by simp [h1]
     rw [e1]
     refine ⟨M + 1, jr M _ _ _ ⟨fun _ => ⟨s, hs, fun h => absurd h h1, fun _ => ⟨_, ht1, fun e => ?_, fun e => ?_⟩⟩, fun h => absurd hsl h⟩⟩
     ·rw [e]; rfl
     ·rw [e]; exact ⟨by omega, hM⟩
   ·exact last i h'
 have e : leadedT t = (decide ((t.leads.length : Int) = ot t.kind t.kids.length) && (mc t.kind t.leads 0 && leadedsT t.kids)) := by cases t; simp only [leadedT, Bool.and_assoc]; rfl
 rw [nk] at e
 by_cases h : ((t.leads.length : Nat) : Int) = eL t.kind t.kids.length
 ·obtain ⟨M, hM⟩ := lead t.leads.length 0 (by omega)
  rw [List.drop_zero] at hM
  refine mb M _ _ ⟨_, oP (by omega) (by omega), fun h' => absurd h h', fun _ => ?_⟩
  rw [e, decide_eq_true h]; exact hM
 ·refine mb 0 _ _ ⟨_, oP (by omega) (by omega), fun _ => ?_, fun h' => absurd h' h⟩
  rw [e, decide_eq_false h]; rfl
def u8i (x : UInt8) : Int := x.toNat
section
variable {S : Nat → Prop} {w : World} {ρ : Nat → Option Value}
theorem ye : ∀ {l : List UInt8} {xs : List Value}, CRel S w ρ 1 (List.map (V.int .u8) (l.map u8i)) xs → xs = Lib.byteCells l
 | [], xs, h => by simp only [List.map_nil, CRel] at h; exact h
 | b :: r, xs, h => by
  simp only [List.map_cons, CRel, VRel] at h
  obtain ⟨x, ys, rfl, _, rfl, h4⟩ := h
  rw [ye h4]; rfl
theorem wt : ∀ l : List UInt8, CRel S w ρ 1 (List.map (V.int .u8) (l.map u8i)) (Lib.byteCells l)
 | [] => by simp only [List.map_nil, CRel]; rfl
 | b :: r => by
  simp only [List.map_cons, CRel]
  exact ⟨.int .u8 b.toNat, Lib.byteCells r, rfl, ⟨rfl, rfl⟩, by simp only [VRel]; rfl, wt r⟩
end
abbrev PrH (x l : List UInt8) : Hp := ⟨2, [(1, .row 5 1 (List.map (V.int .u8) (l.map u8i))), (0, .var 68 [.np 0, .sl 1, .str x])]⟩
theorem tH {S : Nat → Prop} {w : World} {ρ : Nat → Option Value} {x l : List UInt8} {b : Nat} (hr : HRel S w ρ (PrH x l).get) (hb : ρ 0 = some (.pointer (some ⟨b, 0, none⟩))) : ∃ p v, (p = .pointer none ∨ p = .pointer (some ⟨b, 0, none⟩)) ∧ ρ 1 = some v ∧ PrB b p v x w ∧ Buf v l w := by
 obtain ⟨b', cs, h1, hbk, hcs⟩ : fG S w ρ 0 (.var 68 [.np 0, .sl 1, .str x]) := hr.ob 0
 rw [hb] at h1
 simp only [Option.some.injEq, Value.pointer.injEq, Addr.mk.injEq, and_true] at h1
 subst h1
 simp only [LRel, VRel] at hcs
 obtain ⟨p, _, rfl, hp, v, _, rfl, ⟨hv, _⟩, z, _, rfl, rfl, rfl⟩ := hcs
 obtain ⟨v', ys, g1, hown, hc⟩ : fG S w ρ 1 (.row 5 1 (List.map (V.int .u8) (l.map u8i))) := hr.ob 1
 rw [hv] at g1
 cases g1
 have := ye hc
 subst this
 refine ⟨p, v, ?_, hv, hbk, by simpa using hown⟩
 rcases hp with h | ⟨b2, e1, e2⟩
 ·exact .inl h
 ·rw [hb] at e1; cases e1; exact .inr e2
theorem ml (x l : List UInt8) (i : Nat) : (PrH x l).get (i + 2) = .free := by
 unfold Hp.get
 split
 ·rename_i h; simp only [Nat.blt_eq] at h; omega
 ·rfl
theorem xN {x l s : List UInt8} (h : l.length + s.length ≤ 140737488355328) : dr (l.map u8i) x s s.length () ((l ++ s).map u8i) x := fun S w ρ xs hr hx => by
  simp only [LRel, VRel] at hx
  obtain ⟨_, _, rfl, ⟨b, hb, rfl⟩, _, _, rfl, rfl, rfl⟩ := hx
  obtain ⟨p, v, hp, hv, hbk, hown⟩ := tH hr hb
  refine (sj hp hbk hown h).mono ?_
  rintro e w' ⟨rfl, v', k1, k2, k3, k4⟩
  have o0 : ∀ k, k = b → own ρ 0 ((PrH x l).get 0) k := fun k e => by rw [e]; exact hb
  have o1 : ∀ k, v.ownBlock = some k → own ρ 1 ((PrH x l).get 1) k := fun k e => ⟨v, hv, e⟩
  have hsz := k4.size
  have hlt := pn hbk
  have n0 : ∀ g, v'.ownBlock = some g → g ≠ b := fun g hg e => Lib.ownBlock_ne k2 k1 (by decide) (e ▸ hg)
  refine ⟨_, S, fun i => match i with | 0 => ρ 0 | 1 => some v' | _ => none, _, PrH x (l ++ s), rfl, ⟨rfl, rfl⟩, ⟨fun i => ?_, fun i k hk hs => ?_, fun i j k hi hj => ?_, fun k hk => Nat.lt_of_lt_of_le (hr.slt k hk) hsz⟩, ⟨k4.mono fun k e => ?_, fun _ h => h, fun _ h => .inl h, fun i k hk => ?_, fun i y hy => ?_⟩, by simp only [VRel, LRel]; exact ⟨_, rfl, _, _, rfl, rfl, _, _, rfl, ⟨rfl, rfl⟩, rfl⟩⟩
  · match i with
    | 0 => exact ⟨b, [.pointer (some ⟨b, 0, none⟩), v', .string ⟨x.toArray⟩], hb, k1, by
        simp only [LRel, VRel]
        refine ⟨_, _, rfl, .inr ⟨b, hb, rfl⟩, _, _, rfl, ⟨rfl, ?_⟩, _, _, rfl, rfl, rfl⟩
        rcases k2.2 with ⟨rfl, _⟩ | ⟨g, cap, cur, rfl, _⟩ <;> rfl⟩
    | 1 => exact ⟨v', _, rfl, by rw [List.length_map, List.length_map]; exact k2, wt _⟩
    | i + 2 => rw [ml]; rfl
  · match i with
    | 0 =>
      have hk' : k = b := by
        have : ρ 0 = some (.pointer (some ⟨k, 0, none⟩)) := hk
        rw [hb] at this; cases this; rfl
      exact hr.sep 0 k (o0 k hk') hs
    | 1 =>
      obtain ⟨q, e1, e2⟩ := hk
      cases e1
      rcases k3 k e2 with h1 | h1
      · exact hr.sep 1 k (o1 k h1) hs
      · have := hr.slt k hs; omega
    | i + 2 => rw [ml] at hk; exact hk
  · have z : ∀ k, own (fun i => match i with | 0 => ρ 0 | 1 => some v' | _ => none) 0 ((PrH x (l ++ s)).get 0) k → own (fun i => match i with | 0 => ρ 0 | 1 => some v' | _ => none) 1 ((PrH x (l ++ s)).get 1) k → False := fun k h0 h1 => by
      have : ρ 0 = some (.pointer (some ⟨k, 0, none⟩)) := h0
      rw [hb] at this
      cases this
      obtain ⟨q, e1, e2⟩ := h1
      cases e1
      exact n0 _ e2 rfl
    match i, j with
    | 0, 0 => rfl
    | 1, 1 => rfl
    | 0, 1 => exact (z k hi hj).elim
    | 1, 0 => exact (z k hj hi).elim
    | i + 2, _ => rw [ml] at hi; exact hi.elim
    | _, j + 2 => rw [ml] at hj; exact hj.elim
  · rcases e with e | e
    · exact ⟨0, o0 k e⟩
    · exact ⟨1, o1 k e⟩
  · match i with
    | 0 =>
      have : ρ 0 = some (.pointer (some ⟨k, 0, none⟩)) := hk
      exact .inl ⟨0, this⟩
    | 1 =>
      obtain ⟨q, e1, e2⟩ := hk
      cases e1
      rcases k3 k e2 with h1 | h1
      · exact .inl ⟨1, o1 k h1⟩
      · exact .inr h1
    | i + 2 => rw [ml] at hk; exact hk.elim
  · match i with
    | 0 => exact hy
    | 1 => cases hy
    | i + 2 => simp only [ng, ml, gE] at hy; cases hy
theorem AY (x l : List UInt8) : iZ (l.map u8i) x l := fun S w ρ xs hr hx => by
 simp only [LRel, VRel] at hx
 obtain ⟨_, _, rfl, ⟨b, hb, rfl⟩, rfl⟩ := hx
 obtain ⟨p, v, hp, hv, hbk, hown⟩ := tH hr hb
 refine (qM hbk hown).mono ?_
 rintro e w' ⟨rfl, k4⟩
 have hsz := k4.size
 have hg : ∀ i k (ρ' : Nat → Option Value), ¬ own ρ' i ((⟨2, []⟩ : Hp).get i) k := fun i k ρ' h => by
  unfold Hp.get at h
  split at h <;> exact h
 refine ⟨_, S, fun i => match Nat.blt i 2 with | true => ρ i | false => none, _, ⟨2, []⟩, rfl, ⟨rfl, rfl⟩, ⟨fun i => ?_, fun i k hk => (hg _ _ _ hk).elim, fun i j k hi => (hg _ _ _ hi).elim, fun k hk => Nat.lt_of_lt_of_le (hr.slt k hk) hsz⟩, ⟨k4.mono fun k e => ?_, fun _ h => h, fun _ h => .inl h, fun i k hk => (hg _ _ _ hk).elim, fun i y hy => ?_⟩, by simp only [VRel]⟩
 ·unfold Hp.get
  split
  ·trivial
  ·rename_i h; simp only [fG, h]
 ·rcases e with e | e
  ·exact ⟨0, by rw [e]; exact hb⟩
  ·exact ⟨1, v, hv, e⟩
 ·match i with
  | 0 => exact hy
  | 1 => cases hy
  | i + 2 => simp only [ng, ml, gE] at hy; cases hy
def yd (last lead tok : List UInt8) : List UInt8 := if lead = [] ∧ last ≠ [] ∧ fusesT last tok = true then [32] else lead
abbrev WS := List UInt8 × List UInt8
def nf (lead tok : List UInt8) (s : WS) : WS := (tok, s.2 ++ yd s.1 lead tok ++ tok)
def bG (l : List Pce) (s : WS) : WS := l.foldl (fun s p => nf p.Lead p.Text s) s
theorem jF (s : WS) : bG [] s = s := rfl
theorem fH (p : Pce) (l : List Pce) (s : WS) : bG (p :: l) s = bG l (nf p.Lead p.Text s) := rfl
theorem eM (a b : List Pce) (s : WS) : bG (a ++ b) s = bG b (bG a s) := by simp [bG]
theorem oV : ∀ (r : List Pce) (s : WS), s.2.length ≤ (bG r s).2.length
 | [], s => Nat.le_refl _
 | p :: r, s => by
  have := oV r (nf p.Lead p.Text s)
  rw [fH]
  refine Nat.le_trans ?_ this
  simp only [nf, List.length_append]; omega
abbrev PtW (t : Tree) (s s' : WS) : Prop := aB (s.2.map u8i) s.1 t (s'.2.map u8i) s'.1
abbrev PpW (lead x : List UInt8) (s s' : WS) : Prop := am (s.2.map u8i) s.1 lead x (s'.2.map u8i) s'.1
theorem sb (a b : List UInt8) (ha : a.length ≤ 140737488355328) (hb : b.length ≤ 140737488355328) : pe a b (fusesT a b) := sum0_calls rfl rfl fun S w ρ xs hx => by
 simp only [LRel] at hx
 obtain ⟨x, ys, rfl, h1, y, zs, rfl, h2, rfl⟩ := hx
 simp only [VRel] at h1 h2; subst h1 h2
 exact (Ai a b w ha hb).mono fun e w' ⟨h1, h2⟩ => ⟨_, h1, by simp only [VRel], qQ h2⟩
theorem uz {lead x : List UInt8} {s : WS} (h : s.2.length + lead.length + x.length ≤ 140737488355328) : dq 1 (s.2.map u8i) s.1 x lead ((s.2 ++ lead ++ x).map u8i) x :=
 rL0_syntax_printer_put 0 _ _ _ _ _ _ ⟨_, _, _, _, xN (by omega), _, _, _, _, xN (by simp only [List.length_append]; omega), rfl, rfl⟩
theorem cU {lead x : List UInt8} {s : WS} {r : List Pce} (ho : s.1.length ≤ 140737488355328) (hN : (bG (⟨lead, x⟩ :: r) s).2.length ≤ 140737488355328) : PpW lead x s (nf lead x s) ∧ (nf lead x s).1.length ≤ 140737488355328 ∧ (bG r (nf lead x s)).2.length ≤ 140737488355328 := by
 have h1 := Nat.le_trans (oV r (nf lead x s)) hN
 simp only [nf, List.length_append] at h1
 refine ⟨?_, by show x.length ≤ 140737488355328; omega, hN⟩
 unfold nf yd at *
 by_cases h2 : lead = []
 ·by_cases h3 : s.1 = []
  ·rw [if_neg (fun h => h.2.1 h3)] at h1 ⊢
   exact fk 1 _ _ _ _ _ _ ⟨fun _ => ⟨fun h => absurd h3 h, fun _ => uz h1⟩, fun h => absurd h2 h⟩
  ·rcases Bool.eq_false_or_eq_true (fusesT s.1 x) with hf | hf
   ·rw [if_pos ⟨h2, h3, hf⟩] at h1 ⊢
    exact fk 1 _ _ _ _ _ _ ⟨fun _ => ⟨fun _ => ⟨_, sb _ _ ho (by omega), fun _ => uz h1, fun h => by rw [hf] at h; cases h⟩, fun h => absurd h h3⟩, fun h => absurd h2 h⟩
   ·rw [if_neg (fun h => by rw [hf] at h; cases h.2.2)] at h1 ⊢
    exact fk 1 _ _ _ _ _ _ ⟨fun _ => ⟨fun _ => ⟨_, sb _ _ ho (by omega), (fun h => by rw [hf] at h; cases h), fun _ => uz h1⟩, fun h => absurd h h3⟩, fun h => absurd h2 h⟩
 ·rw [if_neg (fun h => h2 h.1)] at h1 ⊢
  exact fk 1 _ _ _ _ _ _ ⟨fun h => absurd h h2, fun _ => uz h1⟩
def Tk (t : Tree) : Prop := ∀ s : WS, s.1.length ≤ 140737488355328 → (bG (pcT t) s).2.length ≤ 140737488355328 → PtW t s (bG (pcT t) s) ∧ (bG (pcT t) s).1.length ≤ 140737488355328
theorem lf {u : Tree} {s : WS} {r : List Pce} (hu : Tk u) (ho : s.1.length ≤ 140737488355328) (hN : (bG (pcT u ++ r) s).2.length ≤ 140737488355328) : PtW u s (bG (pcT u) s) ∧ (bG (pcT u) s).1.length ≤ 140737488355328 ∧ (bG r (bG (pcT u) s)).2.length ≤ 140737488355328 := by
 rw [eM] at hN
 obtain ⟨h1, h2⟩ := hu s ho (Nat.le_trans (oV r _) hN)
 exact ⟨h1, h2, hN⟩
theorem bA {ls : List (List UInt8)} {i : Nat} (h : i < ls.length) : ls[i]? = some (ls.getD i []) := by rw [List.getD_eq_getElem?_getD, List.getElem?_eq_getElem h]; rfl
theorem uh {p : Tree} {us : List Tree} {c : Nat} {s : WS} {r : List Pce} (hu : ∀ u ∈ us, Tk u) (hc : 1 ≤ c) (hc2 : c ≤ 10) (hl : c + us.length ≤ p.leads.length + 1) (hb : us.length ≤ 1000000000) (ho : s.1.length ≤ 140737488355328) (hN : (bG (fU p.leads c (pcTs us) 0 ++ r) s).2.length ≤ 140737488355328) :
  S_syntax_printer_list (s.2.map u8i) s.1 p us c ((bG (fU p.leads c (pcTs us) 0) s).2.map u8i) (bG (fU p.leads c (pcTs us) 0) s).1 ∧ (bG (fU p.leads c (pcTs us) 0) s).1.length ≤ 140737488355328 ∧ (bG r (bG (fU p.leads c (pcTs us) 0) s)).2.length ≤ 140737488355328 := by
 have loop : ∀ k i (s : WS), us.length - i ≤ k → s.1.length ≤ 140737488355328 → (bG (fU p.leads c (pcTs (us.drop i)) i) s).2.length ≤ 140737488355328 → db (k + 1) p us c (s.2.map u8i) s.1 i ((bG (fU p.leads c (pcTs (us.drop i)) i) s).2.map u8i) (bG (fU p.leads c (pcTs (us.drop i)) i) s).1 ∧ (bG (fU p.leads c (pcTs (us.drop i)) i) s).1.length ≤ 140737488355328 := fun k => by
  have fin : ∀ m i (s : WS), ¬ i < us.length → s.1.length ≤ 140737488355328 → db (m + 1) p us c (s.2.map u8i) s.1 i ((bG (fU p.leads c (pcTs (us.drop i)) i) s).2.map u8i) (bG (fU p.leads c (pcTs (us.drop i)) i) s).1 ∧ (bG (fU p.leads c (pcTs (us.drop i)) i) s).1.length ≤ 140737488355328 := fun m i s hi ho => by
   rw [List.drop_of_length_le (by omega)]
   exact ⟨gc m _ _ _ _ _ _ _ _ ⟨fun h => absurd h hi, fun _ => ⟨rfl, rfl⟩⟩, ho⟩
  induction k with
  | zero => intro i s hi ho _; exact fin 0 i s (by omega) ho
  | succ k ih =>
   intro i s hi ho hN
   rcases lA us i with ⟨u, hu', hlt⟩ | h'
   ·have tk := hu u (List.mem_of_getElem? hu')
    rw [kP hu'] at hN ⊢
    simp only [pcTs, fU] at hN ⊢
    by_cases h0 : 0 < i
    ·rw [if_pos h0, List.cons_append, List.nil_append] at hN ⊢
     obtain ⟨q1, o1, n1⟩ := cU ho hN
     obtain ⟨q2, o2, n2⟩ := lf tk o1 n1
     obtain ⟨q3, o3⟩ := ih (i + 1) _ (by omega) o2 n2
     rw [fH, eM]
     exact ⟨gc (k + 1) _ _ _ _ _ _ _ _ ⟨fun _ => ⟨u, hu', fun _ => ⟨by constructor <;> omega, by constructor <;> omega, c + i - 1, by omega, _, bA (by omega), _, _, q1, _, _, q2, by omega, q3⟩, fun h => absurd (by omega) h⟩, fun h => absurd hlt h⟩, o3⟩
    ·rw [if_neg h0, List.nil_append] at hN ⊢
     obtain ⟨q2, o2, n2⟩ := lf tk ho hN
     obtain ⟨q3, o3⟩ := ih (i + 1) _ (by omega) o2 n2
     rw [eM]
     exact ⟨gc (k + 1) _ _ _ _ _ _ _ _ ⟨fun _ => ⟨u, hu', fun h => absurd h (by omega), fun _ => ⟨_, _, q2, by omega, q3⟩⟩, fun h => absurd hlt h⟩, o3⟩
   ·exact fin _ i s h' ho
 rw [eM] at hN
 obtain ⟨h1, h2⟩ := loop us.length 0 s (by omega) ho (by rw [List.drop_zero]; exact Nat.le_trans (oV r _) hN)
 rw [List.drop_zero] at h1 h2
 exact ⟨nj (us.length + 1) _ _ _ _ _ _ _ h1, h2, hN⟩
section
variable {m : Nat} {t : Tree} {b b' : List Int} {l l' : List UInt8}
theorem tD (h : t.kind = 1 ∨ t.kind = 2 ∨ t.kind = 3 ∨ t.kind = 4) (k : fb b l t b' l') : aB b l t b' l' := by
 have d : cY 1 b l t true b' l' := jp 0 _ _ _ _ _ _ ⟨fun _ => ⟨_, _, k, rfl, rfl⟩, fun h => (by cases h)⟩
 refine rS_syntax_printer_tree 1 _ _ _ _ _ ⟨fun _ => d, fun h1 => ⟨fun _ => d, fun h2 => ⟨fun _ => d, fun h3 => ?_⟩⟩⟩
 rw [show (t.kind == 4) = true from beq_iff_eq.2 (by omega)]; exact d
theorem t0 (h : ¬ (t.kind = 1 ∨ t.kind = 2 ∨ t.kind = 3 ∨ t.kind = 4)) (k : eR m b l t b' l') : aB b l t b' l' :=
 rS_syntax_printer_tree (m + 1) _ _ _ _ _ ⟨fun e => absurd (.inl e) h, fun _ => ⟨fun e => absurd (.inr (.inl e)) h, fun _ => ⟨fun e => absurd (.inr (.inr (.inl e))) h, fun _ => jp m _ _ _ _ _ _ ⟨fun e => absurd (.inr (.inr (.inr (eq_of_beq e)))) h, fun _ => k⟩⟩⟩⟩
theorem t1 (h : t.kind ≠ 17) (k : eT m b l t b' l') : eR (m + 1) b l t b' l' := jn m _ _ _ _ _ ⟨fun e => absurd e h, fun _ => k⟩
theorem t2 (h : t.kind ≠ 8) (k : eV m b l t b' l') : eT (m + 1) b l t b' l' := jj m _ _ _ _ _ ⟨fun e => absurd e h, fun _ => k⟩
theorem t4 (h : t.kind ≠ 16) (k : eU m b l t b' l') : eV (m + 1) b l t b' l' := jo m _ _ _ _ _ ⟨fun e => absurd e h, fun _ => k⟩
theorem t6 (h : t.kind ≠ 18) (k : eS m b l t b' l') : eU (m + 1) b l t b' l' := jl m _ _ _ _ _ ⟨fun e => absurd e h, fun _ => k⟩
theorem t8 (h : t.kind ≠ 19) (k : eF m b l t b' l') : eS (m + 1) b l t b' l' := ji m _ _ _ _ _ ⟨fun e => absurd e h, fun _ => k⟩
theorem t10 (h : t.kind ≠ 20) (k : eC m b l t b' l') : eF (m + 1) b l t b' l' := iV m _ _ _ _ _ ⟨fun e => absurd e h, fun _ => k⟩
theorem t12 (h : t.kind ≠ 21) (k : gb m b l t b' l') : eC (m + 1) b l t b' l' := iX m _ _ _ _ _ ⟨fun e => absurd e h, fun _ => k⟩
end
def rb (k : Int) (s : List UInt8) : List UInt8 :=
 if k = 5 then [73, 110, 116] else if k = 6 then [84, 101, 120, 116] else if k = 7 then [66, 111, 111, 108] else if k = 13 then [116, 114, 117, 101] else if k = 14 then [102, 97, 108, 115, 101] else if k = 15 then [63] else s
theorem xt (t : Tree) : kc t (rb t.kind t.text) := px 0 _ _ (by
 unfold rb
 repeat' (refine And.intro (fun _ => ?_) (fun _ => ?_))
 all_goals simp [*])
theorem tQ {k : Int} {n i : Int} {kk : Int} (h : nU k n i kk = true) : kk ≠ 1 := by
 intro e
 subst e
 unfold nU at h
 repeat' split at h
 all_goals (revert h; simp [mQ, oU, rT])
theorem zx (x : List UInt8) (ls : List (List UInt8)) (gs : List (List Pce)) (a b : List Pce) : mX 2 x ls (gs ++ [a, b]) = ⟨ls.getD 0 [], [100, 101, 102]⟩ :: ⟨ls.getD 1 [], x⟩ :: ⟨ls.getD 2 [], [40]⟩ :: (fU ls 6 gs 0 ++ (⟨ls.getD 3 [], [41]⟩ :: ⟨ls.getD 4 [], [58]⟩ :: (a ++ (⟨ls.getD 5 [], [61]⟩ :: b)))) := by
 show ⟨ls.getD 0 [], [100, 101, 102]⟩ :: ⟨ls.getD 1 [], x⟩ :: ⟨ls.getD 2 [], [40]⟩ :: (fU ls 6 ((gs ++ [a, b]).take ((gs ++ [a, b]).length - 2)) 0 ++ (⟨ls.getD 3 [], [41]⟩ :: ⟨ls.getD 4 [], [58]⟩ :: ((gs ++ [a, b]).getD ((gs ++ [a, b]).length - 2) [] ++ (⟨ls.getD 5 [], [61]⟩ :: (gs ++ [a, b]).getD ((gs ++ [a, b]).length - 1) [])))) = _
 have h1 : (gs ++ [a, b]).length - 2 = gs.length := by simp
 have h2 : (gs ++ [a, b]).length - 1 = gs.length + 1 := by simp
 rw [h1, h2]
 simp [List.getD_eq_getElem?_getD]
theorem wC (a b : List Tree) : pcTs (a ++ b) = pcTs a ++ pcTs b := by simp [rX]
theorem qX {α : Type} : ∀ (l : List α), 0 < l.length → ∃ us a, l = us ++ [a]
 | [a], _ => ⟨[], a, rfl⟩
 | a :: b :: r, _ => by obtain ⟨us, c, e⟩ := qX (b :: r) (by simp); exact ⟨a :: us, c, by rw [e]; rfl⟩
theorem vp {t : Tree} (hs : shapeK t = true) : (t.kind = 2 → ∃ us a b, t.kids = us ++ [a, b]) ∧ (t.kind = 3 ∨ t.kind = 4 ∨ t.kind = 8 ∨ t.kind = 17 ∨ t.kind = 22 → ∃ a, t.kids = [a]) ∧ (t.kind = 19 → ∃ a b c, t.kids = [a, b, c]) ∧ (t.kind = 20 ∨ t.kind = 21 → ∃ a b, t.kids = [a, b]) := by
 have hn := qv hs
 refine ⟨fun h2 => ?_, fun h => List.length_eq_one_iff.1 (hn.2.2.1 h), fun h => ?_, fun h => ?_⟩
 ·obtain ⟨l1, b, e1⟩ := qX t.kids (by have := hn.1 h2; omega)
  obtain ⟨us, a, e2⟩ := qX l1 (by have := hn.1 h2; rw [e1, List.length_append] at this; simp at this; omega)
  exact ⟨us, a, b, by rw [e1, e2]; simp⟩
 ·exact match t.kids, hn.2.2.2.1 h with | [a, b, c], _ => ⟨a, b, c, rfl⟩
 ·exact match t.kids, hn.2.2.2.2 h with | [a, b], _ => ⟨a, b, rfl⟩
theorem ma : ∀ {ks : List Tree} {i : Nat} {u : Tree}, leadedsT ks = true → ks[i]? = some u → leadedT u = true
 | [], i, u, h, hu => by simp at hu
 | t :: r, 0, u, h, hu => by
  simp only [leadedsT, Bool.and_eq_true] at h
  simp only [List.getElem?_cons_zero, Option.some.injEq] at hu
  subst hu; exact h.1
 | t :: r, i + 1, u, h, hu => by
  simp only [leadedsT, Bool.and_eq_true] at h
  exact ma h.2 (by simpa using hu)
theorem qD {t : Tree} (h : leadedT t = true) : (t.leads.length : Int) = ot t.kind t.kids.length ∧ mc t.kind t.leads 0 = true ∧ leadedsT t.kids = true := by
 cases t
 simp only [leadedT, Bool.and_eq_true, decide_eq_true_eq] at h
 exact ⟨h.1.1, h.1.2, h.2⟩
theorem yw : ∀ t : Tree, t.kind ≠ 1 → tbulk t ≤ 1000000000 → shapeK t = true → leadedT t = true → Tk t := kK fun t ih h1 ht hs hl s ho hN => by
 obtain ⟨f2, f1, f3, f20⟩ := vp hs
 obtain ⟨g1, _, g3⟩ := qD hl
 rw [nk] at g1
 have hkl := nE t
 have hn := qv hs
 have tk : ∀ (i : Nat) (u : Tree), t.kids[i]? = some u → Tk u := fun i u hu => ih i u hu (tQ (lB hs hu).2) (by have := lm hu; omega) (lB hs hu).1 (ma g3 hu)
 have tkm : ∀ u ∈ t.kids, Tk u := fun u hu => by obtain ⟨i, hi⟩ := List.mem_iff_getElem?.1 hu; exact tk i u hi
 have e := zQ t
 rw [e] at hN ⊢
 by_cases h2 : t.kind = 2
 ·obtain ⟨us, x, y, e2⟩ := f2 h2
  have hk : t.kids.length = us.length + 2 := by rw [e2]; simp
  have hx : t.kids[us.length]? = some x := by rw [e2]; simp
  have hy : t.kids[us.length + 1]? = some y := by rw [e2]; simp
  have hll : 6 + us.length ≤ t.leads.length + 1 ∧ 6 ≤ t.leads.length := by
   rw [h2, hk] at g1; simp only [eL, f0] at g1; simp at g1
   split at g1 <;> first | omega | (split at g1 <;> omega)
  have etk : t.kids.take us.length = us := by rw [e2]; simp
  rw [h2, e2, wC] at hN ⊢
  change (bG (mX 2 t.text t.leads (pcTs us ++ [pcT x, pcT y])) s).2.length ≤ 140737488355328 at hN
  show PtW t s (bG (mX 2 t.text t.leads (pcTs us ++ [pcT x, pcT y])) s) ∧ (bG (mX 2 t.text t.leads (pcTs us ++ [pcT x, pcT y])) s).1.length ≤ 140737488355328
  rw [zx] at hN ⊢
  obtain ⟨q1, o1, n1⟩ := cU ho hN
  obtain ⟨q2, o2, n2⟩ := cU o1 n1
  obtain ⟨q3, o3, n3⟩ := cU o2 n2
  obtain ⟨q4, o4, n4⟩ := uh (p := t) (fun u hu => tkm u (by rw [e2]; simp [hu])) (by decide) (by decide) hll.1 (by omega) o3 n3
  obtain ⟨q5, o5, n5⟩ := cU o4 n4
  obtain ⟨q6, o6, n6⟩ := cU o5 n5
  obtain ⟨q7, o7, n7⟩ := lf (tk _ x hx) o6 n6
  obtain ⟨q8, o8, n8⟩ := cU o7 n7
  obtain ⟨q9, o9⟩ := tk _ y hy _ o8 n8
  simp only [fH, eM]
  exact ⟨tD (.inr (.inl h2)) (dA 2 _ _ _ _ _ ⟨fun e => absurd e h1, fun _ => ev 1 _ _ _ _ _ ⟨fun _ => kD 0 _ _ _ _ _ ⟨_, bA (by omega), _, _, q1, _, bA (by omega), _, _, q2, _, bA (by omega), _, _, q3, us.length, by omega, by omega, _, _, by rw [etk]; exact q4, _, bA (by omega), _, _, q5, _, bA (by omega), _, _, q6, us.length, by omega, x, hx, _, _, q7, _, bA (by omega), _, _, q8, us.length + 1, by omega, y, hy, _, _, q9, rfl, rfl⟩, fun e => absurd h2 e⟩⟩), o9⟩
 by_cases h3 : t.kind = 3
 ·obtain ⟨x, e2⟩ := f1 (by omega)
  have hx : t.kids[0]? = some x := by rw [e2]; rfl
  have hll : t.leads.length = 3 := by rw [h3, e2] at g1; simp [eL, f0] at g1; omega
  rw [h3, e2] at hN ⊢
  obtain ⟨q1, o1, n1⟩ := cU ho hN
  obtain ⟨q2, o2, n2⟩ := cU o1 n1
  obtain ⟨q3, o3, n3⟩ := cU o2 n2
  obtain ⟨q4, o4⟩ := tk _ x hx _ o3 n3
  exact ⟨tD (.inr (.inr (.inl h3))) (dA 3 _ _ _ _ _ ⟨fun e => absurd e h1, fun _ => ev 2 _ _ _ _ _ ⟨fun e => absurd e h2, fun _ => gw 1 _ _ _ _ _ ⟨fun _ => kB 0 _ _ _ _ _ ⟨_, bA (by omega), _, _, q1, _, bA (by omega), _, _, q2, _, bA (by omega), _, _, q3, x, hx, _, _, q4, rfl, rfl⟩, fun e => absurd h3 e⟩⟩⟩), o4⟩
 by_cases h4 : t.kind = 4
 ·obtain ⟨x, e2⟩ := f1 (by omega)
  have hx : t.kids[0]? = some x := by rw [e2]; rfl
  have hll : t.leads.length = 2 := by rw [h4, e2] at g1; simp [eL, f0] at g1; omega
  rw [h4, e2] at hN ⊢
  obtain ⟨q1, o1, n1⟩ := cU ho hN
  obtain ⟨q2, o2, n2⟩ := cU o1 n1
  obtain ⟨q4, o4⟩ := tk _ x hx _ o2 n2
  exact ⟨tD (.inr (.inr (.inr h4))) (dA 4 _ _ _ _ _ ⟨fun e => absurd e h1, fun _ => ev 3 _ _ _ _ _ ⟨fun e => absurd e h2, fun _ => gw 2 _ _ _ _ _ ⟨fun e => absurd e h3, fun _ => ky 1 _ _ _ _ _ ⟨fun _ => kC 0 _ _ _ _ _ ⟨_, bA (by omega), _, _, q1, _, bA (by omega), _, _, q2, x, hx, _, _, q4, rfl, rfl⟩, fun e => absurd h4 e⟩⟩⟩⟩), o4⟩
 have hd : ¬ (t.kind = 1 ∨ t.kind = 2 ∨ t.kind = 3 ∨ t.kind = 4) := by omega
 by_cases h17 : t.kind = 17
 ·obtain ⟨x, e2⟩ := f1 (by omega)
  have hx : t.kids[0]? = some x := by rw [e2]; rfl
  rw [h17, e2] at hN ⊢
  obtain ⟨q1, o1⟩ := tk _ x hx _ ho hN
  exact ⟨t0 hd (jn 0 _ _ _ _ _ ⟨fun _ => ⟨x, hx, _, _, q1, rfl, rfl⟩, fun e => absurd h17 e⟩), o1⟩
 by_cases h8 : t.kind = 8
 ·obtain ⟨x, e2⟩ := f1 (by omega)
  have hx : t.kids[0]? = some x := by rw [e2]; rfl
  have hll : t.leads.length = 2 := by rw [h8, e2] at g1; simp [eL, f0] at g1; omega
  rw [h8, e2] at hN ⊢
  obtain ⟨q1, o1, n1⟩ := cU ho hN
  obtain ⟨q2, o2, n2⟩ := lf (tk _ x hx) o1 n1
  obtain ⟨q3, o3, _⟩ := cU o2 n2
  show PtW t s (bG (⟨_, _⟩ :: (pcT x ++ [⟨_, _⟩])) s) ∧ (bG (⟨_, _⟩ :: (pcT x ++ [⟨_, _⟩])) s).1.length ≤ 140737488355328
  simp only [fH, eM, jF]
  exact ⟨t0 hd (t1 h17 (jj 1 _ _ _ _ _ ⟨fun _ => mA 0 _ _ _ _ _ ⟨_, bA (by omega), _, _, q1, x, hx, _, _, q2, _, bA (by omega), _, _, q3, rfl, rfl⟩, fun e => absurd h8 e⟩)), o3⟩
 by_cases h16 : t.kind = 16
 ·have hll : 3 + t.kids.length ≤ t.leads.length + 1 ∧ 3 ≤ t.leads.length := by
   rw [h16] at g1; simp only [eL, f0] at g1; simp at g1
   split at g1 <;> first | omega | (split at g1 <;> omega)
  rw [h16] at hN ⊢
  obtain ⟨q1, o1, n1⟩ := cU ho hN
  obtain ⟨q2, o2, n2⟩ := cU o1 n1
  obtain ⟨q3, o3, n3⟩ := uh (p := t) tkm (by decide) (by decide) hll.1 (by omega) o2 n2
  obtain ⟨q4, o4, _⟩ := cU o3 n3
  show PtW t s (bG (⟨_, _⟩ :: ⟨_, _⟩ :: (fU t.leads 3 (pcTs t.kids) 0 ++ [⟨_, _⟩])) s) ∧ (bG (⟨_, _⟩ :: ⟨_, _⟩ :: (fU t.leads 3 (pcTs t.kids) 0 ++ [⟨_, _⟩])) s).1.length ≤ 140737488355328
  simp only [fH, eM, jF]
  exact ⟨t0 hd (t1 h17 (t2 h8 (jo 1 _ _ _ _ _ ⟨fun _ => mD 0 _ _ _ _ _ ⟨_, bA (by omega), _, _, q1, _, bA (by omega), _, _, q2, _, _, q3, _, bA (by omega), _, _, q4, rfl, rfl⟩, fun e => absurd h16 e⟩))), o4⟩
 by_cases h18 : t.kind = 18
 ·have h4' := hn.2.1 h18
  have hll : 2 + t.kids.length ≤ t.leads.length + 1 ∧ 2 ≤ t.leads.length := by
   rw [h18] at g1; simp only [eL, f0] at g1; simp at g1
   split at g1 <;> first | omega | (split at g1 <;> omega)
  rw [h18] at hN ⊢
  obtain ⟨q1, o1, n1⟩ := cU ho hN
  obtain ⟨q2, o2, n2⟩ := uh (p := t) tkm (by decide) (by decide) hll.1 (by omega) o1 n1
  obtain ⟨q3, o3, _⟩ := cU o2 n2
  show PtW t s (bG (⟨_, _⟩ :: (fU t.leads 2 (pcTs t.kids) 0 ++ [⟨_, _⟩])) s) ∧ (bG (⟨_, _⟩ :: (fU t.leads 2 (pcTs t.kids) 0 ++ [⟨_, _⟩])) s).1.length ≤ 140737488355328
  simp only [fH, eM, jF]
  exact ⟨t0 hd (t1 h17 (t2 h8 (t4 h16 (jl 1 _ _ _ _ _ ⟨fun _ => mC 0 _ _ _ _ _ ⟨_, bA (by omega), _, _, q1, _, _, q2, _, bA (by omega), _, _, q3, rfl, rfl⟩, fun e => absurd h18 e⟩)))), o3⟩
 by_cases h19 : t.kind = 19
 ·obtain ⟨x, y, z, e2⟩ := f3 h19
  have hx : t.kids[0]? = some x := by rw [e2]; rfl
  have hy : t.kids[1]? = some y := by rw [e2]; rfl
  have hz : t.kids[2]? = some z := by rw [e2]; rfl
  have hll : t.leads.length = 3 := by rw [h19, e2] at g1; simp [eL, f0] at g1; omega
  rw [h19, e2] at hN ⊢
  obtain ⟨q1, o1, n1⟩ := cU ho hN
  obtain ⟨q2, o2, n2⟩ := lf (tk _ x hx) o1 n1
  obtain ⟨q3, o3, n3⟩ := cU o2 n2
  obtain ⟨q4, o4, n4⟩ := lf (tk _ y hy) o3 n3
  obtain ⟨q5, o5, n5⟩ := cU o4 n4
  obtain ⟨q6, o6⟩ := tk _ z hz _ o5 n5
  show PtW t s (bG (⟨_, _⟩ :: (pcT x ++ (⟨_, _⟩ :: (pcT y ++ (⟨_, _⟩ :: pcT z))))) s) ∧ (bG (⟨_, _⟩ :: (pcT x ++ (⟨_, _⟩ :: (pcT y ++ (⟨_, _⟩ :: pcT z))))) s).1.length ≤ 140737488355328
  simp only [fH, eM, jF]
  exact ⟨t0 hd (t1 h17 (t2 h8 (t4 h16 (t6 h18 (ji 1 _ _ _ _ _ ⟨fun _ => mz 0 _ _ _ _ _ ⟨_, bA (by omega), _, _, q1, x, hx, _, _, q2, _, bA (by omega), _, _, q3, y, hy, _, _, q4, _, bA (by omega), _, _, q5, z, hz, _, _, q6, rfl, rfl⟩, fun e => absurd h19 e⟩))))), o6⟩
 by_cases h20 : t.kind = 20
 ·obtain ⟨x, y, e2⟩ := f20 (by omega)
  have hx : t.kids[0]? = some x := by rw [e2]; rfl
  have hy : t.kids[1]? = some y := by rw [e2]; rfl
  have hll : t.leads.length = 4 := by rw [h20, e2] at g1; simp [eL, f0] at g1; omega
  rw [h20, e2] at hN ⊢
  obtain ⟨q1, o1, n1⟩ := cU ho hN
  obtain ⟨q2, o2, n2⟩ := cU o1 n1
  obtain ⟨q3, o3, n3⟩ := cU o2 n2
  obtain ⟨q4, o4, n4⟩ := lf (tk _ x hx) o3 n3
  obtain ⟨q5, o5, n5⟩ := cU o4 n4
  obtain ⟨q6, o6⟩ := tk _ y hy _ o5 n5
  show PtW t s (bG (⟨_, _⟩ :: ⟨_, _⟩ :: ⟨_, _⟩ :: (pcT x ++ (⟨_, _⟩ :: pcT y))) s) ∧ (bG (⟨_, _⟩ :: ⟨_, _⟩ :: ⟨_, _⟩ :: (pcT x ++ (⟨_, _⟩ :: pcT y))) s).1.length ≤ 140737488355328
  simp only [fH, eM, jF]
  exact ⟨t0 hd (t1 h17 (t2 h8 (t4 h16 (t6 h18 (t8 h19 (iV 1 _ _ _ _ _ ⟨fun _ => mn 0 _ _ _ _ _ ⟨_, bA (by omega), _, _, q1, _, bA (by omega), _, _, q2, _, bA (by omega), _, _, q3, x, hx, _, _, q4, _, bA (by omega), _, _, q5, y, hy, _, _, q6, rfl, rfl⟩, fun e => absurd h20 e⟩)))))), o6⟩
 by_cases h21 : t.kind = 21
 ·obtain ⟨x, y, e2⟩ := f20 (by omega)
  have hx : t.kids[0]? = some x := by rw [e2]; rfl
  have hy : t.kids[1]? = some y := by rw [e2]; rfl
  have hll : t.leads.length = 1 := by rw [h21, e2] at g1; simp [eL, f0] at g1; omega
  rw [h21, e2] at hN ⊢
  obtain ⟨q1, o1, n1⟩ := lf (tk _ x hx) ho hN
  obtain ⟨q2, o2, n2⟩ := cU o1 n1
  obtain ⟨q3, o3⟩ := tk _ y hy _ o2 n2
  show PtW t s (bG (pcT x ++ (⟨_, _⟩ :: pcT y)) s) ∧ (bG (pcT x ++ (⟨_, _⟩ :: pcT y)) s).1.length ≤ 140737488355328
  simp only [fH, eM, jF]
  exact ⟨t0 hd (t1 h17 (t2 h8 (t4 h16 (t6 h18 (t8 h19 (t10 h20 (iX 1 _ _ _ _ _ ⟨fun _ => mq 0 _ _ _ _ _ ⟨x, hx, _, _, q1, _, bA (by omega), _, _, q2, y, hy, _, _, q3, rfl, rfl⟩, fun e => absurd h21 e⟩))))))), o3⟩
 by_cases h22 : t.kind = 22
 ·obtain ⟨x, e2⟩ := f1 (by omega)
  have hx : t.kids[0]? = some x := by rw [e2]; rfl
  have hll : t.leads.length = 2 := by rw [h22, e2] at g1; simp [eL, f0] at g1; omega
  rw [h22, e2] at hN ⊢
  obtain ⟨q1, o1, n1⟩ := cU ho hN
  obtain ⟨q2, o2, n2⟩ := lf (tk _ x hx) o1 n1
  obtain ⟨q3, o3, _⟩ := cU o2 n2
  show PtW t s (bG (⟨_, _⟩ :: (pcT x ++ [⟨_, _⟩])) s) ∧ (bG (⟨_, _⟩ :: (pcT x ++ [⟨_, _⟩])) s).1.length ≤ 140737488355328
  simp only [fH, eM, jF]
  exact ⟨t0 hd (t1 h17 (t2 h8 (t4 h16 (t6 h18 (t8 h19 (t10 h20 (t12 h21 (iY 1 _ _ _ _ _ ⟨fun _ => mt 0 _ _ _ _ _ ⟨_, bA (by omega), _, _, q1, x, hx, _, _, q2, _, bA (by omega), _, _, q3, rfl, rfl⟩, fun e => absurd h22 e⟩)))))))), o3⟩
 have el : mX t.kind t.text t.leads (pcTs t.kids) = [⟨t.leads.getD 0 [], rb t.kind t.text⟩] := by
  simp only [mX, h1, h2, h3, h4, h8, h16, h17, h18, h19, h20, h21, h22, if_false]; rfl
 have hll : 1 ≤ t.leads.length := by
  simp only [eL, f0, h1, h2, h3, h4, h8, h16, h17, h18, h19, h20, h21, h22, if_false] at g1
  split at g1
  ·split at g1 <;> first | omega | (split at g1 <;> omega)
  ·omega
 rw [el] at hN ⊢
 obtain ⟨q1, o1, _⟩ := cU ho hN
 exact ⟨t0 hd (t1 h17 (t2 h8 (t4 h16 (t6 h18 (t8 h19 (t10 h20 (t12 h21 (iY 0 _ _ _ _ _ ⟨fun e => absurd e h22, fun _ => ⟨_, bA (by omega), _, xt t, _, _, q1, rfl, rfl⟩⟩)))))))), o1⟩
def pcM (t : Tree) : List Pce := ⟨t.leads.getD 0 [], [109, 111, 100, 117, 108, 101]⟩ :: ⟨t.leads.getD 1 [], t.text⟩ :: (pcTs t.kids).flatten
def ut (t : Tree) : List UInt8 := if t.kind = 1 then (bG (pcM t) ([], [])).2 ++ t.leads.getD 2 [] else (bG (pcT t) ([], [])).2
theorem ze {t : Tree} (hk : t.kind = 1) (_ : shapeK t = true) : ut t = (bG (pcM t) ([], [])).2 ++ t.leads.getD 2 [] := if_pos hk
theorem yC (t : Tree) (hk : t.kind = 1) (ht : tbulk t ≤ 1000000) (hs : shapeK t = true) (hl : leadedT t = true) (hn : (bG (pcM t) ([], [])).2.length ≤ 100000000000000) (hl2 : (t.leads.getD 2 []).length ≤ 2000000) : lI t (ut t) := by
 obtain ⟨g1, _, g3⟩ := qD hl
 rw [nk] at g1
 have hkl := nE t
 have hll : t.leads.length = 3 := by rw [hk] at g1; simp only [eL] at g1; simp at g1; omega
 have loop : ∀ k i (s : WS), t.kids.length - i ≤ k → s.1.length ≤ 140737488355328 → (bG (pcTs (t.kids.drop i)).flatten s).2.length ≤ 100000000000000 → ∃ x, cN (k + 1) t (s.2.map u8i) s.1 i (((bG (pcTs (t.kids.drop i)).flatten s).2 ++ t.leads.getD 2 []).map u8i) x := fun k => by
  have fin : ∀ m i (s : WS), ¬ i < t.kids.length → (bG (pcTs (t.kids.drop i)).flatten s).2.length ≤ 100000000000000 → ∃ x, cN (m + 1) t (s.2.map u8i) s.1 i (((bG (pcTs (t.kids.drop i)).flatten s).2 ++ t.leads.getD 2 []).map u8i) x := fun m i s hi hN => by
   rw [List.drop_of_length_le (by omega)] at hN ⊢
   exact ⟨_, gv m _ _ _ _ _ _ ⟨fun h => absurd h hi, fun _ => ⟨_, bA (by omega), _, _, _, _, xN (by have : s.2.length ≤ 100000000000000 := hN; omega), rfl, rfl⟩⟩⟩
  induction k with
  | zero => intro i s hi _ hN; exact fin 0 i s (by omega) hN
  | succ k ih =>
   intro i s hi ho hN
   rcases lA t.kids i with ⟨u, hu, hlt⟩ | h'
   ·have tk := yw u (tQ (lB hs hu).2) (by have := lm hu; omega) (lB hs hu).1 (ma g3 hu)
    rw [kP hu] at hN ⊢
    simp only [pcTs, List.flatten_cons] at hN ⊢
    obtain ⟨q, o, n⟩ := lf tk ho (Nat.le_trans hN (by decide))
    rw [eM] at hN ⊢
    obtain ⟨x, hx⟩ := ih (i + 1) _ (by omega) o hN
    exact ⟨x, gv (k + 1) _ _ _ _ _ _ ⟨fun _ => ⟨u, hu, _, _, q, by omega, hx⟩, fun h => absurd hlt h⟩⟩
   ·exact fin _ i s h' hN
 obtain ⟨q1, o1, n1⟩ := cU (s := ([], [])) (Nat.zero_le _) (Nat.le_trans hn (by decide))
 obtain ⟨q2, o2, n2⟩ := cU o1 n1
 obtain ⟨x, hx⟩ := loop t.kids.length 0 _ (by omega) o2 hn
 rw [ze hk hs]
 exact ri 0 _ _ ⟨_, x, tD (.inl hk) (dA (t.kids.length + 2) _ _ _ _ _ ⟨fun _ => kA (t.kids.length + 1) _ _ _ _ _ ⟨_, bA (by omega), _, _, q1, _, bA (by omega), _, _, q2, hx⟩, fun e => absurd hk e⟩), _, AY _ _, rfl⟩
def qi : List UInt8 := [109, 111, 100, 117, 108, 101, 32, 77, 32, 100, 101, 102, 32, 102, 40, 120, 58, 32, 73, 110, 116, 41, 58, 32, 73, 110, 116, 32, 61, 32, 120, 32, 43, 32, 49, 32, 35, 32, 101, 110, 100]
def gj : Tree := (cO qi).1
theorem xq : (cO qi).2 = (0, 0) := by decide +kernel
theorem zc : gj.kind = 1 ∧ tbulk gj ≤ 1000000 ∧ shapeK gj = true ∧ leadedT gj = true ∧ (bG (pcM gj) ([], [])).2.length ≤ 100000000000000 ∧ (gj.leads.getD 2 []).length ≤ 2000000 ∧ ut gj = qi := by decide +kernel
theorem wi : gj.kids.length = 1 ∧ gj.text = [77] ∧ (gj.kids.map (fun t => t.kids.length)) = [3] := by decide +kernel
theorem tc : fY true := by
 have h0 := sA qi (by decide)
 rw [xq] at h0
 obtain ⟨a1, a2, a3, a4, a5, a6, a7⟩ := zc
 have ht := yC gj a1 a2 a3 a4 a5 a6
 rw [a7] at ht
 have hs := xw gj (by omega)
 have hl := vu gj (by omega) a3
 rw [a3] at hs
 rw [a4] at hl
 have h1 : kL gj qi := qw 0 _ _ ⟨_, hs, fun h => (by cases h), fun _ => ⟨_, hl, fun h => (by cases h), fun _ => ⟨_, ht, rfl⟩⟩⟩
 obtain ⟨h2, h3, h4⟩ := wi
 obtain ⟨k, hk⟩ : ∃ k, gj.kids = [k] := by
  match h : gj.kids, h2 with
  | [k], _ => exact ⟨k, rfl⟩
 rw [hk] at h4
 have h5 : k.kids.length = 3 := by simpa using h4
 have h6 : fJ 2 4 (eL 2 4) := oP (by decide) (by decide)
 exact nI 0 _ ⟨gj, 0, 0, h0, fun _ => ⟨fun _ => ⟨fun _ => ⟨fun _ => ⟨k, by rw [hk]; rfl, fun _ => ⟨_, h1, fun _ => ⟨_, h6, by decide⟩, fun h => absurd rfl h⟩, fun h => absurd (by rw [h5]; rfl) h⟩, fun h => absurd h3 h⟩, fun h => absurd (by rw [hk]; rfl) h⟩, fun h => absurd rfl h⟩, fun h => absurd rfl h⟩
theorem Ao : ∀ t : Tree, gh t t true := kK fun t ih => by
 have kids : ∀ j i, t.kids.length - i ≤ j → ∃ M, ga M t t i true := fun j => by
  induction j with
  | zero => exact fun i hi => ⟨1, ib 0 _ _ _ _ ⟨fun h => absurd h (by omega), fun _ => rfl⟩⟩
  | succ j ihj =>
   intro i hi
   obtain ⟨u, hu, hlt⟩ | hge := lA t.kids i
   ·obtain ⟨M, hM⟩ := ihj (i + 1) (by omega)
    exact ⟨M + 1, ib M _ _ _ _ ⟨fun _ => ⟨u, hu, u, hu, _, ih i u hu, fun h => (by cases h), fun _ => hM⟩, fun h => absurd hlt h⟩⟩
   ·exact ⟨1, ib 0 _ _ _ _ ⟨fun h => absurd h hge, fun _ => rfl⟩⟩
 have leads : ∀ j i, t.leads.length - i ≤ j → ∃ M, eG M t t i true := fun j => by
  have last : ∀ i, ¬ i < t.leads.length → ∃ M, eG M t t i true := fun i hi => by
   obtain ⟨M, hM⟩ := kids t.kids.length 0 (by omega)
   exact ⟨M + 1, ku M _ _ _ _ ⟨fun h => absurd h hi, fun _ => hM⟩⟩
  induction j with
  | zero => exact fun i hi => last i (by omega)
  | succ j ihj =>
   intro i hi
   obtain ⟨u, hu, hlt⟩ | hge := lA t.leads i
   ·obtain ⟨M, hM⟩ := ihj (i + 1) (by omega)
    exact ⟨M + 1, ku M _ _ _ _ ⟨fun _ => ⟨u, hu, u, hu, fun h => absurd rfl h, fun _ => hM⟩, fun h => absurd hlt h⟩⟩
   ·exact last i hge
 obtain ⟨M, hM⟩ := leads t.leads.length 0 (by omega)
 exact oq M _ _ _ ⟨fun h => absurd rfl h, fun _ => ⟨fun h => absurd rfl h, fun _ => ⟨fun h => absurd rfl h, fun _ => ⟨fun h => absurd rfl h, fun _ => hM⟩⟩⟩⟩
theorem yP (l : List UInt8) (hl : l.length ≤ 281474976710656) : it l true := 
 rS_semvcslaw02_SyntaxParses 0 _ _ ⟨fun _ => ⟨_, tc, rfl⟩, fun _ => ⟨_, _, _, sA l hl, _, _, _, xW l hl, _, tc, fun _ => ⟨fun _ => ⟨fun _ => ⟨_, Ao _, rfl⟩, fun h => absurd rfl h⟩, fun h => absurd rfl h⟩, fun h => (by cases h)⟩⟩
section
variable {S : Nat → Prop} {w : World}
end
theorem rd (i : Nat) : (⟨0, []⟩ : Hp).get i = .free := by
 unfold Hp.get
 have : Nat.blt i 0 = false := by cases i <;> rfl
 simp only [this]
theorem AT (w : World) : HRel (fun _ => False) w (fun _ => none) (⟨0, []⟩ : Hp).get :=
 ⟨fun i => by rw [rd]; rfl, fun i b hb => by rw [rd] at hb; exact hb.elim, fun i j b hb _ => by rw [rd] at hb; exact hb.elim, fun _ h => h.elim⟩
abbrev rN (W : World) : Nat → Prop := fun b => b < W.heap.size
abbrev VLive (W : World) (v : V) (x : Value) : Prop := VRel (rN W) W (fun _ => none) v x
theorem Bc {W : World} (l : List UInt8) : VLive W (.str l) (.string ⟨l.toArray⟩) := by simp only [VLive, VRel]
theorem Bb {fid : FuncId} {us : List V} {b : Bool} (h : nd Try.prog fid us (.bool b)) {W : World} {xs : List Value} (hx : LRel (rN W) W (fun _ => none) us xs) : Calls Try.prog fid xs.toArray W fun e W' => e = .returned (.bool b) ∧ Ext W W' := by
 have h0 := AT W
 have hr' : HRel (rN W) W (fun _ => none) (⟨0, []⟩ : Hp).get := ⟨h0.ob, fun i b hb => by rw [rd] at hb; exact hb.elim, fun i j b hb _ => by rw [rd] at hb; exact hb.elim, fun _ h => h⟩
 refine (h.2.2 _ W _ xs hr' hx).mono ?_
 rintro e W' ⟨x, S', ρ', v, H', rfl, rfl, h1, h2, h3⟩
 simp only [VRel] at h3
 subst h3
 have hno : ∀ b, ¬ ∃ id, own (fun _ => none) id ((⟨0, []⟩ : Hp).get id) b := fun b ⟨id, hb⟩ => by rw [rd] at hb; exact hb
 exact ⟨rfl, Chg.ext ⟨h2.chg.os, h2.chg.tape, h2.chg.output, h2.chg.size, fun b hb _ => h2.chg.block b hb (hno b)⟩⟩
theorem lr1 {W : World} {u : V} {x : Value} (h : VLive W u x) : LRel (rN W) W (fun _ => none) [u] [x] := ⟨x, [], rfl, h, rfl⟩
end Go.Proofs.Ytpigfkmccilkjaa
