/- Contracts of the functions that the law reaches, part 6. -/
import Derived.Test.YtkkkpdbnnjoepaaGreatDoorTa5
set_option linter.unusedVariables false
set_option linter.unusedSimpArgs false
namespace Go.Proofs.YtkkkpdbnnjoepaaGreatDoor
open Go.RowKit Lx Sx
set_option maxRecDepth 100000
set_option maxHeartbeats 1000000
set_option maxHeartbeats 4000000
open Go.RowKit
theorem vP : lT iy (pf sI 10000 14 [.str yd]) = true := by kernel_rfl
theorem tI : Known [iy] := ⟨by decide +kernel, by decide +kernel, by decide +kernel⟩
theorem wY : (dP [iy] 0 []).fa = [⟨⟨0, [0, 1, 1]⟩, 6⟩, ⟨⟨0, [1, 2, 2]⟩, 3⟩] := by kernel_rfl
theorem pU : (dP [iy] 0 [0, 1]).rs = 5 ∧ (dP [iy] 0 [0, 1]).rl = 0 := ⟨by kernel_rfl, by kernel_rfl⟩
def wQ : Tree := (atK iy [0, 1]).getD (.node 0 [] [] [])
theorem xf : dL wQ.kind = true := by decide +kernel
theorem ws : rE 4000 iy [0, 1] wQ = true := by kernel_rfl
theorem uW : fO true := by
 have k := tI
 have e1 : bj [iy] [⟨⟨0, [0, 1, 1]⟩, 6⟩, ⟨⟨0, [1, 2, 2]⟩, 3⟩] := k.errs (by
  rw [wY]
  refine mc (by simp) fun i a b ha hb => ?_
  match i, ha, hb with
  | 0, ha, hb =>
   simp only [List.getElem?_cons_zero, Option.some.injEq, List.getElem?_cons_succ] at ha hb
   subst ha hb
   exact ⟨1, sV rfl rfl rfl (by decide), by decide⟩
  | n + 1, ha, hb => simp at hb)
 have e2 := xp (m := 0) (q := [0, 1]) (li k.ok) k.b k.u rfl (lS ws) xf pU.2
 have e3 : ofK [iy] ((0 : Nat) : Int) [0, 1] = (.node 5 [] [] [], 0) := by
  unfold ofK
  rw [show (dP [iy] ((0 : Nat) : Int) [0, 1]).rs = 5 from pU.1, show (dP [iy] ((0 : Nat) : Int) [0, 1]).rl = 0 from pU.2]
  rfl
 rw [e3] at e2
 exact jT 0 _ (⟨iy, 0, 0, wg vP, _, e1, _, _, e2, fun _ => ⟨fun _ => ⟨fun _ => ⟨fun _ => ⟨_, rfl, fun _ => ⟨_, rfl, _, nk _, fun _ => ⟨_, rfl, fun _ => ⟨_, rfl, _, nk _, rfl⟩, fun h => absurd rfl h⟩, fun h => (by cases h)⟩, fun h => absurd rfl h⟩, fun h => absurd rfl h⟩, fun h => absurd rfl h⟩, fun h => absurd rfl h⟩, fun h => absurd rfl h⟩)
theorem ze : gw true := uW
theorem xL {a n : Int} (hn : 0 < n) (hn2 : n ≤ 1000000000) : ∃ r, fH a n r ∧ 0 ≤ r ∧ r < n := by
 have h1 := Int.tmod_lt_of_pos a hn
 have h2 : -n < Int.tmod a n := by
  have := Int.tmod_lt_of_pos (-a) hn
  rw [Int.neg_tmod] at this; omega
 by_cases h : Int.tmod a n < 0
 ·exact ⟨Int.tmod a n + n, iA 0 _ _ _ (⟨by omega, fun _ => ⟨⟨by omega, by omega⟩, rfl⟩, fun h' => absurd h h'⟩), by omega, by omega⟩
 ·exact ⟨Int.tmod a n, iA 0 _ _ _ (⟨by omega, fun h' => absurd h' h, fun _ => rfl⟩), by omega, by omega⟩
def gv (k : Int) (b : Tree) : List Tree := [.node 1 [77] [] [.node 2 [102] [] [.node 4 [120] [] [.node 5 [] [] []], .node 5 [] [] [], .node 12 [120] [] []], .node 2 [103] [] [.node 4 [120] [] [.node 5 [] [] []], .node k [] [] [], b]]]
def jz : Tree := .node 15 [] [] []
def sn : Tree := .node 16 [110, 111, 116, 104, 105, 110, 103] [] []
theorem pI (k : Int) (b : Tree) : cu k b (gv k b) := jQ 0 _ _ _ (rfl)
structure Holes (k : Int) : Prop where
 a : Known (gv k jz)
 b : Known (gv k sn)
 c : (dP (gv k jz) 0 [1, 2]).rs = 0 ∧ (dP (gv k jz) 0 [1, 2]).rl = 0
 d : (dP (gv k jz) 0 []).fa = []
 e : (dP (gv k sn) 0 []).fa = [⟨⟨0, [1, 2]⟩, 1⟩]
 f : ∃ t, (gv k jz)[0]? = some t ∧ jq t [1, 2] jz true
theorem xT : Holes 5 := ⟨⟨by decide +kernel, by decide +kernel, by decide +kernel⟩, ⟨by decide +kernel, by decide +kernel, by decide +kernel⟩, ⟨by kernel_rfl, by kernel_rfl⟩, by kernel_rfl, by kernel_rfl, _, rfl, lS (k := 2000) (by kernel_rfl)⟩
theorem wO : Holes 6 := ⟨⟨by decide +kernel, by decide +kernel, by decide +kernel⟩, ⟨by decide +kernel, by decide +kernel, by decide +kernel⟩, ⟨by kernel_rfl, by kernel_rfl⟩, by kernel_rfl, by kernel_rfl, _, rfl, lS (k := 2000) (by kernel_rfl)⟩
theorem wF : Holes 7 := ⟨⟨by decide +kernel, by decide +kernel, by decide +kernel⟩, ⟨by decide +kernel, by decide +kernel, by decide +kernel⟩, ⟨by kernel_rfl, by kernel_rfl⟩, by kernel_rfl, by kernel_rfl, _, rfl, lS (k := 2000) (by kernel_rfl)⟩
theorem wE (z : Int) : dZ z true := by
 obtain ⟨r, h1, h2, h3⟩ := xL (a := z) (n := 3) (by decide) (by decide)
 have H : Holes (5 + r) := by
  have : r = 0 ∨ r = 1 ∨ r = 2 := by omega
  rcases this with rfl | rfl | rfl
  ·exact xT
  ·exact wO
  ·exact wF
 obtain ⟨k1, k2, ⟨c1, c2⟩, d, e, t, f1, f2⟩ := H
 have o := xp (m := 0) (q := [1, 2]) (li k1.ok) k1.b k1.u f1 f2 rfl c2
 have o3 : ofK (gv (5 + r) jz) ((0 : Nat) : Int) [1, 2] = (.node 0 [] [] [], 20) := by
  unfold ofK
  rw [if_pos]; exact c1
 rw [o3] at o
 have e1 : bj (gv (5 + r) jz) [] := k1.errs (by rw [d]; exact sN)
 have e2 : bj (gv (5 + r) sn) [⟨⟨0, [1, 2]⟩, 1⟩] := k2.errs (by rw [e]; exact ti _)
 exact ix 0 _ _ (⟨r, h1, ⟨by omega, by omega⟩, _, pI _ _, _, pI _ _, _, _, o, _, e2, _, ze, fun _ => ⟨fun _ => ⟨_, e1, fun _ => ⟨fun _ => ⟨_, rfl, rfl⟩, fun h => absurd rfl h⟩, fun h => absurd rfl h⟩, fun h => absurd rfl h⟩, fun h => (by cases h)⟩)
abbrev kv (W : World) : Nat → Prop := fun b => b < W.heap.size
abbrev VLive (W : World) (v : V) (x : Value) : Prop := VRel (kv W) W (fun _ => none) v x
theorem zJ {W : World} (z : Int) : VLive W (.int .i64 z) (.int .i64 z) := by simp only [VLive, VRel]
theorem zH {fid : FuncId} {us : List V} {b : Bool} (h : jf Tryz.prog fid us (.bool b)) {W : World} (hgl : ∀ p ∈ lD, VRel (kv W) W ρ0 (.box p.2 0) (.pointer (some ⟨p.1, 0, none⟩)) := by exact fun p hp => nomatch hp) {xs : List Value} (hx : LRel (kv W) W (fun _ => none) us xs) : Calls Tryz.prog fid xs.toArray W fun e W' => e = .returned (.bool b) ∧ Ext W W' := by
 have hr' : HRel (kv W) W (fun _ => none) (⟨0, []⟩ : Hp).get := vm ⟨fun _ h => h, hgl⟩
 refine (h.2.2 _ W _ xs hr' hx).mono ?_
 rintro e W' ⟨x, S', ρ', v, H', rfl, rfl, h1, h2, h3⟩
 simp only [VRel] at h3
 subst h3
 have hno : ∀ b, ¬ ∃ id, own (fun _ => none) id ((⟨0, []⟩ : Hp).get id) b := fun b ⟨id, hb⟩ => by rw [lx] at hb; exact hb
 exact ⟨rfl, Chg.ext ⟨h2.chg.os, h2.chg.tape, h2.chg.output, h2.chg.size, fun b hb _ => h2.chg.block b hb (hno b)⟩⟩
theorem lr1 {W : World} {u : V} {x : Value} (h : VLive W u x) : LRel (kv W) W (fun _ => none) [u] [x] := ⟨x, [], rfl, h, rfl⟩
open Go.RowKit Go.ChangeShapes Go.WideShapes Lx Sx
theorem qz : Tryz.prog.cellsOf 61 = 2 := by kernel_rfl
theorem tV : Tryz.prog.cellsOf 3 = 1 := by kernel_rfl
theorem mi {W : World} {n : String} {z : Int} {g : Nat} {r : List (String × DataW Unit)} {ps : List MemPlace} (hg : Tryz.prog.globalNamed n = some g) (ht : (Tryz.prog.globals[g]?).map (·.type) = some 61) (h : DataW.LaidVars Tryz.prog W ((n, .agg [.lit (.int .i64 z), .lit (.int .i64 0)]) :: r) ps) :
  (∃ qs, DataW.LaidVars Tryz.prog W r qs) ∧ VRel (kv W) W ρ0 (.box [.int .i64 z, .int .i64 0] 0) (.pointer (some ⟨g, 0, none⟩)) := by
 obtain ⟨g', t, cs, fuel, p, q, h1, h2, h3, h4, h5, _⟩ := h
 rw [hg] at h1
 injection h1 with h1; subst h1
 rw [ht] at h2
 injection h2 with h2; subst h2
 refine ⟨⟨q, h5⟩, ?_⟩
 obtain ⟨y0, y1, n', hx, hl, h6, h7⟩ := trod_struct2 Tryz.underlying61 h4
 rw [qz] at hl
 simp only [tV] at h6 h7
 obtain ⟨a, e0, f0, _⟩ := DataW.trod_int Tryz.underlying3 h6
 obtain ⟨b, e1, f1, _⟩ := DataW.trod_int Tryz.underlying3 h7
 rw [f0, f1] at hx
 simp only [Prod.mk.injEq, DataW.agg.injEq, List.cons.injEq, DataW.lit.injEq, Lit.int.injEq, true_and, and_true] at hx
 obtain ⟨⟨rfl, rfl⟩, _⟩ := hx
 have hcs : cs.toList = [.int .i64 z, .int .i64 0] := by
  match hc : cs.toList, hl with
  | [c0, c1], _ =>
   rw [hc] at e0 e1
   simp only [List.drop_zero, List.drop_succ_cons, List.take_succ_cons, List.take_zero, List.cons.injEq, and_true] at e0 e1
   rw [e0, e1]
 unfold World.var? at h3
 rw [hg] at h3
 simp only [Option.bind_some] at h3
 split at h3
 ·rename_i cs' ty fz hb
  injection h3 with h3; subst h3
  have hlt : g < W.heap.size := by
   rcases Nat.lt_or_ge g W.heap.size with h | h
   ·exact h
   ·rw [Array.getElem?_eq_none h] at hb; cases hb
  simp only [VRel]
  refine ⟨g, 0, [.int .i64 z, .int .i64 0], rfl, hlt, hlt, by simp only [LRel, VRel]; exact ⟨_, _, rfl, rfl, _, _, rfl, rfl, rfl⟩, fun j hj => ?_⟩
  rw [← hcs]
  simp [World.cell?, hb]
 ·cases h3
theorem zI {W : World} {ps : List MemPlace} (h : DataW.LaidVars Tryz.prog W [("semvcs/typing.integer", Rows.laid_semvcs_typing_integer), ("semvcs/typing.text", Rows.laid_semvcs_typing_text), ("semvcs/typing.boolean", Rows.laid_semvcs_typing_boolean)] ps) : ∀ p ∈ lD, VRel (kv W) W ρ0 (.box p.2 0) (.pointer (some ⟨p.1, 0, none⟩)) := by
 obtain ⟨⟨q1, h1⟩, a1⟩ := mi (g := 0) (by kernel_rfl) (by kernel_rfl) h
 obtain ⟨⟨q2, h2⟩, a2⟩ := mi (g := 1) (by kernel_rfl) (by kernel_rfl) h1
 obtain ⟨_, a3⟩ := mi (g := 2) (by kernel_rfl) (by kernel_rfl) h2
 intro p hp
 simp only [lD, List.mem_cons, List.not_mem_nil, or_false] at hp
 rcases hp with rfl | rfl | rfl
 ·exact a1
 ·exact a2
 ·exact a3
def uM (cs : Array Value) : Obj → Obj
 | .cells _ t frozen => .cells cs t frozen
 | o => o
noncomputable def tJ (os : Os) : World :=
 let w0 := World.holding Tryz.prog os ⟨#[], #[], []⟩
 { w0 with heap := ((w0.heap.modify 0 (uM #[.int .i64 5, .int .i64 0])).modify 1 (uM #[.int .i64 6, .int .i64 0])).modify 2 (uM #[.int .i64 7, .int .i64 0]) }
theorem zE (os : Os) (args : Array Value) : laidMet Tryz.prog Rows.typingHolesRow.laid ((tJ os).forCall (fun _ _ => 0) ⟨#[], args, []⟩).memory :=
 laidMet_of_run' 8 (by kernel_rfl) (by kernel_rfl)
end Go.Proofs.YtkkkpdbnnjoepaaGreatDoor
