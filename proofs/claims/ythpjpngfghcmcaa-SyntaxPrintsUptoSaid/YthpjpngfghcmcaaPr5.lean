/- Contracts of the functions that the law reaches, part 5. -/
import Derived.Test.YthpjpngfghcmcaaPr4
set_option linter.unusedVariables false
set_option linter.unusedSimpArgs false
namespace Go.Proofs.Ythpjpngfghcmcaa
open Go.RowKit Lx Sx
set_option maxRecDepth 100000
set_option maxHeartbeats 4000000
theorem nodeC_leaf {k : Int} {x l0 : List UInt8} (hk : k = 9 ∨ k = 10 ∨ k = 11 ∨ k = 12) : nodeC k x [l0] [] = [(l0, x)] := by
  rcases hk with rfl | rfl | rfl | rfl <;> simp [nodeC, singleT]
def PiecesOk (N : Nat) : Prop := ∀ (t : Tree) (w : World) (Bs : Nat) (v : Value) (ps : List Pc) (c0 c1 c2 c3 : Value), tsize t ≤ N → (shapedT t && leadedT t && decide (tbulk t ≤ 1000000000)) = true → ps.length + (pcsT t).length ≤ 1000000000 → Ow Bs w v ps → TreeIs (fun b => b < Bs) w t [c0, c1, c2, c3] → Bs ≤ w.heap.size →
  Calls Try.prog 64 [v, .agg #[c0, c1, c2, c3]].toArray w fun e w' => ∃ v', e = .returned v' ∧ Ow Bs w' v' (ps ++ pcsT t) ∧ Chg v.ownBlock.toList w w' ∧ Fresh w v v'
theorem pcsTs_length : ∀ ks : List Tree, (pcsTs ks).length = ks.length
  | [] => rfl
  | t :: r => by simp [pcsTs, pcsTs_length r]
theorem fresh_s {w : World} {v v' : Value} (h : Fresh w v v') : v'.ownBlock.isSome = true ∨ v'.ownBlock = v.ownBlock := by
  rcases h with h | ⟨g, h, _⟩
  · exact .inr h
  · exact .inl (by rw [h]; rfl)
theorem own_some {Bs : Nat} {w : World} {v : Value} {ps : List Pc} (h : Ow Bs w v ps) (hp : 0 < ps.length := by omega) : v.ownBlock.isSome = true := by
  obtain ⟨g, cap, hv, _, _⟩ := h.form hp
  rw [hv]; rfl
theorem p3 {N : Nat} (ih : PiecesOk N) {w : World} {Bs : Nat} {v0 : Value} {ps : List Pc} {x : List UInt8} {l0 l1 l2 : List UInt8} {k0 : Tree} {cs : List Value} {A B : Option Addr} {m n : Nat} (hks : ∀ t, t ∈ [k0] → tsize t ≤ N ∧ (shapedT t && leadedT t && decide (tbulk t ≤ 1000000000)) = true)
    (hl1 : ps.length + (pcsT (.node 3 x [l0, l1, l2] [k0])).length ≤ 1000000000) (hO : Ow Bs w v0 ps) (hL : RowIn (fun b => b < Bs) w 1 A [l0, l1, l2].length ([l0, l1, l2].map strV)) (hn0 : [k0].length ≤ n) (hn2 : n ≤ maxLen) (hK : KidsAre (fun b => b < Bs) w [k0] cs) (hR : RowIn (fun b => b < Bs) w 4 B [k0].length cs) (hBs : Bs ≤ w.heap.size) :
    Calls Try.prog 64 [v0, .agg #[.int .i64 3, strV x, .slice A [l0, l1, l2].length m, .slice B [k0].length n]].toArray w fun e w' => ∃ v', e = .returned v' ∧ Ow Bs w' v' (ps ++ pcsT (.node 3 x [l0, l1, l2] [k0])) ∧ Chg v0.ownBlock.toList w w' ∧ Fresh w v0 v' := by
  have hq : (pcsT (.node 3 x [l0, l1, l2] [k0])).length = 3 + (pcsT k0).length := by simp [pcsT, pcsTs, nodeC, singleT] <;> omega
  have hE := Chg.refl v0.ownBlock.toList w
  have hVB : ∀ g, g ∈ v0.ownBlock.toList → Bs ≤ g := fun g h => (hO.ge (by simpa using h)).1
  have hg : ∀ g, v0.ownBlock = some g → g ∈ v0.ownBlock.toList ∨ w.heap.size ≤ g := fun g e => .inl (by simpa using e)
  obtain ⟨kb, ko, rfl, lbB, hkb, _⟩ := hR.2 (by simp)
  obtain ⟨d00, d01, d02, d03, hT0, hc0⟩ := kid_at hK hR rfl (i := 0) (t := k0) rfl
  have on0 := hT0.one
  refine rE 365 Try.func64 rfl rfl rfl ?_
  intro a hf
  refine rR 2 hf rfl fun a hf => ?_
  obtain ⟨w1, b2, he, hB3, hx4, eb5, lb6⟩ := ef_box (P := Try.prog) (t := 26) (x := (.tmp 1)) hf rfl rfl w 0
  refine rV hf rfl he fun a hf => ?_
  have ge_b2 := ge_new hE eb5
  have hn : v0.ownBlock ≠ some b2 := fun e => by have := (hO.ge e).2; omega
  replace hO := hO.t0 hx4
  replace hE := hE.t0 hx4
  clear eb5 lb6
  refine rR 6 hf rfl fun a hf => rV hf rfl (ex_loadB hf rfl (by kernel_rfl) hB3 rfl) fun a hf => rV hf rfl (ex_len hf Try.underlying24 rfl) fun a hf => rR 7 hf rfl fun a hf => rV hf rfl (ex_loadB hf rfl (by kernel_rfl) hB3 rfl) fun a hf => rR 25 hf rfl fun a hf => ?_
  have hEs := hE
  have s_hB3 := hB3
  refine rD (fun x => x.cell? ⟨b2, 0, none⟩ = w1.cell? ⟨b2, 0, none⟩ ∧ x.cell? ⟨b2, 1, none⟩ = w1.cell? ⟨b2, 1, none⟩ ∧ x.cell? ⟨b2, 2, none⟩ = w1.cell? ⟨b2, 2, none⟩ ∧ x.cell? ⟨b2, 3, none⟩ = w1.cell? ⟨b2, 3, none⟩) 15 15 rfl (by kernel_rfl) (by kernel_rfl) ?_
  intro w7 hx8 hsel
  replace hB3 := hB3.c0 hx8
  replace hO := hO.t0 hx8
  replace hE := hE.t0 hx8
  have hS0 : w7.cell? ⟨b2, 0, none⟩ = w1.cell? ⟨b2, 0, none⟩ ∧ w7.cell? ⟨b2, 1, none⟩ = w1.cell? ⟨b2, 1, none⟩ ∧ w7.cell? ⟨b2, 2, none⟩ = w1.cell? ⟨b2, 2, none⟩ ∧ w7.cell? ⟨b2, 3, none⟩ = w1.cell? ⟨b2, 3, none⟩ := ⟨(hB3.cell 0).trans (s_hB3.cell 0).symm, (hB3.cell 1).trans (s_hB3.cell 1).symm, (hB3.cell 2).trans (s_hB3.cell 2).symm, (hB3.cell 3).trans (s_hB3.cell 3).symm⟩
  refine dR [0] hsel (by kernel_rfl) hf rfl rfl (.inl hS0) fun a hf => dL 1 rfl rfl hsel (by kernel_rfl) hf rfl hS0 (fun x hS => ex_loadX4 hf rfl (by kernel_rfl) s_hB3 rfl hS.1 hS.2.1 hS.2.2.1 hS.2.2.2) fun a hf => dL 4 rfl rfl hsel (by kernel_rfl) hf rfl hS0 (fun x hS => ex_loadX4 hf rfl (by kernel_rfl) s_hB3 rfl hS.1 hS.2.1 hS.2.2.1 hS.2.2.2) fun a hf => dR [6] hsel (by kernel_rfl) hf rfl rfl (.inl hS0) fun a hf => dL 7 rfl rfl hsel (by kernel_rfl) hf rfl hS0 (fun x hS => ex_load hf rfl (by kernel_rfl) (hS.2.1.trans ((s_hB3.cell 1).trans rfl))) fun a hf => dL 9 rfl rfl hsel (by kernel_rfl) hf rfl hS0 (fun x hS => ex_loadX4 hf rfl (by kernel_rfl) s_hB3 rfl hS.1 hS.2.1 hS.2.2.1 hS.2.2.2) fun a hf => dl_c 2 (by kernel_rfl) rfl hf rfl rfl rfl (by kernel_rfl) (leadAtR (ls := [l0, l1, l2]) (j := 0) rfl (row_now hL hE hVB)) ?_
  rintro _ w10 ⟨rfl, hx9⟩
  refine ⟨_, rfl, fun a hf => ?_⟩
  replace hB3 := hB3.c0 hx9
  replace hO := hO.t0 hx9
  replace hE := hE.t0 hx9
  clear hS0
  have hS0 : w10.cell? ⟨b2, 0, none⟩ = w1.cell? ⟨b2, 0, none⟩ ∧ w10.cell? ⟨b2, 1, none⟩ = w1.cell? ⟨b2, 1, none⟩ ∧ w10.cell? ⟨b2, 2, none⟩ = w1.cell? ⟨b2, 2, none⟩ ∧ w10.cell? ⟨b2, 3, none⟩ = w1.cell? ⟨b2, 3, none⟩ := ⟨(hB3.cell 0).trans (s_hB3.cell 0).symm, (hB3.cell 1).trans (s_hB3.cell 1).symm, (hB3.cell 2).trans (s_hB3.cell 2).symm, (hB3.cell 3).trans (s_hB3.cell 3).symm⟩
  refine ⟨.inl hS0, ?_⟩
  refine dV 3 rfl rfl hsel (by kernel_rfl) hf rfl (.inl hS0) (fun x => ex_bd (ps := [(0, (.tmp 98)), (1, (.const (.string ⟨#[116, 121, 112, 101]⟩)))]) (z := [.string ⟨([] : List UInt8).toArray⟩, .string ⟨([] : List UInt8).toArray⟩]) (os := [0, 1]) hf rfl (by kernel_rfl) (by kernel_rfl) (by kernel_rfl) rfl rfl) fun a hf => dl_c 5 (by kernel_rfl) rfl hf rfl rfl rfl (by kernel_rfl) (leadAtR (ls := [l0, l1, l2]) (j := 1) rfl (row_now hL hE hVB)) ?_
  rintro _ w12 ⟨rfl, hx11⟩
  refine ⟨_, rfl, fun a hf => ?_⟩
  replace hB3 := hB3.c0 hx11
  replace hO := hO.t0 hx11
  replace hE := hE.t0 hx11
  clear hS0
  have hS0 : w12.cell? ⟨b2, 0, none⟩ = w1.cell? ⟨b2, 0, none⟩ ∧ w12.cell? ⟨b2, 1, none⟩ = w1.cell? ⟨b2, 1, none⟩ ∧ w12.cell? ⟨b2, 2, none⟩ = w1.cell? ⟨b2, 2, none⟩ ∧ w12.cell? ⟨b2, 3, none⟩ = w1.cell? ⟨b2, 3, none⟩ := ⟨(hB3.cell 0).trans (s_hB3.cell 0).symm, (hB3.cell 1).trans (s_hB3.cell 1).symm, (hB3.cell 2).trans (s_hB3.cell 2).symm, (hB3.cell 3).trans (s_hB3.cell 3).symm⟩
  refine ⟨.inl hS0, ?_⟩
  refine dV 8 rfl rfl hsel (by kernel_rfl) hf rfl (.inl hS0) (fun x => ex_bd (ps := [(0, (.tmp 101)), (1, (.tmp 103))]) (z := [.string ⟨([] : List UInt8).toArray⟩, .string ⟨([] : List UInt8).toArray⟩]) (os := [0, 1]) hf rfl (by kernel_rfl) (by kernel_rfl) (by kernel_rfl) rfl rfl) fun a hf => dl_c 10 (by kernel_rfl) rfl hf rfl rfl rfl (by kernel_rfl) (leadAtR (ls := [l0, l1, l2]) (j := 2) rfl (row_now hL hE hVB)) ?_
  rintro _ w14 ⟨rfl, hx13⟩
  refine ⟨_, rfl, fun a hf => ?_⟩
  replace hB3 := hB3.c0 hx13
  replace hO := hO.t0 hx13
  replace hE := hE.t0 hx13
  clear hS0
  have hS0 : w14.cell? ⟨b2, 0, none⟩ = w1.cell? ⟨b2, 0, none⟩ ∧ w14.cell? ⟨b2, 1, none⟩ = w1.cell? ⟨b2, 1, none⟩ ∧ w14.cell? ⟨b2, 2, none⟩ = w1.cell? ⟨b2, 2, none⟩ ∧ w14.cell? ⟨b2, 3, none⟩ = w1.cell? ⟨b2, 3, none⟩ := ⟨(hB3.cell 0).trans (s_hB3.cell 0).symm, (hB3.cell 1).trans (s_hB3.cell 1).symm, (hB3.cell 2).trans (s_hB3.cell 2).symm, (hB3.cell 3).trans (s_hB3.cell 3).symm⟩
  refine ⟨.inl hS0, ?_⟩
  refine dV 11 rfl rfl hsel (by kernel_rfl) hf rfl (.inl hS0) (fun x => ex_bd (ps := [(0, (.tmp 106)), (1, (.const (.string ⟨#[61]⟩)))]) (z := [.string ⟨([] : List UInt8).toArray⟩, .string ⟨([] : List UInt8).toArray⟩]) (os := [0, 1]) hf rfl (by kernel_rfl) (by kernel_rfl) (by kernel_rfl) rfl rfl) fun a hf => ?_
  obtain ⟨w15, b16, he, hB17, hx18, eb19, lb20⟩ := ef_bslice (P := Try.prog) (ps := [(0, (.tmp 99)), (1, (.tmp 104)), (2, (.tmp 107))]) (m := 3) (sz := 2) (z := [.string ⟨([] : List UInt8).toArray⟩, .string ⟨([] : List UInt8).toArray⟩]) hf rfl Try.underlying54 (by kernel_rfl) (by kernel_rfl) rfl rfl (by kernel_rfl) rfl w14 54
  refine dl_e 12 (by kernel_rfl) rfl hf rfl rfl he fun a hf => ?_
  have ne_b2_b16 : b2 ≠ b16 := ne_new hB3.lt eb19
  have ge_b16 := ge_new hE eb19
  replace hB3 := hB3.c0 hx18
  replace hO := hO.t0 hx18
  replace hE := hE.t0 hx18
  clear eb19 lb20
  clear hS0
  have hS0 : w15.cell? ⟨b2, 0, none⟩ = w1.cell? ⟨b2, 0, none⟩ ∧ w15.cell? ⟨b2, 1, none⟩ = w1.cell? ⟨b2, 1, none⟩ ∧ w15.cell? ⟨b2, 2, none⟩ = w1.cell? ⟨b2, 2, none⟩ ∧ w15.cell? ⟨b2, 3, none⟩ = w1.cell? ⟨b2, 3, none⟩ := ⟨(hB3.cell 0).trans (s_hB3.cell 0).symm, (hB3.cell 1).trans (s_hB3.cell 1).symm, (hB3.cell 2).trans (s_hB3.cell 2).symm, (hB3.cell 3).trans (s_hB3.cell 3).symm⟩
  refine ⟨.inl hS0, ?_⟩
  obtain ⟨v22, w21, he, hO23, hx24, hfr25⟩ := eP (.tmp 96) (.tmp 108) [(l0, [116, 121, 112, 101]), (l1, x), (l2, [61])] hf rfl rfl hO hB17 rfl (by (try simp only [List.length_cons, List.length_nil]); omega) (nlt hBs hE.size) 54
  refine dl_e 13 (by kernel_rfl) rfl hf rfl rfl he fun a hf => ?_
  have hn2 := own_ne hfr25 hn hB3.lt
  have hg2 := own_from hfr25 hg hE.size
  replace hB3 := hB3.chg hx24 (nmO hn)
  replace hE := chg_own hE hx24 hg
  clear hO hn hg hfr25
  have hO := hO23; clear hO23
  have hn := hn2; clear hn2
  have hg := hg2; clear hg2
  obtain ⟨ps26, eps26⟩ : ∃ z, z = ps ++ [(l0, [116, 121, 112, 101]), (l1, x), (l2, [61])] := ⟨_, rfl⟩
  rw [← eps26] at hO
  have lps26 : ps26.length = ps.length + 3 := by rw [eps26]; simp
  clear hS0
  have hS0 : w21.cell? ⟨b2, 0, none⟩ = w1.cell? ⟨b2, 0, none⟩ ∧ w21.cell? ⟨b2, 1, none⟩ = w1.cell? ⟨b2, 1, none⟩ ∧ w21.cell? ⟨b2, 2, none⟩ = w1.cell? ⟨b2, 2, none⟩ ∧ w21.cell? ⟨b2, 3, none⟩ = w1.cell? ⟨b2, 3, none⟩ := ⟨(hB3.cell 0).trans (s_hB3.cell 0).symm, (hB3.cell 1).trans (s_hB3.cell 1).symm, (hB3.cell 2).trans (s_hB3.cell 2).symm, (hB3.cell 3).trans (s_hB3.cell 3).symm⟩
  refine ⟨.inl hS0, ?_⟩
  refine dR [14] hsel (by kernel_rfl) hf rfl rfl (.inl hS0) fun a hf => rN (by kernel_rfl) ?_
  clear hS0 hsel
  refine rR 5 hf rfl fun a hf => rV hf rfl (ex_loadB hf rfl (by kernel_rfl) hB3 rfl) fun a hf => rV hf rfl (ex_index (sz := 4) (k := 0) (r := ko) hf Try.underlying24 (by kernel_rfl) rfl rfl rfl (by simp) rfl) fun a hf => rV hf rfl (ex_loadN (cs := [d00, d01, d02, d03]) (m := 4) hf rfl (by kernel_rfl) rfl (fun r hr => (low_now hE hVB hkb lbB).trans (hc0 r hr))) fun a hf => rC hf rfl rfl (by kernel_rfl) (ih k0 _ Bs _ ps26 _ _ _ _ (hks _ (by simp)).1 (hks _ (by simp)).2 (by omega) hO (tree_now hT0 hE hVB) (nlt hBs hE.size)) ?_
  rintro _ w31 ⟨v28, rfl, hO29, hx27, hfr30⟩
  refine ⟨_, rfl, fun a hf => ?_⟩
  have hn2 := own_ne hfr30 hn hB3.lt
  have hg2 := own_from hfr30 hg hE.size
  replace hB3 := hB3.chg hx27 (nmO hn)
  replace hE := chg_own hE hx27 hg
  clear hO hn hg hfr30
  have hO := hO29; clear hO29
  have hn := hn2; clear hn2
  have hg := hg2; clear hg2
  obtain ⟨ps32, eps32⟩ : ∃ z, z = ps26 ++ pcsT k0 := ⟨_, rfl⟩
  rw [← eps32] at hO
  have lps32 : ps32.length = ps26.length + (pcsT k0).length := by rw [eps32, List.length_append]
  refine rR 6 hf rfl fun a hf => ?_
  have eq : ps ++ pcsT (.node 3 x [l0, l1, l2] [k0]) = ps32 := by subst eps32; subst eps26; simp [pcsT, pcsTs, nodeC, singleT]
  exact rT (rs := [.tmp 4]) hf rfl ⟨_, _, rfl, rfl, rfl⟩ ⟨_, rfl, eq ▸ hO, hE, fresh_all hg (.inl (own_some hO))⟩
theorem p4 {N : Nat} (ih : PiecesOk N) {w : World} {Bs : Nat} {v0 : Value} {ps : List Pc} {x : List UInt8} {l0 l1 : List UInt8} {k0 : Tree} {cs : List Value} {A B : Option Addr} {m n : Nat} (hks : ∀ t, t ∈ [k0] → tsize t ≤ N ∧ (shapedT t && leadedT t && decide (tbulk t ≤ 1000000000)) = true)
    (hl1 : ps.length + (pcsT (.node 4 x [l0, l1] [k0])).length ≤ 1000000000) (hO : Ow Bs w v0 ps) (hL : RowIn (fun b => b < Bs) w 1 A [l0, l1].length ([l0, l1].map strV)) (hn0 : [k0].length ≤ n) (hn2 : n ≤ maxLen) (hK : KidsAre (fun b => b < Bs) w [k0] cs) (hR : RowIn (fun b => b < Bs) w 4 B [k0].length cs) (hBs : Bs ≤ w.heap.size) :
    Calls Try.prog 64 [v0, .agg #[.int .i64 4, strV x, .slice A [l0, l1].length m, .slice B [k0].length n]].toArray w fun e w' => ∃ v', e = .returned v' ∧ Ow Bs w' v' (ps ++ pcsT (.node 4 x [l0, l1] [k0])) ∧ Chg v0.ownBlock.toList w w' ∧ Fresh w v0 v' := by
  have hq : (pcsT (.node 4 x [l0, l1] [k0])).length = 2 + (pcsT k0).length := by simp [pcsT, pcsTs, nodeC, singleT] <;> omega
  have hE := Chg.refl v0.ownBlock.toList w
  have hVB : ∀ g, g ∈ v0.ownBlock.toList → Bs ≤ g := fun g h => (hO.ge (by simpa using h)).1
  have hg : ∀ g, v0.ownBlock = some g → g ∈ v0.ownBlock.toList ∨ w.heap.size ≤ g := fun g e => .inl (by simpa using e)
  obtain ⟨kb, ko, rfl, lbB, hkb, _⟩ := hR.2 (by simp)
  obtain ⟨d00, d01, d02, d03, hT0, hc0⟩ := kid_at hK hR rfl (i := 0) (t := k0) rfl
  have on0 := hT0.one
  refine rE 365 Try.func64 rfl rfl rfl ?_
  intro a hf
  refine rR 2 hf rfl fun a hf => ?_
  obtain ⟨w1, b2, he, hB3, hx4, eb5, lb6⟩ := ef_box (P := Try.prog) (t := 26) (x := (.tmp 1)) hf rfl rfl w 0
  refine rV hf rfl he fun a hf => ?_
  have ge_b2 := ge_new hE eb5
  have hn : v0.ownBlock ≠ some b2 := fun e => by have := (hO.ge e).2; omega
  replace hO := hO.t0 hx4
  replace hE := hE.t0 hx4
  clear eb5 lb6
  refine rR 6 hf rfl fun a hf => rV hf rfl (ex_loadB hf rfl (by kernel_rfl) hB3 rfl) fun a hf => rV hf rfl (ex_len hf Try.underlying24 rfl) fun a hf => rR 7 hf rfl fun a hf => rV hf rfl (ex_loadB hf rfl (by kernel_rfl) hB3 rfl) fun a hf => rR 32 hf rfl fun a hf => ?_
  have hEs := hE
  have s_hB3 := hB3
  refine rD (fun x => x.cell? ⟨b2, 0, none⟩ = w1.cell? ⟨b2, 0, none⟩ ∧ x.cell? ⟨b2, 1, none⟩ = w1.cell? ⟨b2, 1, none⟩ ∧ x.cell? ⟨b2, 2, none⟩ = w1.cell? ⟨b2, 2, none⟩ ∧ x.cell? ⟨b2, 3, none⟩ = w1.cell? ⟨b2, 3, none⟩) 12 12 rfl (by kernel_rfl) (by kernel_rfl) ?_
  intro w7 hx8 hsel
  replace hB3 := hB3.c0 hx8
  replace hO := hO.t0 hx8
  replace hE := hE.t0 hx8
  have hS0 : w7.cell? ⟨b2, 0, none⟩ = w1.cell? ⟨b2, 0, none⟩ ∧ w7.cell? ⟨b2, 1, none⟩ = w1.cell? ⟨b2, 1, none⟩ ∧ w7.cell? ⟨b2, 2, none⟩ = w1.cell? ⟨b2, 2, none⟩ ∧ w7.cell? ⟨b2, 3, none⟩ = w1.cell? ⟨b2, 3, none⟩ := ⟨(hB3.cell 0).trans (s_hB3.cell 0).symm, (hB3.cell 1).trans (s_hB3.cell 1).symm, (hB3.cell 2).trans (s_hB3.cell 2).symm, (hB3.cell 3).trans (s_hB3.cell 3).symm⟩
  refine dR [0] hsel (by kernel_rfl) hf rfl rfl (.inl hS0) fun a hf => dL 1 rfl rfl hsel (by kernel_rfl) hf rfl hS0 (fun x hS => ex_loadX4 hf rfl (by kernel_rfl) s_hB3 rfl hS.1 hS.2.1 hS.2.2.1 hS.2.2.2) fun a hf => dR [3] hsel (by kernel_rfl) hf rfl rfl (.inl hS0) fun a hf => dL 4 rfl rfl hsel (by kernel_rfl) hf rfl hS0 (fun x hS => ex_load hf rfl (by kernel_rfl) (hS.2.1.trans ((s_hB3.cell 1).trans rfl))) fun a hf => dL 6 rfl rfl hsel (by kernel_rfl) hf rfl hS0 (fun x hS => ex_loadX4 hf rfl (by kernel_rfl) s_hB3 rfl hS.1 hS.2.1 hS.2.2.1 hS.2.2.2) fun a hf => dl_c 2 (by kernel_rfl) rfl hf rfl rfl rfl (by kernel_rfl) (leadAtR (ls := [l0, l1]) (j := 0) rfl (row_now hL hE hVB)) ?_
  rintro _ w10 ⟨rfl, hx9⟩
  refine ⟨_, rfl, fun a hf => ?_⟩
  replace hB3 := hB3.c0 hx9
  replace hO := hO.t0 hx9
  replace hE := hE.t0 hx9
  clear hS0
  have hS0 : w10.cell? ⟨b2, 0, none⟩ = w1.cell? ⟨b2, 0, none⟩ ∧ w10.cell? ⟨b2, 1, none⟩ = w1.cell? ⟨b2, 1, none⟩ ∧ w10.cell? ⟨b2, 2, none⟩ = w1.cell? ⟨b2, 2, none⟩ ∧ w10.cell? ⟨b2, 3, none⟩ = w1.cell? ⟨b2, 3, none⟩ := ⟨(hB3.cell 0).trans (s_hB3.cell 0).symm, (hB3.cell 1).trans (s_hB3.cell 1).symm, (hB3.cell 2).trans (s_hB3.cell 2).symm, (hB3.cell 3).trans (s_hB3.cell 3).symm⟩
  refine ⟨.inl hS0, ?_⟩
  refine dV 5 rfl rfl hsel (by kernel_rfl) hf rfl (.inl hS0) (fun x => ex_bd (ps := [(0, (.tmp 120)), (1, (.tmp 122))]) (z := [.string ⟨([] : List UInt8).toArray⟩, .string ⟨([] : List UInt8).toArray⟩]) (os := [0, 1]) hf rfl (by kernel_rfl) (by kernel_rfl) (by kernel_rfl) rfl rfl) fun a hf => dl_c 7 (by kernel_rfl) rfl hf rfl rfl rfl (by kernel_rfl) (leadAtR (ls := [l0, l1]) (j := 1) rfl (row_now hL hE hVB)) ?_
  rintro _ w12 ⟨rfl, hx11⟩
  refine ⟨_, rfl, fun a hf => ?_⟩
  replace hB3 := hB3.c0 hx11
  replace hO := hO.t0 hx11
  replace hE := hE.t0 hx11
  clear hS0
  have hS0 : w12.cell? ⟨b2, 0, none⟩ = w1.cell? ⟨b2, 0, none⟩ ∧ w12.cell? ⟨b2, 1, none⟩ = w1.cell? ⟨b2, 1, none⟩ ∧ w12.cell? ⟨b2, 2, none⟩ = w1.cell? ⟨b2, 2, none⟩ ∧ w12.cell? ⟨b2, 3, none⟩ = w1.cell? ⟨b2, 3, none⟩ := ⟨(hB3.cell 0).trans (s_hB3.cell 0).symm, (hB3.cell 1).trans (s_hB3.cell 1).symm, (hB3.cell 2).trans (s_hB3.cell 2).symm, (hB3.cell 3).trans (s_hB3.cell 3).symm⟩
  refine ⟨.inl hS0, ?_⟩
  refine dV 8 rfl rfl hsel (by kernel_rfl) hf rfl (.inl hS0) (fun x => ex_bd (ps := [(0, (.tmp 125)), (1, (.const (.string ⟨#[58]⟩)))]) (z := [.string ⟨([] : List UInt8).toArray⟩, .string ⟨([] : List UInt8).toArray⟩]) (os := [0, 1]) hf rfl (by kernel_rfl) (by kernel_rfl) (by kernel_rfl) rfl rfl) fun a hf => ?_
  obtain ⟨w13, b14, he, hB15, hx16, eb17, lb18⟩ := ef_bslice (P := Try.prog) (ps := [(0, (.tmp 123)), (1, (.tmp 126))]) (m := 2) (sz := 2) (z := [.string ⟨([] : List UInt8).toArray⟩, .string ⟨([] : List UInt8).toArray⟩]) hf rfl Try.underlying54 (by kernel_rfl) (by kernel_rfl) rfl rfl (by kernel_rfl) rfl w12 54
  refine dl_e 9 (by kernel_rfl) rfl hf rfl rfl he fun a hf => ?_
  have ne_b2_b14 : b2 ≠ b14 := ne_new hB3.lt eb17
  have ge_b14 := ge_new hE eb17
  replace hB3 := hB3.c0 hx16
  replace hO := hO.t0 hx16
  replace hE := hE.t0 hx16
  clear eb17 lb18
  clear hS0
  have hS0 : w13.cell? ⟨b2, 0, none⟩ = w1.cell? ⟨b2, 0, none⟩ ∧ w13.cell? ⟨b2, 1, none⟩ = w1.cell? ⟨b2, 1, none⟩ ∧ w13.cell? ⟨b2, 2, none⟩ = w1.cell? ⟨b2, 2, none⟩ ∧ w13.cell? ⟨b2, 3, none⟩ = w1.cell? ⟨b2, 3, none⟩ := ⟨(hB3.cell 0).trans (s_hB3.cell 0).symm, (hB3.cell 1).trans (s_hB3.cell 1).symm, (hB3.cell 2).trans (s_hB3.cell 2).symm, (hB3.cell 3).trans (s_hB3.cell 3).symm⟩
  refine ⟨.inl hS0, ?_⟩
  obtain ⟨v20, w19, he, hO21, hx22, hfr23⟩ := eP (.tmp 118) (.tmp 127) [(l0, x), (l1, [58])] hf rfl rfl hO hB15 rfl (by (try simp only [List.length_cons, List.length_nil]); omega) (nlt hBs hE.size) 54
  refine dl_e 10 (by kernel_rfl) rfl hf rfl rfl he fun a hf => ?_
  have hn2 := own_ne hfr23 hn hB3.lt
  have hg2 := own_from hfr23 hg hE.size
  replace hB3 := hB3.chg hx22 (nmO hn)
  replace hE := chg_own hE hx22 hg
  clear hO hn hg hfr23
  have hO := hO21; clear hO21
  have hn := hn2; clear hn2
  have hg := hg2; clear hg2
  obtain ⟨ps24, eps24⟩ : ∃ z, z = ps ++ [(l0, x), (l1, [58])] := ⟨_, rfl⟩
  rw [← eps24] at hO
  have lps24 : ps24.length = ps.length + 2 := by rw [eps24]; simp
  clear hS0
  have hS0 : w19.cell? ⟨b2, 0, none⟩ = w1.cell? ⟨b2, 0, none⟩ ∧ w19.cell? ⟨b2, 1, none⟩ = w1.cell? ⟨b2, 1, none⟩ ∧ w19.cell? ⟨b2, 2, none⟩ = w1.cell? ⟨b2, 2, none⟩ ∧ w19.cell? ⟨b2, 3, none⟩ = w1.cell? ⟨b2, 3, none⟩ := ⟨(hB3.cell 0).trans (s_hB3.cell 0).symm, (hB3.cell 1).trans (s_hB3.cell 1).symm, (hB3.cell 2).trans (s_hB3.cell 2).symm, (hB3.cell 3).trans (s_hB3.cell 3).symm⟩
  refine ⟨.inl hS0, ?_⟩
  refine dR [11] hsel (by kernel_rfl) hf rfl rfl (.inl hS0) fun a hf => rN (by kernel_rfl) ?_
  clear hS0 hsel
  refine rR 5 hf rfl fun a hf => rV hf rfl (ex_loadB hf rfl (by kernel_rfl) hB3 rfl) fun a hf => rV hf rfl (ex_index (sz := 4) (k := 0) (r := ko) hf Try.underlying24 (by kernel_rfl) rfl rfl rfl (by simp) rfl) fun a hf => rV hf rfl (ex_loadN (cs := [d00, d01, d02, d03]) (m := 4) hf rfl (by kernel_rfl) rfl (fun r hr => (low_now hE hVB hkb lbB).trans (hc0 r hr))) fun a hf => rC hf rfl rfl (by kernel_rfl) (ih k0 _ Bs _ ps24 _ _ _ _ (hks _ (by simp)).1 (hks _ (by simp)).2 (by omega) hO (tree_now hT0 hE hVB) (nlt hBs hE.size)) ?_
  rintro _ w29 ⟨v26, rfl, hO27, hx25, hfr28⟩
  refine ⟨_, rfl, fun a hf => ?_⟩
  have hn2 := own_ne hfr28 hn hB3.lt
  have hg2 := own_from hfr28 hg hE.size
  replace hB3 := hB3.chg hx25 (nmO hn)
  replace hE := chg_own hE hx25 hg
  clear hO hn hg hfr28
  have hO := hO27; clear hO27
  have hn := hn2; clear hn2
  have hg := hg2; clear hg2
  obtain ⟨ps30, eps30⟩ : ∃ z, z = ps24 ++ pcsT k0 := ⟨_, rfl⟩
  rw [← eps30] at hO
  have lps30 : ps30.length = ps24.length + (pcsT k0).length := by rw [eps30, List.length_append]
  refine rR 6 hf rfl fun a hf => ?_
  have eq : ps ++ pcsT (.node 4 x [l0, l1] [k0]) = ps30 := by subst eps30; subst eps24; simp [pcsT, pcsTs, nodeC, singleT]
  exact rT (rs := [.tmp 4]) hf rfl ⟨_, _, rfl, rfl, rfl⟩ ⟨_, rfl, eq ▸ hO, hE, fresh_all hg (.inl (own_some hO))⟩
theorem p5 {N : Nat} {w : World} {Bs : Nat} {v0 : Value} {ps : List Pc} {x : List UInt8} {l0 : List UInt8} {cs : List Value} {A B : Option Addr} {m n : Nat} (hks : ∀ t, t ∈ ([] : List Tree) → tsize t ≤ N ∧ (shapedT t && leadedT t && decide (tbulk t ≤ 1000000000)) = true)
    (hl1 : ps.length + (pcsT (.node 5 x [l0] ([] : List Tree))).length ≤ 1000000000) (hO : Ow Bs w v0 ps) (hL : RowIn (fun b => b < Bs) w 1 A [l0].length ([l0].map strV)) (hn0 : ([] : List Tree).length ≤ n) (hn2 : n ≤ maxLen) (hK : KidsAre (fun b => b < Bs) w ([] : List Tree) cs) (hR : RowIn (fun b => b < Bs) w 4 B ([] : List Tree).length cs) (hBs : Bs ≤ w.heap.size) :
    Calls Try.prog 64 [v0, .agg #[.int .i64 5, strV x, .slice A [l0].length m, .slice B ([] : List Tree).length n]].toArray w fun e w' => ∃ v', e = .returned v' ∧ Ow Bs w' v' (ps ++ pcsT (.node 5 x [l0] ([] : List Tree))) ∧ Chg v0.ownBlock.toList w w' ∧ Fresh w v0 v' := by
  have hq : (pcsT (.node 5 x [l0] ([] : List Tree))).length = 1 := by simp [pcsT, pcsTs, nodeC, singleT] <;> omega
  have hE := Chg.refl v0.ownBlock.toList w
  have hVB : ∀ g, g ∈ v0.ownBlock.toList → Bs ≤ g := fun g h => (hO.ge (by simpa using h)).1
  have hg : ∀ g, v0.ownBlock = some g → g ∈ v0.ownBlock.toList ∨ w.heap.size ≤ g := fun g e => .inl (by simpa using e)
  refine rE 365 Try.func64 rfl rfl rfl ?_
  intro a hf
  refine rR 2 hf rfl fun a hf => ?_
  obtain ⟨w1, b2, he, hB3, hx4, eb5, lb6⟩ := ef_box (P := Try.prog) (t := 26) (x := (.tmp 1)) hf rfl rfl w 0
  refine rV hf rfl he fun a hf => ?_
  have ge_b2 := ge_new hE eb5
  have hn : v0.ownBlock ≠ some b2 := fun e => by have := (hO.ge e).2; omega
  replace hO := hO.t0 hx4
  replace hE := hE.t0 hx4
  clear eb5 lb6
  refine rR 6 hf rfl fun a hf => rV hf rfl (ex_loadB hf rfl (by kernel_rfl) hB3 rfl) fun a hf => rV hf rfl (ex_len hf Try.underlying24 rfl) fun a hf => rR 7 hf rfl fun a hf => rV hf rfl (ex_loadB hf rfl (by kernel_rfl) hB3 rfl) fun a hf => rR 41 hf rfl fun a hf => rV hf rfl (ex_loadBN (m := 4) hf rfl (by kernel_rfl) hB3 rfl) fun a hf => rC hf rfl rfl (by kernel_rfl) (leadAtR (ls := [l0]) (j := 0) rfl (row_now hL hE hVB)) ?_
  rintro _ w8 ⟨rfl, hx7⟩
  refine ⟨_, rfl, fun a hf => ?_⟩
  replace hB3 := hB3.c0 hx7
  replace hO := hO.t0 hx7
  replace hE := hE.t0 hx7
  refine rV hf rfl (ex_bd (ps := [(0, (.tmp 139)), (1, (.const (.string ⟨#[73, 110, 116]⟩)))]) (z := [.string ⟨([] : List UInt8).toArray⟩, .string ⟨([] : List UInt8).toArray⟩]) (os := [0, 1]) hf rfl (by kernel_rfl) (by kernel_rfl) (by kernel_rfl) rfl rfl) fun a hf => ?_
  obtain ⟨w9, b10, he, hB11, hx12, eb13, lb14⟩ := ef_bslice (P := Try.prog) (ps := [(0, (.tmp 140))]) (m := 1) (sz := 2) (z := [.string ⟨([] : List UInt8).toArray⟩, .string ⟨([] : List UInt8).toArray⟩]) hf rfl Try.underlying54 (by kernel_rfl) (by kernel_rfl) rfl rfl (by kernel_rfl) rfl w8 54
  refine rV hf rfl he fun a hf => ?_
  have ne_b2_b10 : b2 ≠ b10 := ne_new hB3.lt eb13
  have ge_b10 := ge_new hE eb13
  replace hB3 := hB3.c0 hx12
  replace hO := hO.t0 hx12
  replace hE := hE.t0 hx12
  clear eb13 lb14
  obtain ⟨v16, w15, he, hO17, hx18, hfr19⟩ := eP (.tmp 137) (.tmp 141) [(l0, [73, 110, 116])] hf rfl rfl hO hB11 rfl (by (try simp only [List.length_cons, List.length_nil]); omega) (nlt hBs hE.size) 54
  refine rV hf rfl he fun a hf => ?_
  have hn2 := own_ne hfr19 hn hB3.lt
  have hg2 := own_from hfr19 hg hE.size
  replace hB3 := hB3.chg hx18 (nmO hn)
  replace hE := chg_own hE hx18 hg
  clear hO hn hg hfr19
  have hO := hO17; clear hO17
  have hn := hn2; clear hn2
  have hg := hg2; clear hg2
  obtain ⟨ps20, eps20⟩ : ∃ z, z = ps ++ [(l0, [73, 110, 116])] := ⟨_, rfl⟩
  rw [← eps20] at hO
  have lps20 : ps20.length = ps.length + 1 := by rw [eps20]; simp
  refine rR 6 hf rfl fun a hf => ?_
  have eq : ps ++ pcsT (.node 5 x [l0] ([] : List Tree)) = ps20 := by subst eps20; simp [pcsT, pcsTs, nodeC, singleT]
  exact rT (rs := [.tmp 4]) hf rfl ⟨_, _, rfl, rfl, rfl⟩ ⟨_, rfl, eq ▸ hO, hE, fresh_all hg (.inl (own_some hO))⟩
theorem p6 {N : Nat} {w : World} {Bs : Nat} {v0 : Value} {ps : List Pc} {x : List UInt8} {l0 : List UInt8} {cs : List Value} {A B : Option Addr} {m n : Nat} (hks : ∀ t, t ∈ ([] : List Tree) → tsize t ≤ N ∧ (shapedT t && leadedT t && decide (tbulk t ≤ 1000000000)) = true)
    (hl1 : ps.length + (pcsT (.node 6 x [l0] ([] : List Tree))).length ≤ 1000000000) (hO : Ow Bs w v0 ps) (hL : RowIn (fun b => b < Bs) w 1 A [l0].length ([l0].map strV)) (hn0 : ([] : List Tree).length ≤ n) (hn2 : n ≤ maxLen) (hK : KidsAre (fun b => b < Bs) w ([] : List Tree) cs) (hR : RowIn (fun b => b < Bs) w 4 B ([] : List Tree).length cs) (hBs : Bs ≤ w.heap.size) :
    Calls Try.prog 64 [v0, .agg #[.int .i64 6, strV x, .slice A [l0].length m, .slice B ([] : List Tree).length n]].toArray w fun e w' => ∃ v', e = .returned v' ∧ Ow Bs w' v' (ps ++ pcsT (.node 6 x [l0] ([] : List Tree))) ∧ Chg v0.ownBlock.toList w w' ∧ Fresh w v0 v' := by
  have hq : (pcsT (.node 6 x [l0] ([] : List Tree))).length = 1 := by simp [pcsT, pcsTs, nodeC, singleT] <;> omega
  have hE := Chg.refl v0.ownBlock.toList w
  have hVB : ∀ g, g ∈ v0.ownBlock.toList → Bs ≤ g := fun g h => (hO.ge (by simpa using h)).1
  have hg : ∀ g, v0.ownBlock = some g → g ∈ v0.ownBlock.toList ∨ w.heap.size ≤ g := fun g e => .inl (by simpa using e)
  refine rE 365 Try.func64 rfl rfl rfl ?_
  intro a hf
  refine rR 2 hf rfl fun a hf => ?_
  obtain ⟨w1, b2, he, hB3, hx4, eb5, lb6⟩ := ef_box (P := Try.prog) (t := 26) (x := (.tmp 1)) hf rfl rfl w 0
  refine rV hf rfl he fun a hf => ?_
  have ge_b2 := ge_new hE eb5
  have hn : v0.ownBlock ≠ some b2 := fun e => by have := (hO.ge e).2; omega
  replace hO := hO.t0 hx4
  replace hE := hE.t0 hx4
  clear eb5 lb6
  refine rR 6 hf rfl fun a hf => rV hf rfl (ex_loadB hf rfl (by kernel_rfl) hB3 rfl) fun a hf => rV hf rfl (ex_len hf Try.underlying24 rfl) fun a hf => rR 7 hf rfl fun a hf => rV hf rfl (ex_loadB hf rfl (by kernel_rfl) hB3 rfl) fun a hf => rR 48 hf rfl fun a hf => rV hf rfl (ex_loadBN (m := 4) hf rfl (by kernel_rfl) hB3 rfl) fun a hf => rC hf rfl rfl (by kernel_rfl) (leadAtR (ls := [l0]) (j := 0) rfl (row_now hL hE hVB)) ?_
  rintro _ w8 ⟨rfl, hx7⟩
  refine ⟨_, rfl, fun a hf => ?_⟩
  replace hB3 := hB3.c0 hx7
  replace hO := hO.t0 hx7
  replace hE := hE.t0 hx7
  refine rV hf rfl (ex_bd (ps := [(0, (.tmp 147)), (1, (.const (.string ⟨#[84, 101, 120, 116]⟩)))]) (z := [.string ⟨([] : List UInt8).toArray⟩, .string ⟨([] : List UInt8).toArray⟩]) (os := [0, 1]) hf rfl (by kernel_rfl) (by kernel_rfl) (by kernel_rfl) rfl rfl) fun a hf => ?_
  obtain ⟨w9, b10, he, hB11, hx12, eb13, lb14⟩ := ef_bslice (P := Try.prog) (ps := [(0, (.tmp 148))]) (m := 1) (sz := 2) (z := [.string ⟨([] : List UInt8).toArray⟩, .string ⟨([] : List UInt8).toArray⟩]) hf rfl Try.underlying54 (by kernel_rfl) (by kernel_rfl) rfl rfl (by kernel_rfl) rfl w8 54
  refine rV hf rfl he fun a hf => ?_
  have ne_b2_b10 : b2 ≠ b10 := ne_new hB3.lt eb13
  have ge_b10 := ge_new hE eb13
  replace hB3 := hB3.c0 hx12
  replace hO := hO.t0 hx12
  replace hE := hE.t0 hx12
  clear eb13 lb14
  obtain ⟨v16, w15, he, hO17, hx18, hfr19⟩ := eP (.tmp 145) (.tmp 149) [(l0, [84, 101, 120, 116])] hf rfl rfl hO hB11 rfl (by (try simp only [List.length_cons, List.length_nil]); omega) (nlt hBs hE.size) 54
  refine rV hf rfl he fun a hf => ?_
  have hn2 := own_ne hfr19 hn hB3.lt
  have hg2 := own_from hfr19 hg hE.size
  replace hB3 := hB3.chg hx18 (nmO hn)
  replace hE := chg_own hE hx18 hg
  clear hO hn hg hfr19
  have hO := hO17; clear hO17
  have hn := hn2; clear hn2
  have hg := hg2; clear hg2
  obtain ⟨ps20, eps20⟩ : ∃ z, z = ps ++ [(l0, [84, 101, 120, 116])] := ⟨_, rfl⟩
  rw [← eps20] at hO
  have lps20 : ps20.length = ps.length + 1 := by rw [eps20]; simp
  refine rR 6 hf rfl fun a hf => ?_
  have eq : ps ++ pcsT (.node 6 x [l0] ([] : List Tree)) = ps20 := by subst eps20; simp [pcsT, pcsTs, nodeC, singleT]
  exact rT (rs := [.tmp 4]) hf rfl ⟨_, _, rfl, rfl, rfl⟩ ⟨_, rfl, eq ▸ hO, hE, fresh_all hg (.inl (own_some hO))⟩
theorem p7 {N : Nat} {w : World} {Bs : Nat} {v0 : Value} {ps : List Pc} {x : List UInt8} {l0 : List UInt8} {cs : List Value} {A B : Option Addr} {m n : Nat} (hks : ∀ t, t ∈ ([] : List Tree) → tsize t ≤ N ∧ (shapedT t && leadedT t && decide (tbulk t ≤ 1000000000)) = true)
    (hl1 : ps.length + (pcsT (.node 7 x [l0] ([] : List Tree))).length ≤ 1000000000) (hO : Ow Bs w v0 ps) (hL : RowIn (fun b => b < Bs) w 1 A [l0].length ([l0].map strV)) (hn0 : ([] : List Tree).length ≤ n) (hn2 : n ≤ maxLen) (hK : KidsAre (fun b => b < Bs) w ([] : List Tree) cs) (hR : RowIn (fun b => b < Bs) w 4 B ([] : List Tree).length cs) (hBs : Bs ≤ w.heap.size) :
    Calls Try.prog 64 [v0, .agg #[.int .i64 7, strV x, .slice A [l0].length m, .slice B ([] : List Tree).length n]].toArray w fun e w' => ∃ v', e = .returned v' ∧ Ow Bs w' v' (ps ++ pcsT (.node 7 x [l0] ([] : List Tree))) ∧ Chg v0.ownBlock.toList w w' ∧ Fresh w v0 v' := by
  have hq : (pcsT (.node 7 x [l0] ([] : List Tree))).length = 1 := by simp [pcsT, pcsTs, nodeC, singleT] <;> omega
  have hE := Chg.refl v0.ownBlock.toList w
  have hVB : ∀ g, g ∈ v0.ownBlock.toList → Bs ≤ g := fun g h => (hO.ge (by simpa using h)).1
  have hg : ∀ g, v0.ownBlock = some g → g ∈ v0.ownBlock.toList ∨ w.heap.size ≤ g := fun g e => .inl (by simpa using e)
  refine rE 365 Try.func64 rfl rfl rfl ?_
  intro a hf
  refine rR 2 hf rfl fun a hf => ?_
  obtain ⟨w1, b2, he, hB3, hx4, eb5, lb6⟩ := ef_box (P := Try.prog) (t := 26) (x := (.tmp 1)) hf rfl rfl w 0
  refine rV hf rfl he fun a hf => ?_
  have ge_b2 := ge_new hE eb5
  have hn : v0.ownBlock ≠ some b2 := fun e => by have := (hO.ge e).2; omega
  replace hO := hO.t0 hx4
  replace hE := hE.t0 hx4
  clear eb5 lb6
  refine rR 6 hf rfl fun a hf => rV hf rfl (ex_loadB hf rfl (by kernel_rfl) hB3 rfl) fun a hf => rV hf rfl (ex_len hf Try.underlying24 rfl) fun a hf => rR 7 hf rfl fun a hf => rV hf rfl (ex_loadB hf rfl (by kernel_rfl) hB3 rfl) fun a hf => rR 55 hf rfl fun a hf => rV hf rfl (ex_loadBN (m := 4) hf rfl (by kernel_rfl) hB3 rfl) fun a hf => rC hf rfl rfl (by kernel_rfl) (leadAtR (ls := [l0]) (j := 0) rfl (row_now hL hE hVB)) ?_
  rintro _ w8 ⟨rfl, hx7⟩
  refine ⟨_, rfl, fun a hf => ?_⟩
  replace hB3 := hB3.c0 hx7
  replace hO := hO.t0 hx7
  replace hE := hE.t0 hx7
  refine rV hf rfl (ex_bd (ps := [(0, (.tmp 155)), (1, (.const (.string ⟨#[66, 111, 111, 108]⟩)))]) (z := [.string ⟨([] : List UInt8).toArray⟩, .string ⟨([] : List UInt8).toArray⟩]) (os := [0, 1]) hf rfl (by kernel_rfl) (by kernel_rfl) (by kernel_rfl) rfl rfl) fun a hf => ?_
  obtain ⟨w9, b10, he, hB11, hx12, eb13, lb14⟩ := ef_bslice (P := Try.prog) (ps := [(0, (.tmp 156))]) (m := 1) (sz := 2) (z := [.string ⟨([] : List UInt8).toArray⟩, .string ⟨([] : List UInt8).toArray⟩]) hf rfl Try.underlying54 (by kernel_rfl) (by kernel_rfl) rfl rfl (by kernel_rfl) rfl w8 54
  refine rV hf rfl he fun a hf => ?_
  have ne_b2_b10 : b2 ≠ b10 := ne_new hB3.lt eb13
  have ge_b10 := ge_new hE eb13
  replace hB3 := hB3.c0 hx12
  replace hO := hO.t0 hx12
  replace hE := hE.t0 hx12
  clear eb13 lb14
  obtain ⟨v16, w15, he, hO17, hx18, hfr19⟩ := eP (.tmp 153) (.tmp 157) [(l0, [66, 111, 111, 108])] hf rfl rfl hO hB11 rfl (by (try simp only [List.length_cons, List.length_nil]); omega) (nlt hBs hE.size) 54
  refine rV hf rfl he fun a hf => ?_
  have hn2 := own_ne hfr19 hn hB3.lt
  have hg2 := own_from hfr19 hg hE.size
  replace hB3 := hB3.chg hx18 (nmO hn)
  replace hE := chg_own hE hx18 hg
  clear hO hn hg hfr19
  have hO := hO17; clear hO17
  have hn := hn2; clear hn2
  have hg := hg2; clear hg2
  obtain ⟨ps20, eps20⟩ : ∃ z, z = ps ++ [(l0, [66, 111, 111, 108])] := ⟨_, rfl⟩
  rw [← eps20] at hO
  have lps20 : ps20.length = ps.length + 1 := by rw [eps20]; simp
  refine rR 6 hf rfl fun a hf => ?_
  have eq : ps ++ pcsT (.node 7 x [l0] ([] : List Tree)) = ps20 := by subst eps20; simp [pcsT, pcsTs, nodeC, singleT]
  exact rT (rs := [.tmp 4]) hf rfl ⟨_, _, rfl, rfl, rfl⟩ ⟨_, rfl, eq ▸ hO, hE, fresh_all hg (.inl (own_some hO))⟩
theorem p13 {N : Nat} {w : World} {Bs : Nat} {v0 : Value} {ps : List Pc} {x : List UInt8} {l0 : List UInt8} {cs : List Value} {A B : Option Addr} {m n : Nat} (hks : ∀ t, t ∈ ([] : List Tree) → tsize t ≤ N ∧ (shapedT t && leadedT t && decide (tbulk t ≤ 1000000000)) = true)
    (hl1 : ps.length + (pcsT (.node 13 x [l0] ([] : List Tree))).length ≤ 1000000000) (hO : Ow Bs w v0 ps) (hL : RowIn (fun b => b < Bs) w 1 A [l0].length ([l0].map strV)) (hn0 : ([] : List Tree).length ≤ n) (hn2 : n ≤ maxLen) (hK : KidsAre (fun b => b < Bs) w ([] : List Tree) cs) (hR : RowIn (fun b => b < Bs) w 4 B ([] : List Tree).length cs) (hBs : Bs ≤ w.heap.size) :
    Calls Try.prog 64 [v0, .agg #[.int .i64 13, strV x, .slice A [l0].length m, .slice B ([] : List Tree).length n]].toArray w fun e w' => ∃ v', e = .returned v' ∧ Ow Bs w' v' (ps ++ pcsT (.node 13 x [l0] ([] : List Tree))) ∧ Chg v0.ownBlock.toList w w' ∧ Fresh w v0 v' := by
  have hq : (pcsT (.node 13 x [l0] ([] : List Tree))).length = 1 := by simp [pcsT, pcsTs, nodeC, singleT] <;> omega
  have hE := Chg.refl v0.ownBlock.toList w
  have hVB : ∀ g, g ∈ v0.ownBlock.toList → Bs ≤ g := fun g h => (hO.ge (by simpa using h)).1
  have hg : ∀ g, v0.ownBlock = some g → g ∈ v0.ownBlock.toList ∨ w.heap.size ≤ g := fun g e => .inl (by simpa using e)
  refine rE 365 Try.func64 rfl rfl rfl ?_
  intro a hf
  refine rR 2 hf rfl fun a hf => ?_
  obtain ⟨w1, b2, he, hB3, hx4, eb5, lb6⟩ := ef_box (P := Try.prog) (t := 26) (x := (.tmp 1)) hf rfl rfl w 0
  refine rV hf rfl he fun a hf => ?_
  have ge_b2 := ge_new hE eb5
  have hn : v0.ownBlock ≠ some b2 := fun e => by have := (hO.ge e).2; omega
  replace hO := hO.t0 hx4
  replace hE := hE.t0 hx4
  clear eb5 lb6
  refine rR 6 hf rfl fun a hf => rV hf rfl (ex_loadB hf rfl (by kernel_rfl) hB3 rfl) fun a hf => rV hf rfl (ex_len hf Try.underlying24 rfl) fun a hf => rR 7 hf rfl fun a hf => rV hf rfl (ex_loadB hf rfl (by kernel_rfl) hB3 rfl) fun a hf => rR 62 hf rfl fun a hf => rV hf rfl (ex_loadBN (m := 4) hf rfl (by kernel_rfl) hB3 rfl) fun a hf => rC hf rfl rfl (by kernel_rfl) (leadAtR (ls := [l0]) (j := 0) rfl (row_now hL hE hVB)) ?_
  rintro _ w8 ⟨rfl, hx7⟩
  refine ⟨_, rfl, fun a hf => ?_⟩
  replace hB3 := hB3.c0 hx7
  replace hO := hO.t0 hx7
  replace hE := hE.t0 hx7
  refine rV hf rfl (ex_bd (ps := [(0, (.tmp 163)), (1, (.const (.string ⟨#[116, 114, 117, 101]⟩)))]) (z := [.string ⟨([] : List UInt8).toArray⟩, .string ⟨([] : List UInt8).toArray⟩]) (os := [0, 1]) hf rfl (by kernel_rfl) (by kernel_rfl) (by kernel_rfl) rfl rfl) fun a hf => ?_
  obtain ⟨w9, b10, he, hB11, hx12, eb13, lb14⟩ := ef_bslice (P := Try.prog) (ps := [(0, (.tmp 164))]) (m := 1) (sz := 2) (z := [.string ⟨([] : List UInt8).toArray⟩, .string ⟨([] : List UInt8).toArray⟩]) hf rfl Try.underlying54 (by kernel_rfl) (by kernel_rfl) rfl rfl (by kernel_rfl) rfl w8 54
  refine rV hf rfl he fun a hf => ?_
  have ne_b2_b10 : b2 ≠ b10 := ne_new hB3.lt eb13
  have ge_b10 := ge_new hE eb13
  replace hB3 := hB3.c0 hx12
  replace hO := hO.t0 hx12
  replace hE := hE.t0 hx12
  clear eb13 lb14
  obtain ⟨v16, w15, he, hO17, hx18, hfr19⟩ := eP (.tmp 161) (.tmp 165) [(l0, [116, 114, 117, 101])] hf rfl rfl hO hB11 rfl (by (try simp only [List.length_cons, List.length_nil]); omega) (nlt hBs hE.size) 54
  refine rV hf rfl he fun a hf => ?_
  have hn2 := own_ne hfr19 hn hB3.lt
  have hg2 := own_from hfr19 hg hE.size
  replace hB3 := hB3.chg hx18 (nmO hn)
  replace hE := chg_own hE hx18 hg
  clear hO hn hg hfr19
  have hO := hO17; clear hO17
  have hn := hn2; clear hn2
  have hg := hg2; clear hg2
  obtain ⟨ps20, eps20⟩ : ∃ z, z = ps ++ [(l0, [116, 114, 117, 101])] := ⟨_, rfl⟩
  rw [← eps20] at hO
  have lps20 : ps20.length = ps.length + 1 := by rw [eps20]; simp
  refine rR 6 hf rfl fun a hf => ?_
  have eq : ps ++ pcsT (.node 13 x [l0] ([] : List Tree)) = ps20 := by subst eps20; simp [pcsT, pcsTs, nodeC, singleT]
  exact rT (rs := [.tmp 4]) hf rfl ⟨_, _, rfl, rfl, rfl⟩ ⟨_, rfl, eq ▸ hO, hE, fresh_all hg (.inl (own_some hO))⟩
theorem p14 {N : Nat} {w : World} {Bs : Nat} {v0 : Value} {ps : List Pc} {x : List UInt8} {l0 : List UInt8} {cs : List Value} {A B : Option Addr} {m n : Nat} (hks : ∀ t, t ∈ ([] : List Tree) → tsize t ≤ N ∧ (shapedT t && leadedT t && decide (tbulk t ≤ 1000000000)) = true)
    (hl1 : ps.length + (pcsT (.node 14 x [l0] ([] : List Tree))).length ≤ 1000000000) (hO : Ow Bs w v0 ps) (hL : RowIn (fun b => b < Bs) w 1 A [l0].length ([l0].map strV)) (hn0 : ([] : List Tree).length ≤ n) (hn2 : n ≤ maxLen) (hK : KidsAre (fun b => b < Bs) w ([] : List Tree) cs) (hR : RowIn (fun b => b < Bs) w 4 B ([] : List Tree).length cs) (hBs : Bs ≤ w.heap.size) :
    Calls Try.prog 64 [v0, .agg #[.int .i64 14, strV x, .slice A [l0].length m, .slice B ([] : List Tree).length n]].toArray w fun e w' => ∃ v', e = .returned v' ∧ Ow Bs w' v' (ps ++ pcsT (.node 14 x [l0] ([] : List Tree))) ∧ Chg v0.ownBlock.toList w w' ∧ Fresh w v0 v' := by
  have hq : (pcsT (.node 14 x [l0] ([] : List Tree))).length = 1 := by simp [pcsT, pcsTs, nodeC, singleT] <;> omega
  have hE := Chg.refl v0.ownBlock.toList w
  have hVB : ∀ g, g ∈ v0.ownBlock.toList → Bs ≤ g := fun g h => (hO.ge (by simpa using h)).1
  have hg : ∀ g, v0.ownBlock = some g → g ∈ v0.ownBlock.toList ∨ w.heap.size ≤ g := fun g e => .inl (by simpa using e)
  refine rE 365 Try.func64 rfl rfl rfl ?_
  intro a hf
  refine rR 2 hf rfl fun a hf => ?_
  obtain ⟨w1, b2, he, hB3, hx4, eb5, lb6⟩ := ef_box (P := Try.prog) (t := 26) (x := (.tmp 1)) hf rfl rfl w 0
  refine rV hf rfl he fun a hf => ?_
  have ge_b2 := ge_new hE eb5
  have hn : v0.ownBlock ≠ some b2 := fun e => by have := (hO.ge e).2; omega
  replace hO := hO.t0 hx4
  replace hE := hE.t0 hx4
  clear eb5 lb6
  refine rR 6 hf rfl fun a hf => rV hf rfl (ex_loadB hf rfl (by kernel_rfl) hB3 rfl) fun a hf => rV hf rfl (ex_len hf Try.underlying24 rfl) fun a hf => rR 7 hf rfl fun a hf => rV hf rfl (ex_loadB hf rfl (by kernel_rfl) hB3 rfl) fun a hf => rR 69 hf rfl fun a hf => rV hf rfl (ex_loadBN (m := 4) hf rfl (by kernel_rfl) hB3 rfl) fun a hf => rC hf rfl rfl (by kernel_rfl) (leadAtR (ls := [l0]) (j := 0) rfl (row_now hL hE hVB)) ?_
  rintro _ w8 ⟨rfl, hx7⟩
  refine ⟨_, rfl, fun a hf => ?_⟩
  replace hB3 := hB3.c0 hx7
  replace hO := hO.t0 hx7
  replace hE := hE.t0 hx7
  refine rV hf rfl (ex_bd (ps := [(0, (.tmp 171)), (1, (.const (.string ⟨#[102, 97, 108, 115, 101]⟩)))]) (z := [.string ⟨([] : List UInt8).toArray⟩, .string ⟨([] : List UInt8).toArray⟩]) (os := [0, 1]) hf rfl (by kernel_rfl) (by kernel_rfl) (by kernel_rfl) rfl rfl) fun a hf => ?_
  obtain ⟨w9, b10, he, hB11, hx12, eb13, lb14⟩ := ef_bslice (P := Try.prog) (ps := [(0, (.tmp 172))]) (m := 1) (sz := 2) (z := [.string ⟨([] : List UInt8).toArray⟩, .string ⟨([] : List UInt8).toArray⟩]) hf rfl Try.underlying54 (by kernel_rfl) (by kernel_rfl) rfl rfl (by kernel_rfl) rfl w8 54
  refine rV hf rfl he fun a hf => ?_
  have ne_b2_b10 : b2 ≠ b10 := ne_new hB3.lt eb13
  have ge_b10 := ge_new hE eb13
  replace hB3 := hB3.c0 hx12
  replace hO := hO.t0 hx12
  replace hE := hE.t0 hx12
  clear eb13 lb14
  obtain ⟨v16, w15, he, hO17, hx18, hfr19⟩ := eP (.tmp 169) (.tmp 173) [(l0, [102, 97, 108, 115, 101])] hf rfl rfl hO hB11 rfl (by (try simp only [List.length_cons, List.length_nil]); omega) (nlt hBs hE.size) 54
  refine rV hf rfl he fun a hf => ?_
  have hn2 := own_ne hfr19 hn hB3.lt
  have hg2 := own_from hfr19 hg hE.size
  replace hB3 := hB3.chg hx18 (nmO hn)
  replace hE := chg_own hE hx18 hg
  clear hO hn hg hfr19
  have hO := hO17; clear hO17
  have hn := hn2; clear hn2
  have hg := hg2; clear hg2
  obtain ⟨ps20, eps20⟩ : ∃ z, z = ps ++ [(l0, [102, 97, 108, 115, 101])] := ⟨_, rfl⟩
  rw [← eps20] at hO
  have lps20 : ps20.length = ps.length + 1 := by rw [eps20]; simp
  refine rR 6 hf rfl fun a hf => ?_
  have eq : ps ++ pcsT (.node 14 x [l0] ([] : List Tree)) = ps20 := by subst eps20; simp [pcsT, pcsTs, nodeC, singleT]
  exact rT (rs := [.tmp 4]) hf rfl ⟨_, _, rfl, rfl, rfl⟩ ⟨_, rfl, eq ▸ hO, hE, fresh_all hg (.inl (own_some hO))⟩
theorem p15 {N : Nat} {w : World} {Bs : Nat} {v0 : Value} {ps : List Pc} {x : List UInt8} {l0 : List UInt8} {cs : List Value} {A B : Option Addr} {m n : Nat} (hks : ∀ t, t ∈ ([] : List Tree) → tsize t ≤ N ∧ (shapedT t && leadedT t && decide (tbulk t ≤ 1000000000)) = true)
    (hl1 : ps.length + (pcsT (.node 15 x [l0] ([] : List Tree))).length ≤ 1000000000) (hO : Ow Bs w v0 ps) (hL : RowIn (fun b => b < Bs) w 1 A [l0].length ([l0].map strV)) (hn0 : ([] : List Tree).length ≤ n) (hn2 : n ≤ maxLen) (hK : KidsAre (fun b => b < Bs) w ([] : List Tree) cs) (hR : RowIn (fun b => b < Bs) w 4 B ([] : List Tree).length cs) (hBs : Bs ≤ w.heap.size) :
    Calls Try.prog 64 [v0, .agg #[.int .i64 15, strV x, .slice A [l0].length m, .slice B ([] : List Tree).length n]].toArray w fun e w' => ∃ v', e = .returned v' ∧ Ow Bs w' v' (ps ++ pcsT (.node 15 x [l0] ([] : List Tree))) ∧ Chg v0.ownBlock.toList w w' ∧ Fresh w v0 v' := by
  have hq : (pcsT (.node 15 x [l0] ([] : List Tree))).length = 1 := by simp [pcsT, pcsTs, nodeC, singleT] <;> omega
  have hE := Chg.refl v0.ownBlock.toList w
  have hVB : ∀ g, g ∈ v0.ownBlock.toList → Bs ≤ g := fun g h => (hO.ge (by simpa using h)).1
  have hg : ∀ g, v0.ownBlock = some g → g ∈ v0.ownBlock.toList ∨ w.heap.size ≤ g := fun g e => .inl (by simpa using e)
  refine rE 365 Try.func64 rfl rfl rfl ?_
  intro a hf
  refine rR 2 hf rfl fun a hf => ?_
  obtain ⟨w1, b2, he, hB3, hx4, eb5, lb6⟩ := ef_box (P := Try.prog) (t := 26) (x := (.tmp 1)) hf rfl rfl w 0
  refine rV hf rfl he fun a hf => ?_
  have ge_b2 := ge_new hE eb5
  have hn : v0.ownBlock ≠ some b2 := fun e => by have := (hO.ge e).2; omega
  replace hO := hO.t0 hx4
  replace hE := hE.t0 hx4
  clear eb5 lb6
  refine rR 6 hf rfl fun a hf => rV hf rfl (ex_loadB hf rfl (by kernel_rfl) hB3 rfl) fun a hf => rV hf rfl (ex_len hf Try.underlying24 rfl) fun a hf => rR 7 hf rfl fun a hf => rV hf rfl (ex_loadB hf rfl (by kernel_rfl) hB3 rfl) fun a hf => rR 76 hf rfl fun a hf => rV hf rfl (ex_loadBN (m := 4) hf rfl (by kernel_rfl) hB3 rfl) fun a hf => rC hf rfl rfl (by kernel_rfl) (leadAtR (ls := [l0]) (j := 0) rfl (row_now hL hE hVB)) ?_
  rintro _ w8 ⟨rfl, hx7⟩
  refine ⟨_, rfl, fun a hf => ?_⟩
  replace hB3 := hB3.c0 hx7
  replace hO := hO.t0 hx7
  replace hE := hE.t0 hx7
  refine rV hf rfl (ex_bd (ps := [(0, (.tmp 179)), (1, (.const (.string ⟨#[63]⟩)))]) (z := [.string ⟨([] : List UInt8).toArray⟩, .string ⟨([] : List UInt8).toArray⟩]) (os := [0, 1]) hf rfl (by kernel_rfl) (by kernel_rfl) (by kernel_rfl) rfl rfl) fun a hf => ?_
  obtain ⟨w9, b10, he, hB11, hx12, eb13, lb14⟩ := ef_bslice (P := Try.prog) (ps := [(0, (.tmp 180))]) (m := 1) (sz := 2) (z := [.string ⟨([] : List UInt8).toArray⟩, .string ⟨([] : List UInt8).toArray⟩]) hf rfl Try.underlying54 (by kernel_rfl) (by kernel_rfl) rfl rfl (by kernel_rfl) rfl w8 54
  refine rV hf rfl he fun a hf => ?_
  have ne_b2_b10 : b2 ≠ b10 := ne_new hB3.lt eb13
  have ge_b10 := ge_new hE eb13
  replace hB3 := hB3.c0 hx12
  replace hO := hO.t0 hx12
  replace hE := hE.t0 hx12
  clear eb13 lb14
  obtain ⟨v16, w15, he, hO17, hx18, hfr19⟩ := eP (.tmp 177) (.tmp 181) [(l0, [63])] hf rfl rfl hO hB11 rfl (by (try simp only [List.length_cons, List.length_nil]); omega) (nlt hBs hE.size) 54
  refine rV hf rfl he fun a hf => ?_
  have hn2 := own_ne hfr19 hn hB3.lt
  have hg2 := own_from hfr19 hg hE.size
  replace hB3 := hB3.chg hx18 (nmO hn)
  replace hE := chg_own hE hx18 hg
  clear hO hn hg hfr19
  have hO := hO17; clear hO17
  have hn := hn2; clear hn2
  have hg := hg2; clear hg2
  obtain ⟨ps20, eps20⟩ : ∃ z, z = ps ++ [(l0, [63])] := ⟨_, rfl⟩
  rw [← eps20] at hO
  have lps20 : ps20.length = ps.length + 1 := by rw [eps20]; simp
  refine rR 6 hf rfl fun a hf => ?_
  have eq : ps ++ pcsT (.node 15 x [l0] ([] : List Tree)) = ps20 := by subst eps20; simp [pcsT, pcsTs, nodeC, singleT]
  exact rT (rs := [.tmp 4]) hf rfl ⟨_, _, rfl, rfl, rfl⟩ ⟨_, rfl, eq ▸ hO, hE, fresh_all hg (.inl (own_some hO))⟩
theorem p8 {N : Nat} (ih : PiecesOk N) {w : World} {Bs : Nat} {v0 : Value} {ps : List Pc} {x : List UInt8} {l0 l1 : List UInt8} {k0 : Tree} {cs : List Value} {A B : Option Addr} {m n : Nat} (hks : ∀ t, t ∈ [k0] → tsize t ≤ N ∧ (shapedT t && leadedT t && decide (tbulk t ≤ 1000000000)) = true)
    (hl1 : ps.length + (pcsT (.node 8 x [l0, l1] [k0])).length ≤ 1000000000) (hO : Ow Bs w v0 ps) (hL : RowIn (fun b => b < Bs) w 1 A [l0, l1].length ([l0, l1].map strV)) (hn0 : [k0].length ≤ n) (hn2 : n ≤ maxLen) (hK : KidsAre (fun b => b < Bs) w [k0] cs) (hR : RowIn (fun b => b < Bs) w 4 B [k0].length cs) (hBs : Bs ≤ w.heap.size) :
    Calls Try.prog 64 [v0, .agg #[.int .i64 8, strV x, .slice A [l0, l1].length m, .slice B [k0].length n]].toArray w fun e w' => ∃ v', e = .returned v' ∧ Ow Bs w' v' (ps ++ pcsT (.node 8 x [l0, l1] [k0])) ∧ Chg v0.ownBlock.toList w w' ∧ Fresh w v0 v' := by
  have hq : (pcsT (.node 8 x [l0, l1] [k0])).length = 2 + (pcsT k0).length := by simp [pcsT, pcsTs, nodeC, singleT] <;> omega
  have hE := Chg.refl v0.ownBlock.toList w
  have hVB : ∀ g, g ∈ v0.ownBlock.toList → Bs ≤ g := fun g h => (hO.ge (by simpa using h)).1
  have hg : ∀ g, v0.ownBlock = some g → g ∈ v0.ownBlock.toList ∨ w.heap.size ≤ g := fun g e => .inl (by simpa using e)
  obtain ⟨kb, ko, rfl, lbB, hkb, _⟩ := hR.2 (by simp)
  obtain ⟨d00, d01, d02, d03, hT0, hc0⟩ := kid_at hK hR rfl (i := 0) (t := k0) rfl
  have on0 := hT0.one
  refine rE 365 Try.func64 rfl rfl rfl ?_
  intro a hf
  refine rR 2 hf rfl fun a hf => ?_
  obtain ⟨w1, b2, he, hB3, hx4, eb5, lb6⟩ := ef_box (P := Try.prog) (t := 26) (x := (.tmp 1)) hf rfl rfl w 0
  refine rV hf rfl he fun a hf => ?_
  have ge_b2 := ge_new hE eb5
  have hn : v0.ownBlock ≠ some b2 := fun e => by have := (hO.ge e).2; omega
  replace hO := hO.t0 hx4
  replace hE := hE.t0 hx4
  clear eb5 lb6
  refine rR 6 hf rfl fun a hf => rV hf rfl (ex_loadB hf rfl (by kernel_rfl) hB3 rfl) fun a hf => rV hf rfl (ex_len hf Try.underlying24 rfl) fun a hf => rR 7 hf rfl fun a hf => rV hf rfl (ex_loadB hf rfl (by kernel_rfl) hB3 rfl) fun a hf => rR 83 hf rfl fun a hf => rV hf rfl (ex_loadBN (m := 4) hf rfl (by kernel_rfl) hB3 rfl) fun a hf => rC hf rfl rfl (by kernel_rfl) (leadAtR (ls := [l0, l1]) (j := 0) rfl (row_now hL hE hVB)) ?_
  rintro _ w8 ⟨rfl, hx7⟩
  refine ⟨_, rfl, fun a hf => ?_⟩
  replace hB3 := hB3.c0 hx7
  replace hO := hO.t0 hx7
  replace hE := hE.t0 hx7
  refine rV hf rfl (ex_bd (ps := [(0, (.tmp 187)), (1, (.const (.string ⟨#[91]⟩)))]) (z := [.string ⟨([] : List UInt8).toArray⟩, .string ⟨([] : List UInt8).toArray⟩]) (os := [0, 1]) hf rfl (by kernel_rfl) (by kernel_rfl) (by kernel_rfl) rfl rfl) fun a hf => ?_
  obtain ⟨w9, b10, he, hB11, hx12, eb13, lb14⟩ := ef_bslice (P := Try.prog) (ps := [(0, (.tmp 188))]) (m := 1) (sz := 2) (z := [.string ⟨([] : List UInt8).toArray⟩, .string ⟨([] : List UInt8).toArray⟩]) hf rfl Try.underlying54 (by kernel_rfl) (by kernel_rfl) rfl rfl (by kernel_rfl) rfl w8 54
  refine rV hf rfl he fun a hf => ?_
  have ne_b2_b10 : b2 ≠ b10 := ne_new hB3.lt eb13
  have ge_b10 := ge_new hE eb13
  replace hB3 := hB3.c0 hx12
  replace hO := hO.t0 hx12
  replace hE := hE.t0 hx12
  clear eb13 lb14
  obtain ⟨v16, w15, he, hO17, hx18, hfr19⟩ := eP (.tmp 185) (.tmp 189) [(l0, [91])] hf rfl rfl hO hB11 rfl (by (try simp only [List.length_cons, List.length_nil]); omega) (nlt hBs hE.size) 54
  refine rV hf rfl he fun a hf => ?_
  have hn2 := own_ne hfr19 hn hB3.lt
  have hg2 := own_from hfr19 hg hE.size
  replace hB3 := hB3.chg hx18 (nmO hn)
  replace hE := chg_own hE hx18 hg
  clear hO hn hg hfr19
  have hO := hO17; clear hO17
  have hn := hn2; clear hn2
  have hg := hg2; clear hg2
  obtain ⟨ps20, eps20⟩ : ∃ z, z = ps ++ [(l0, [91])] := ⟨_, rfl⟩
  rw [← eps20] at hO
  have lps20 : ps20.length = ps.length + 1 := by rw [eps20]; simp
  refine rR 4 hf rfl fun a hf => ?_
  have s_k00 := (low_now (o := ko) hE hVB hkb lbB).trans (hc0 0 (by decide))
  have s_k01 := (low_now (o := ko + 1) hE hVB hkb lbB).trans (hc0 1 (by decide))
  have s_k02 := (low_now (o := ko + 2) hE hVB hkb lbB).trans (hc0 2 (by decide))
  have s_k03 := (low_now (o := ko + 3) hE hVB hkb lbB).trans (hc0 3 (by decide))
  have hEs := hE
  have s_hB3 := hB3
  refine rD (fun x => x.cell? ⟨b2, 3, none⟩ = w15.cell? ⟨b2, 3, none⟩ ∧ x.cell? ⟨kb, ko, none⟩ = w15.cell? ⟨kb, ko, none⟩ ∧ x.cell? ⟨kb, ko + 1, none⟩ = w15.cell? ⟨kb, ko + 1, none⟩ ∧ x.cell? ⟨kb, ko + 2, none⟩ = w15.cell? ⟨kb, ko + 2, none⟩ ∧ x.cell? ⟨kb, ko + 3, none⟩ = w15.cell? ⟨kb, ko + 3, none⟩ ∧ x.cell? ⟨b2, 0, none⟩ = w15.cell? ⟨b2, 0, none⟩ ∧ x.cell? ⟨b2, 1, none⟩ = w15.cell? ⟨b2, 1, none⟩ ∧ x.cell? ⟨b2, 2, none⟩ = w15.cell? ⟨b2, 2, none⟩) 12 12 rfl (by kernel_rfl) (by kernel_rfl) ?_
  intro w21 hx22 hsel
  replace hB3 := hB3.c0 hx22
  replace hO := hO.t0 hx22
  replace hE := hE.t0 hx22
  have hS0 : w21.cell? ⟨b2, 3, none⟩ = w15.cell? ⟨b2, 3, none⟩ ∧ w21.cell? ⟨kb, ko, none⟩ = w15.cell? ⟨kb, ko, none⟩ ∧ w21.cell? ⟨kb, ko + 1, none⟩ = w15.cell? ⟨kb, ko + 1, none⟩ ∧ w21.cell? ⟨kb, ko + 2, none⟩ = w15.cell? ⟨kb, ko + 2, none⟩ ∧ w21.cell? ⟨kb, ko + 3, none⟩ = w15.cell? ⟨kb, ko + 3, none⟩ ∧ w21.cell? ⟨b2, 0, none⟩ = w15.cell? ⟨b2, 0, none⟩ ∧ w21.cell? ⟨b2, 1, none⟩ = w15.cell? ⟨b2, 1, none⟩ ∧ w21.cell? ⟨b2, 2, none⟩ = w15.cell? ⟨b2, 2, none⟩ := ⟨(hB3.cell 3).trans (s_hB3.cell 3).symm, ((low_now hE hVB hkb lbB).trans (low_now hEs hVB hkb lbB).symm), ((low_now hE hVB hkb lbB).trans (low_now hEs hVB hkb lbB).symm), ((low_now hE hVB hkb lbB).trans (low_now hEs hVB hkb lbB).symm), ((low_now hE hVB hkb lbB).trans (low_now hEs hVB hkb lbB).symm), (hB3.cell 0).trans (s_hB3.cell 0).symm, (hB3.cell 1).trans (s_hB3.cell 1).symm, (hB3.cell 2).trans (s_hB3.cell 2).symm⟩
  refine dR [0, 1] hsel (by kernel_rfl) hf rfl rfl (.inl hS0) fun a hf => dL 2 rfl rfl hsel (by kernel_rfl) hf rfl hS0 (fun x hS => ex_load hf rfl (by kernel_rfl) (hS.1.trans ((s_hB3.cell 3).trans rfl))) fun a hf => dV 3 rfl rfl hsel (by kernel_rfl) hf rfl (.inl hS0) (fun x => ex_index (sz := 4) (k := 0) (r := ko) hf Try.underlying24 (by kernel_rfl) rfl rfl rfl (by simp) rfl) fun a hf => dL 4 rfl rfl hsel (by kernel_rfl) hf rfl hS0 (fun x hS => ex_loadN (cs := [d00, d01, d02, d03]) (m := 4) hf rfl (by kernel_rfl) rfl (four (hS.2.1.trans s_k00) (hS.2.2.1.trans s_k01) (hS.2.2.2.1.trans s_k02) (hS.2.2.2.2.1.trans s_k03))) fun a hf => dL 6 rfl rfl hsel (by kernel_rfl) hf rfl hS0 (fun x hS => ex_loadX4 hf rfl (by kernel_rfl) s_hB3 rfl hS.2.2.2.2.2.1 hS.2.2.2.2.2.2.1 hS.2.2.2.2.2.2.2 hS.1) fun a hf => dl_c 5 (by kernel_rfl) rfl hf rfl rfl rfl (by kernel_rfl) (ih k0 _ Bs _ ps20 _ _ _ _ (hks _ (by simp)).1 (hks _ (by simp)).2 (by omega) hO (tree_now hT0 hE hVB) (nlt hBs hE.size)) ?_
  rintro _ w27 ⟨v24, rfl, hO25, hx23, hfr26⟩
  refine ⟨_, rfl, fun a hf => ?_⟩
  have hn2 := own_ne hfr26 hn hB3.lt
  have hg2 := own_from hfr26 hg hE.size
  replace hB3 := hB3.chg hx23 (nmO hn)
  replace hE := chg_own hE hx23 hg
  clear hO hn hg hfr26
  have hO := hO25; clear hO25
  have hn := hn2; clear hn2
  have hg := hg2; clear hg2
  obtain ⟨ps28, eps28⟩ : ∃ z, z = ps20 ++ pcsT k0 := ⟨_, rfl⟩
  rw [← eps28] at hO
  have lps28 : ps28.length = ps20.length + (pcsT k0).length := by rw [eps28, List.length_append]
  clear hS0
  have hS0 : w27.cell? ⟨b2, 3, none⟩ = w15.cell? ⟨b2, 3, none⟩ ∧ w27.cell? ⟨kb, ko, none⟩ = w15.cell? ⟨kb, ko, none⟩ ∧ w27.cell? ⟨kb, ko + 1, none⟩ = w15.cell? ⟨kb, ko + 1, none⟩ ∧ w27.cell? ⟨kb, ko + 2, none⟩ = w15.cell? ⟨kb, ko + 2, none⟩ ∧ w27.cell? ⟨kb, ko + 3, none⟩ = w15.cell? ⟨kb, ko + 3, none⟩ ∧ w27.cell? ⟨b2, 0, none⟩ = w15.cell? ⟨b2, 0, none⟩ ∧ w27.cell? ⟨b2, 1, none⟩ = w15.cell? ⟨b2, 1, none⟩ ∧ w27.cell? ⟨b2, 2, none⟩ = w15.cell? ⟨b2, 2, none⟩ := ⟨(hB3.cell 3).trans (s_hB3.cell 3).symm, ((low_now hE hVB hkb lbB).trans (low_now hEs hVB hkb lbB).symm), ((low_now hE hVB hkb lbB).trans (low_now hEs hVB hkb lbB).symm), ((low_now hE hVB hkb lbB).trans (low_now hEs hVB hkb lbB).symm), ((low_now hE hVB hkb lbB).trans (low_now hEs hVB hkb lbB).symm), (hB3.cell 0).trans (s_hB3.cell 0).symm, (hB3.cell 1).trans (s_hB3.cell 1).symm, (hB3.cell 2).trans (s_hB3.cell 2).symm⟩
  refine ⟨.inl hS0, ?_⟩
  refine dl_c 7 (by kernel_rfl) rfl hf rfl rfl rfl (by kernel_rfl) (leadAtR (ls := [l0, l1]) (j := 1) rfl (row_now hL hE hVB)) ?_
  rintro _ w30 ⟨rfl, hx29⟩
  refine ⟨_, rfl, fun a hf => ?_⟩
  replace hB3 := hB3.c0 hx29
  replace hO := hO.t0 hx29
  replace hE := hE.t0 hx29
  clear hS0
  have hS0 : w30.cell? ⟨b2, 3, none⟩ = w15.cell? ⟨b2, 3, none⟩ ∧ w30.cell? ⟨kb, ko, none⟩ = w15.cell? ⟨kb, ko, none⟩ ∧ w30.cell? ⟨kb, ko + 1, none⟩ = w15.cell? ⟨kb, ko + 1, none⟩ ∧ w30.cell? ⟨kb, ko + 2, none⟩ = w15.cell? ⟨kb, ko + 2, none⟩ ∧ w30.cell? ⟨kb, ko + 3, none⟩ = w15.cell? ⟨kb, ko + 3, none⟩ ∧ w30.cell? ⟨b2, 0, none⟩ = w15.cell? ⟨b2, 0, none⟩ ∧ w30.cell? ⟨b2, 1, none⟩ = w15.cell? ⟨b2, 1, none⟩ ∧ w30.cell? ⟨b2, 2, none⟩ = w15.cell? ⟨b2, 2, none⟩ := ⟨(hB3.cell 3).trans (s_hB3.cell 3).symm, ((low_now hE hVB hkb lbB).trans (low_now hEs hVB hkb lbB).symm), ((low_now hE hVB hkb lbB).trans (low_now hEs hVB hkb lbB).symm), ((low_now hE hVB hkb lbB).trans (low_now hEs hVB hkb lbB).symm), ((low_now hE hVB hkb lbB).trans (low_now hEs hVB hkb lbB).symm), (hB3.cell 0).trans (s_hB3.cell 0).symm, (hB3.cell 1).trans (s_hB3.cell 1).symm, (hB3.cell 2).trans (s_hB3.cell 2).symm⟩
  refine ⟨.inl hS0, ?_⟩
  refine dV 8 rfl rfl hsel (by kernel_rfl) hf rfl (.inl hS0) (fun x => ex_bd (ps := [(0, (.tmp 198)), (1, (.const (.string ⟨#[93]⟩)))]) (z := [.string ⟨([] : List UInt8).toArray⟩, .string ⟨([] : List UInt8).toArray⟩]) (os := [0, 1]) hf rfl (by kernel_rfl) (by kernel_rfl) (by kernel_rfl) rfl rfl) fun a hf => ?_
  obtain ⟨w31, b32, he, hB33, hx34, eb35, lb36⟩ := ef_bslice (P := Try.prog) (ps := [(0, (.tmp 199))]) (m := 1) (sz := 2) (z := [.string ⟨([] : List UInt8).toArray⟩, .string ⟨([] : List UInt8).toArray⟩]) hf rfl Try.underlying54 (by kernel_rfl) (by kernel_rfl) rfl rfl (by kernel_rfl) rfl w30 54
  refine dl_e 9 (by kernel_rfl) rfl hf rfl rfl he fun a hf => ?_
  have ne_b2_b32 : b2 ≠ b32 := ne_new hB3.lt eb35
  have ge_b32 := ge_new hE eb35
  replace hB3 := hB3.c0 hx34
  replace hO := hO.t0 hx34
  replace hE := hE.t0 hx34
  clear eb35 lb36
  clear hS0
  have hS0 : w31.cell? ⟨b2, 3, none⟩ = w15.cell? ⟨b2, 3, none⟩ ∧ w31.cell? ⟨kb, ko, none⟩ = w15.cell? ⟨kb, ko, none⟩ ∧ w31.cell? ⟨kb, ko + 1, none⟩ = w15.cell? ⟨kb, ko + 1, none⟩ ∧ w31.cell? ⟨kb, ko + 2, none⟩ = w15.cell? ⟨kb, ko + 2, none⟩ ∧ w31.cell? ⟨kb, ko + 3, none⟩ = w15.cell? ⟨kb, ko + 3, none⟩ ∧ w31.cell? ⟨b2, 0, none⟩ = w15.cell? ⟨b2, 0, none⟩ ∧ w31.cell? ⟨b2, 1, none⟩ = w15.cell? ⟨b2, 1, none⟩ ∧ w31.cell? ⟨b2, 2, none⟩ = w15.cell? ⟨b2, 2, none⟩ := ⟨(hB3.cell 3).trans (s_hB3.cell 3).symm, ((low_now hE hVB hkb lbB).trans (low_now hEs hVB hkb lbB).symm), ((low_now hE hVB hkb lbB).trans (low_now hEs hVB hkb lbB).symm), ((low_now hE hVB hkb lbB).trans (low_now hEs hVB hkb lbB).symm), ((low_now hE hVB hkb lbB).trans (low_now hEs hVB hkb lbB).symm), (hB3.cell 0).trans (s_hB3.cell 0).symm, (hB3.cell 1).trans (s_hB3.cell 1).symm, (hB3.cell 2).trans (s_hB3.cell 2).symm⟩
  refine ⟨.inl hS0, ?_⟩
  obtain ⟨v38, w37, he, hO39, hx40, hfr41⟩ := eP (.tmp 196) (.tmp 200) [(l1, [93])] hf rfl rfl hO hB33 rfl (by (try simp only [List.length_cons, List.length_nil]); omega) (nlt hBs hE.size) 54
  refine dl_e 10 (by kernel_rfl) rfl hf rfl rfl he fun a hf => ?_
  have hn2 := own_ne hfr41 hn hB3.lt
  have hg2 := own_from hfr41 hg hE.size
  replace hB3 := hB3.chg hx40 (nmO hn)
  replace hE := chg_own hE hx40 hg
  clear hO hn hg hfr41
  have hO := hO39; clear hO39
  have hn := hn2; clear hn2
  have hg := hg2; clear hg2
  obtain ⟨ps42, eps42⟩ : ∃ z, z = ps28 ++ [(l1, [93])] := ⟨_, rfl⟩
  rw [← eps42] at hO
  have lps42 : ps42.length = ps28.length + 1 := by rw [eps42]; simp
  clear hS0
  have hS0 : w37.cell? ⟨b2, 3, none⟩ = w15.cell? ⟨b2, 3, none⟩ ∧ w37.cell? ⟨kb, ko, none⟩ = w15.cell? ⟨kb, ko, none⟩ ∧ w37.cell? ⟨kb, ko + 1, none⟩ = w15.cell? ⟨kb, ko + 1, none⟩ ∧ w37.cell? ⟨kb, ko + 2, none⟩ = w15.cell? ⟨kb, ko + 2, none⟩ ∧ w37.cell? ⟨kb, ko + 3, none⟩ = w15.cell? ⟨kb, ko + 3, none⟩ ∧ w37.cell? ⟨b2, 0, none⟩ = w15.cell? ⟨b2, 0, none⟩ ∧ w37.cell? ⟨b2, 1, none⟩ = w15.cell? ⟨b2, 1, none⟩ ∧ w37.cell? ⟨b2, 2, none⟩ = w15.cell? ⟨b2, 2, none⟩ := ⟨(hB3.cell 3).trans (s_hB3.cell 3).symm, ((low_now hE hVB hkb lbB).trans (low_now hEs hVB hkb lbB).symm), ((low_now hE hVB hkb lbB).trans (low_now hEs hVB hkb lbB).symm), ((low_now hE hVB hkb lbB).trans (low_now hEs hVB hkb lbB).symm), ((low_now hE hVB hkb lbB).trans (low_now hEs hVB hkb lbB).symm), (hB3.cell 0).trans (s_hB3.cell 0).symm, (hB3.cell 1).trans (s_hB3.cell 1).symm, (hB3.cell 2).trans (s_hB3.cell 2).symm⟩
  refine ⟨.inl hS0, ?_⟩
  refine dR [11] hsel (by kernel_rfl) hf rfl rfl (.inl hS0) fun a hf => rN (by kernel_rfl) ?_
  clear hS0 hsel
  refine rR 4 hf rfl fun a hf => ?_
  have eq : ps ++ pcsT (.node 8 x [l0, l1] [k0]) = ps42 := by subst eps42; subst eps28; subst eps20; simp [pcsT, pcsTs, nodeC, singleT]
  exact rT (rs := [.tmp 4]) hf rfl ⟨_, _, rfl, rfl, rfl⟩ ⟨_, rfl, eq ▸ hO, hE, fresh_all hg (.inl (own_some hO))⟩
theorem p19 {N : Nat} (ih : PiecesOk N) {w : World} {Bs : Nat} {v0 : Value} {ps : List Pc} {x : List UInt8} {l0 l1 l2 : List UInt8} {k0 k1 k2 : Tree} {cs : List Value} {A B : Option Addr} {m n : Nat} (hks : ∀ t, t ∈ [k0, k1, k2] → tsize t ≤ N ∧ (shapedT t && leadedT t && decide (tbulk t ≤ 1000000000)) = true)
    (hl1 : ps.length + (pcsT (.node 19 x [l0, l1, l2] [k0, k1, k2])).length ≤ 1000000000) (hO : Ow Bs w v0 ps) (hL : RowIn (fun b => b < Bs) w 1 A [l0, l1, l2].length ([l0, l1, l2].map strV)) (hn0 : [k0, k1, k2].length ≤ n) (hn2 : n ≤ maxLen) (hK : KidsAre (fun b => b < Bs) w [k0, k1, k2] cs) (hR : RowIn (fun b => b < Bs) w 4 B [k0, k1, k2].length cs) (hBs : Bs ≤ w.heap.size) :
    Calls Try.prog 64 [v0, .agg #[.int .i64 19, strV x, .slice A [l0, l1, l2].length m, .slice B [k0, k1, k2].length n]].toArray w fun e w' => ∃ v', e = .returned v' ∧ Ow Bs w' v' (ps ++ pcsT (.node 19 x [l0, l1, l2] [k0, k1, k2])) ∧ Chg v0.ownBlock.toList w w' ∧ Fresh w v0 v' := by
  have hq : (pcsT (.node 19 x [l0, l1, l2] [k0, k1, k2])).length = 3 + (pcsT k0).length + (pcsT k1).length + (pcsT k2).length := by simp [pcsT, pcsTs, nodeC, singleT] <;> omega
  have hE := Chg.refl v0.ownBlock.toList w
  have hVB : ∀ g, g ∈ v0.ownBlock.toList → Bs ≤ g := fun g h => (hO.ge (by simpa using h)).1
  have hg : ∀ g, v0.ownBlock = some g → g ∈ v0.ownBlock.toList ∨ w.heap.size ≤ g := fun g e => .inl (by simpa using e)
  obtain ⟨kb, ko, rfl, lbB, hkb, _⟩ := hR.2 (by simp)
  obtain ⟨d00, d01, d02, d03, hT0, hc0⟩ := kid_at hK hR rfl (i := 0) (t := k0) rfl
  have on0 := hT0.one
  obtain ⟨d10, d11, d12, d13, hT1, hc1⟩ := kid_at hK hR rfl (i := 1) (t := k1) rfl
  have on1 := hT1.one
  obtain ⟨d20, d21, d22, d23, hT2, hc2⟩ := kid_at hK hR rfl (i := 2) (t := k2) rfl
  have on2 := hT2.one
  refine rE 365 Try.func64 rfl rfl rfl ?_
  intro a hf
  refine rR 2 hf rfl fun a hf => ?_
  obtain ⟨w1, b2, he, hB3, hx4, eb5, lb6⟩ := ef_box (P := Try.prog) (t := 26) (x := (.tmp 1)) hf rfl rfl w 0
  refine rV hf rfl he fun a hf => ?_
  have ge_b2 := ge_new hE eb5
  have hn : v0.ownBlock ≠ some b2 := fun e => by have := (hO.ge e).2; omega
  replace hO := hO.t0 hx4
  replace hE := hE.t0 hx4
  clear eb5 lb6
  refine rR 6 hf rfl fun a hf => rV hf rfl (ex_loadB hf rfl (by kernel_rfl) hB3 rfl) fun a hf => rV hf rfl (ex_len hf Try.underlying24 rfl) fun a hf => rR 7 hf rfl fun a hf => rV hf rfl (ex_loadB hf rfl (by kernel_rfl) hB3 rfl) fun a hf => rR 109 hf rfl fun a hf => ?_
  have s_k00 := (low_now (o := ko) hE hVB hkb lbB).trans (hc0 0 (by decide))
  have s_k01 := (low_now (o := ko + 1) hE hVB hkb lbB).trans (hc0 1 (by decide))
  have s_k02 := (low_now (o := ko + 2) hE hVB hkb lbB).trans (hc0 2 (by decide))
  have s_k03 := (low_now (o := ko + 3) hE hVB hkb lbB).trans (hc0 3 (by decide))
  have hEs := hE
  have s_hB3 := hB3
  refine rD (fun x => x.cell? ⟨b2, 0, none⟩ = w1.cell? ⟨b2, 0, none⟩ ∧ x.cell? ⟨b2, 1, none⟩ = w1.cell? ⟨b2, 1, none⟩ ∧ x.cell? ⟨b2, 2, none⟩ = w1.cell? ⟨b2, 2, none⟩ ∧ x.cell? ⟨b2, 3, none⟩ = w1.cell? ⟨b2, 3, none⟩ ∧ x.cell? ⟨kb, ko, none⟩ = w1.cell? ⟨kb, ko, none⟩ ∧ x.cell? ⟨kb, ko + 1, none⟩ = w1.cell? ⟨kb, ko + 1, none⟩ ∧ x.cell? ⟨kb, ko + 2, none⟩ = w1.cell? ⟨kb, ko + 2, none⟩ ∧ x.cell? ⟨kb, ko + 3, none⟩ = w1.cell? ⟨kb, ko + 3, none⟩) 12 12 rfl (by kernel_rfl) (by kernel_rfl) ?_
  intro w7 hx8 hsel
  replace hB3 := hB3.c0 hx8
  replace hO := hO.t0 hx8
  replace hE := hE.t0 hx8
  have hS0 : w7.cell? ⟨b2, 0, none⟩ = w1.cell? ⟨b2, 0, none⟩ ∧ w7.cell? ⟨b2, 1, none⟩ = w1.cell? ⟨b2, 1, none⟩ ∧ w7.cell? ⟨b2, 2, none⟩ = w1.cell? ⟨b2, 2, none⟩ ∧ w7.cell? ⟨b2, 3, none⟩ = w1.cell? ⟨b2, 3, none⟩ ∧ w7.cell? ⟨kb, ko, none⟩ = w1.cell? ⟨kb, ko, none⟩ ∧ w7.cell? ⟨kb, ko + 1, none⟩ = w1.cell? ⟨kb, ko + 1, none⟩ ∧ w7.cell? ⟨kb, ko + 2, none⟩ = w1.cell? ⟨kb, ko + 2, none⟩ ∧ w7.cell? ⟨kb, ko + 3, none⟩ = w1.cell? ⟨kb, ko + 3, none⟩ := ⟨(hB3.cell 0).trans (s_hB3.cell 0).symm, (hB3.cell 1).trans (s_hB3.cell 1).symm, (hB3.cell 2).trans (s_hB3.cell 2).symm, (hB3.cell 3).trans (s_hB3.cell 3).symm, ((low_now hE hVB hkb lbB).trans (low_now hEs hVB hkb lbB).symm), ((low_now hE hVB hkb lbB).trans (low_now hEs hVB hkb lbB).symm), ((low_now hE hVB hkb lbB).trans (low_now hEs hVB hkb lbB).symm), ((low_now hE hVB hkb lbB).trans (low_now hEs hVB hkb lbB).symm)⟩
  refine dR [0] hsel (by kernel_rfl) hf rfl rfl (.inl hS0) fun a hf => dL 1 rfl rfl hsel (by kernel_rfl) hf rfl hS0 (fun x hS => ex_loadX4 hf rfl (by kernel_rfl) s_hB3 rfl hS.1 hS.2.1 hS.2.2.1 hS.2.2.2.1) fun a hf => dR [6] hsel (by kernel_rfl) hf rfl rfl (.inl hS0) fun a hf => dL 7 rfl rfl hsel (by kernel_rfl) hf rfl hS0 (fun x hS => ex_load hf rfl (by kernel_rfl) (hS.2.2.2.1.trans ((s_hB3.cell 3).trans rfl))) fun a hf => dV 8 rfl rfl hsel (by kernel_rfl) hf rfl (.inl hS0) (fun x => ex_index (sz := 4) (k := 0) (r := ko) hf Try.underlying24 (by kernel_rfl) rfl rfl rfl (by simp) rfl) fun a hf => dL 9 rfl rfl hsel (by kernel_rfl) hf rfl hS0 (fun x hS => ex_loadN (cs := [d00, d01, d02, d03]) (m := 4) hf rfl (by kernel_rfl) rfl (four (hS.2.2.2.2.1.trans s_k00) (hS.2.2.2.2.2.1.trans s_k01) (hS.2.2.2.2.2.2.1.trans s_k02) (hS.2.2.2.2.2.2.2.trans s_k03))) fun a hf => dl_c 2 (by kernel_rfl) rfl hf rfl rfl rfl (by kernel_rfl) (leadAtR (ls := [l0, l1, l2]) (j := 0) rfl (row_now hL hE hVB)) ?_
  rintro _ w10 ⟨rfl, hx9⟩
  refine ⟨_, rfl, fun a hf => ?_⟩
  replace hB3 := hB3.c0 hx9
  replace hO := hO.t0 hx9
  replace hE := hE.t0 hx9
  clear hS0
  have hS0 : w10.cell? ⟨b2, 0, none⟩ = w1.cell? ⟨b2, 0, none⟩ ∧ w10.cell? ⟨b2, 1, none⟩ = w1.cell? ⟨b2, 1, none⟩ ∧ w10.cell? ⟨b2, 2, none⟩ = w1.cell? ⟨b2, 2, none⟩ ∧ w10.cell? ⟨b2, 3, none⟩ = w1.cell? ⟨b2, 3, none⟩ ∧ w10.cell? ⟨kb, ko, none⟩ = w1.cell? ⟨kb, ko, none⟩ ∧ w10.cell? ⟨kb, ko + 1, none⟩ = w1.cell? ⟨kb, ko + 1, none⟩ ∧ w10.cell? ⟨kb, ko + 2, none⟩ = w1.cell? ⟨kb, ko + 2, none⟩ ∧ w10.cell? ⟨kb, ko + 3, none⟩ = w1.cell? ⟨kb, ko + 3, none⟩ := ⟨(hB3.cell 0).trans (s_hB3.cell 0).symm, (hB3.cell 1).trans (s_hB3.cell 1).symm, (hB3.cell 2).trans (s_hB3.cell 2).symm, (hB3.cell 3).trans (s_hB3.cell 3).symm, ((low_now hE hVB hkb lbB).trans (low_now hEs hVB hkb lbB).symm), ((low_now hE hVB hkb lbB).trans (low_now hEs hVB hkb lbB).symm), ((low_now hE hVB hkb lbB).trans (low_now hEs hVB hkb lbB).symm), ((low_now hE hVB hkb lbB).trans (low_now hEs hVB hkb lbB).symm)⟩
  refine ⟨.inl hS0, ?_⟩
  refine dV 3 rfl rfl hsel (by kernel_rfl) hf rfl (.inl hS0) (fun x => ex_bd (ps := [(0, (.tmp 253)), (1, (.const (.string ⟨#[105, 102]⟩)))]) (z := [.string ⟨([] : List UInt8).toArray⟩, .string ⟨([] : List UInt8).toArray⟩]) (os := [0, 1]) hf rfl (by kernel_rfl) (by kernel_rfl) (by kernel_rfl) rfl rfl) fun a hf => ?_
  obtain ⟨w11, b12, he, hB13, hx14, eb15, lb16⟩ := ef_bslice (P := Try.prog) (ps := [(0, (.tmp 254))]) (m := 1) (sz := 2) (z := [.string ⟨([] : List UInt8).toArray⟩, .string ⟨([] : List UInt8).toArray⟩]) hf rfl Try.underlying54 (by kernel_rfl) (by kernel_rfl) rfl rfl (by kernel_rfl) rfl w10 54
  refine dl_e 4 (by kernel_rfl) rfl hf rfl rfl he fun a hf => ?_
  have ne_b2_b12 : b2 ≠ b12 := ne_new hB3.lt eb15
  have ge_b12 := ge_new hE eb15
  replace hB3 := hB3.c0 hx14
  replace hO := hO.t0 hx14
  replace hE := hE.t0 hx14
  clear eb15 lb16
  clear hS0
  have hS0 : w11.cell? ⟨b2, 0, none⟩ = w1.cell? ⟨b2, 0, none⟩ ∧ w11.cell? ⟨b2, 1, none⟩ = w1.cell? ⟨b2, 1, none⟩ ∧ w11.cell? ⟨b2, 2, none⟩ = w1.cell? ⟨b2, 2, none⟩ ∧ w11.cell? ⟨b2, 3, none⟩ = w1.cell? ⟨b2, 3, none⟩ ∧ w11.cell? ⟨kb, ko, none⟩ = w1.cell? ⟨kb, ko, none⟩ ∧ w11.cell? ⟨kb, ko + 1, none⟩ = w1.cell? ⟨kb, ko + 1, none⟩ ∧ w11.cell? ⟨kb, ko + 2, none⟩ = w1.cell? ⟨kb, ko + 2, none⟩ ∧ w11.cell? ⟨kb, ko + 3, none⟩ = w1.cell? ⟨kb, ko + 3, none⟩ := ⟨(hB3.cell 0).trans (s_hB3.cell 0).symm, (hB3.cell 1).trans (s_hB3.cell 1).symm, (hB3.cell 2).trans (s_hB3.cell 2).symm, (hB3.cell 3).trans (s_hB3.cell 3).symm, ((low_now hE hVB hkb lbB).trans (low_now hEs hVB hkb lbB).symm), ((low_now hE hVB hkb lbB).trans (low_now hEs hVB hkb lbB).symm), ((low_now hE hVB hkb lbB).trans (low_now hEs hVB hkb lbB).symm), ((low_now hE hVB hkb lbB).trans (low_now hEs hVB hkb lbB).symm)⟩
  refine ⟨.inl hS0, ?_⟩
  obtain ⟨v18, w17, he, hO19, hx20, hfr21⟩ := eP (.tmp 251) (.tmp 255) [(l0, [105, 102])] hf rfl rfl hO hB13 rfl (by (try simp only [List.length_cons, List.length_nil]); omega) (nlt hBs hE.size) 54
  refine dl_e 5 (by kernel_rfl) rfl hf rfl rfl he fun a hf => ?_
  have hn2 := own_ne hfr21 hn hB3.lt
  have hg2 := own_from hfr21 hg hE.size
  replace hB3 := hB3.chg hx20 (nmO hn)
  replace hE := chg_own hE hx20 hg
  clear hO hn hg hfr21
  have hO := hO19; clear hO19
  have hn := hn2; clear hn2
  have hg := hg2; clear hg2
  obtain ⟨ps22, eps22⟩ : ∃ z, z = ps ++ [(l0, [105, 102])] := ⟨_, rfl⟩
  rw [← eps22] at hO
  have lps22 : ps22.length = ps.length + 1 := by rw [eps22]; simp
  clear hS0
  have hS0 : w17.cell? ⟨b2, 0, none⟩ = w1.cell? ⟨b2, 0, none⟩ ∧ w17.cell? ⟨b2, 1, none⟩ = w1.cell? ⟨b2, 1, none⟩ ∧ w17.cell? ⟨b2, 2, none⟩ = w1.cell? ⟨b2, 2, none⟩ ∧ w17.cell? ⟨b2, 3, none⟩ = w1.cell? ⟨b2, 3, none⟩ ∧ w17.cell? ⟨kb, ko, none⟩ = w1.cell? ⟨kb, ko, none⟩ ∧ w17.cell? ⟨kb, ko + 1, none⟩ = w1.cell? ⟨kb, ko + 1, none⟩ ∧ w17.cell? ⟨kb, ko + 2, none⟩ = w1.cell? ⟨kb, ko + 2, none⟩ ∧ w17.cell? ⟨kb, ko + 3, none⟩ = w1.cell? ⟨kb, ko + 3, none⟩ := ⟨(hB3.cell 0).trans (s_hB3.cell 0).symm, (hB3.cell 1).trans (s_hB3.cell 1).symm, (hB3.cell 2).trans (s_hB3.cell 2).symm, (hB3.cell 3).trans (s_hB3.cell 3).symm, ((low_now hE hVB hkb lbB).trans (low_now hEs hVB hkb lbB).symm), ((low_now hE hVB hkb lbB).trans (low_now hEs hVB hkb lbB).symm), ((low_now hE hVB hkb lbB).trans (low_now hEs hVB hkb lbB).symm), ((low_now hE hVB hkb lbB).trans (low_now hEs hVB hkb lbB).symm)⟩
  refine ⟨.inl hS0, ?_⟩
  refine dl_c 10 (by kernel_rfl) rfl hf rfl rfl rfl (by kernel_rfl) (ih k0 _ Bs _ ps22 _ _ _ _ (hks _ (by simp)).1 (hks _ (by simp)).2 (by omega) hO (tree_now hT0 hE hVB) (nlt hBs hE.size)) ?_
  rintro _ w27 ⟨v24, rfl, hO25, hx23, hfr26⟩
  refine ⟨_, rfl, fun a hf => ?_⟩
  have hn2 := own_ne hfr26 hn hB3.lt
  have hg2 := own_from hfr26 hg hE.size
  replace hB3 := hB3.chg hx23 (nmO hn)
  replace hE := chg_own hE hx23 hg
  clear hO hn hg hfr26
  have hO := hO25; clear hO25
  have hn := hn2; clear hn2
  have hg := hg2; clear hg2
  obtain ⟨ps28, eps28⟩ : ∃ z, z = ps22 ++ pcsT k0 := ⟨_, rfl⟩
  rw [← eps28] at hO
  have lps28 : ps28.length = ps22.length + (pcsT k0).length := by rw [eps28, List.length_append]
  clear hS0
  have hS0 : w27.cell? ⟨b2, 0, none⟩ = w1.cell? ⟨b2, 0, none⟩ ∧ w27.cell? ⟨b2, 1, none⟩ = w1.cell? ⟨b2, 1, none⟩ ∧ w27.cell? ⟨b2, 2, none⟩ = w1.cell? ⟨b2, 2, none⟩ ∧ w27.cell? ⟨b2, 3, none⟩ = w1.cell? ⟨b2, 3, none⟩ ∧ w27.cell? ⟨kb, ko, none⟩ = w1.cell? ⟨kb, ko, none⟩ ∧ w27.cell? ⟨kb, ko + 1, none⟩ = w1.cell? ⟨kb, ko + 1, none⟩ ∧ w27.cell? ⟨kb, ko + 2, none⟩ = w1.cell? ⟨kb, ko + 2, none⟩ ∧ w27.cell? ⟨kb, ko + 3, none⟩ = w1.cell? ⟨kb, ko + 3, none⟩ := ⟨(hB3.cell 0).trans (s_hB3.cell 0).symm, (hB3.cell 1).trans (s_hB3.cell 1).symm, (hB3.cell 2).trans (s_hB3.cell 2).symm, (hB3.cell 3).trans (s_hB3.cell 3).symm, ((low_now hE hVB hkb lbB).trans (low_now hEs hVB hkb lbB).symm), ((low_now hE hVB hkb lbB).trans (low_now hEs hVB hkb lbB).symm), ((low_now hE hVB hkb lbB).trans (low_now hEs hVB hkb lbB).symm), ((low_now hE hVB hkb lbB).trans (low_now hEs hVB hkb lbB).symm)⟩
  refine ⟨.inl hS0, ?_⟩
  refine dR [11] hsel (by kernel_rfl) hf rfl rfl (.inl hS0) fun a hf => rN (by kernel_rfl) ?_
  clear hS0 hsel
  refine rR 2 hf rfl fun a hf => ?_
  have s_k10 := (low_now (o := ko + 4) hE hVB hkb lbB).trans (hc1 0 (by decide))
  have s_k11 := (low_now (o := ko + 4 + 1) hE hVB hkb lbB).trans (hc1 1 (by decide))
  have s_k12 := (low_now (o := ko + 4 + 2) hE hVB hkb lbB).trans (hc1 2 (by decide))
  have s_k13 := (low_now (o := ko + 4 + 3) hE hVB hkb lbB).trans (hc1 3 (by decide))
  have hEs := hE
  have s_hB3 := hB3
  refine rD (fun x => x.cell? ⟨b2, 0, none⟩ = w27.cell? ⟨b2, 0, none⟩ ∧ x.cell? ⟨b2, 1, none⟩ = w27.cell? ⟨b2, 1, none⟩ ∧ x.cell? ⟨b2, 2, none⟩ = w27.cell? ⟨b2, 2, none⟩ ∧ x.cell? ⟨b2, 3, none⟩ = w27.cell? ⟨b2, 3, none⟩ ∧ x.cell? ⟨kb, ko + 4, none⟩ = w27.cell? ⟨kb, ko + 4, none⟩ ∧ x.cell? ⟨kb, ko + 4 + 1, none⟩ = w27.cell? ⟨kb, ko + 4 + 1, none⟩ ∧ x.cell? ⟨kb, ko + 4 + 2, none⟩ = w27.cell? ⟨kb, ko + 4 + 2, none⟩ ∧ x.cell? ⟨kb, ko + 4 + 3, none⟩ = w27.cell? ⟨kb, ko + 4 + 3, none⟩) 12 12 rfl (by kernel_rfl) (by kernel_rfl) ?_
  intro w29 hx30 hsel
  replace hB3 := hB3.c0 hx30
  replace hO := hO.t0 hx30
  replace hE := hE.t0 hx30
  have hS0 : w29.cell? ⟨b2, 0, none⟩ = w27.cell? ⟨b2, 0, none⟩ ∧ w29.cell? ⟨b2, 1, none⟩ = w27.cell? ⟨b2, 1, none⟩ ∧ w29.cell? ⟨b2, 2, none⟩ = w27.cell? ⟨b2, 2, none⟩ ∧ w29.cell? ⟨b2, 3, none⟩ = w27.cell? ⟨b2, 3, none⟩ ∧ w29.cell? ⟨kb, ko + 4, none⟩ = w27.cell? ⟨kb, ko + 4, none⟩ ∧ w29.cell? ⟨kb, ko + 4 + 1, none⟩ = w27.cell? ⟨kb, ko + 4 + 1, none⟩ ∧ w29.cell? ⟨kb, ko + 4 + 2, none⟩ = w27.cell? ⟨kb, ko + 4 + 2, none⟩ ∧ w29.cell? ⟨kb, ko + 4 + 3, none⟩ = w27.cell? ⟨kb, ko + 4 + 3, none⟩ := ⟨(hB3.cell 0).trans (s_hB3.cell 0).symm, (hB3.cell 1).trans (s_hB3.cell 1).symm, (hB3.cell 2).trans (s_hB3.cell 2).symm, (hB3.cell 3).trans (s_hB3.cell 3).symm, ((low_now hE hVB hkb lbB).trans (low_now hEs hVB hkb lbB).symm), ((low_now hE hVB hkb lbB).trans (low_now hEs hVB hkb lbB).symm), ((low_now hE hVB hkb lbB).trans (low_now hEs hVB hkb lbB).symm), ((low_now hE hVB hkb lbB).trans (low_now hEs hVB hkb lbB).symm)⟩
  refine dR [0] hsel (by kernel_rfl) hf rfl rfl (.inl hS0) fun a hf => dL 1 rfl rfl hsel (by kernel_rfl) hf rfl hS0 (fun x hS => ex_loadX4 hf rfl (by kernel_rfl) s_hB3 rfl hS.1 hS.2.1 hS.2.2.1 hS.2.2.2.1) fun a hf => dR [6] hsel (by kernel_rfl) hf rfl rfl (.inl hS0) fun a hf => dL 7 rfl rfl hsel (by kernel_rfl) hf rfl hS0 (fun x hS => ex_load hf rfl (by kernel_rfl) (hS.2.2.2.1.trans ((s_hB3.cell 3).trans rfl))) fun a hf => dV 8 rfl rfl hsel (by kernel_rfl) hf rfl (.inl hS0) (fun x => ex_index (sz := 4) (k := 1) (r := ko + 4) hf Try.underlying24 (by kernel_rfl) rfl rfl rfl (by simp) rfl) fun a hf => dL 9 rfl rfl hsel (by kernel_rfl) hf rfl hS0 (fun x hS => ex_loadN (cs := [d10, d11, d12, d13]) (m := 4) hf rfl (by kernel_rfl) rfl (four (hS.2.2.2.2.1.trans s_k10) (hS.2.2.2.2.2.1.trans s_k11) (hS.2.2.2.2.2.2.1.trans s_k12) (hS.2.2.2.2.2.2.2.trans s_k13))) fun a hf => dl_c 2 (by kernel_rfl) rfl hf rfl rfl rfl (by kernel_rfl) (leadAtR (ls := [l0, l1, l2]) (j := 1) rfl (row_now hL hE hVB)) ?_
  rintro _ w32 ⟨rfl, hx31⟩
  refine ⟨_, rfl, fun a hf => ?_⟩
  replace hB3 := hB3.c0 hx31
  replace hO := hO.t0 hx31
  replace hE := hE.t0 hx31
  clear hS0
  have hS0 : w32.cell? ⟨b2, 0, none⟩ = w27.cell? ⟨b2, 0, none⟩ ∧ w32.cell? ⟨b2, 1, none⟩ = w27.cell? ⟨b2, 1, none⟩ ∧ w32.cell? ⟨b2, 2, none⟩ = w27.cell? ⟨b2, 2, none⟩ ∧ w32.cell? ⟨b2, 3, none⟩ = w27.cell? ⟨b2, 3, none⟩ ∧ w32.cell? ⟨kb, ko + 4, none⟩ = w27.cell? ⟨kb, ko + 4, none⟩ ∧ w32.cell? ⟨kb, ko + 4 + 1, none⟩ = w27.cell? ⟨kb, ko + 4 + 1, none⟩ ∧ w32.cell? ⟨kb, ko + 4 + 2, none⟩ = w27.cell? ⟨kb, ko + 4 + 2, none⟩ ∧ w32.cell? ⟨kb, ko + 4 + 3, none⟩ = w27.cell? ⟨kb, ko + 4 + 3, none⟩ := ⟨(hB3.cell 0).trans (s_hB3.cell 0).symm, (hB3.cell 1).trans (s_hB3.cell 1).symm, (hB3.cell 2).trans (s_hB3.cell 2).symm, (hB3.cell 3).trans (s_hB3.cell 3).symm, ((low_now hE hVB hkb lbB).trans (low_now hEs hVB hkb lbB).symm), ((low_now hE hVB hkb lbB).trans (low_now hEs hVB hkb lbB).symm), ((low_now hE hVB hkb lbB).trans (low_now hEs hVB hkb lbB).symm), ((low_now hE hVB hkb lbB).trans (low_now hEs hVB hkb lbB).symm)⟩
  refine ⟨.inl hS0, ?_⟩
  refine dV 3 rfl rfl hsel (by kernel_rfl) hf rfl (.inl hS0) (fun x => ex_bd (ps := [(0, (.tmp 264)), (1, (.const (.string ⟨#[116, 104, 101, 110]⟩)))]) (z := [.string ⟨([] : List UInt8).toArray⟩, .string ⟨([] : List UInt8).toArray⟩]) (os := [0, 1]) hf rfl (by kernel_rfl) (by kernel_rfl) (by kernel_rfl) rfl rfl) fun a hf => ?_
  obtain ⟨w33, b34, he, hB35, hx36, eb37, lb38⟩ := ef_bslice (P := Try.prog) (ps := [(0, (.tmp 265))]) (m := 1) (sz := 2) (z := [.string ⟨([] : List UInt8).toArray⟩, .string ⟨([] : List UInt8).toArray⟩]) hf rfl Try.underlying54 (by kernel_rfl) (by kernel_rfl) rfl rfl (by kernel_rfl) rfl w32 54
  refine dl_e 4 (by kernel_rfl) rfl hf rfl rfl he fun a hf => ?_
  have ne_b2_b34 : b2 ≠ b34 := ne_new hB3.lt eb37
  have ge_b34 := ge_new hE eb37
  replace hB3 := hB3.c0 hx36
  replace hO := hO.t0 hx36
  replace hE := hE.t0 hx36
  clear eb37 lb38
  clear hS0
  have hS0 : w33.cell? ⟨b2, 0, none⟩ = w27.cell? ⟨b2, 0, none⟩ ∧ w33.cell? ⟨b2, 1, none⟩ = w27.cell? ⟨b2, 1, none⟩ ∧ w33.cell? ⟨b2, 2, none⟩ = w27.cell? ⟨b2, 2, none⟩ ∧ w33.cell? ⟨b2, 3, none⟩ = w27.cell? ⟨b2, 3, none⟩ ∧ w33.cell? ⟨kb, ko + 4, none⟩ = w27.cell? ⟨kb, ko + 4, none⟩ ∧ w33.cell? ⟨kb, ko + 4 + 1, none⟩ = w27.cell? ⟨kb, ko + 4 + 1, none⟩ ∧ w33.cell? ⟨kb, ko + 4 + 2, none⟩ = w27.cell? ⟨kb, ko + 4 + 2, none⟩ ∧ w33.cell? ⟨kb, ko + 4 + 3, none⟩ = w27.cell? ⟨kb, ko + 4 + 3, none⟩ := ⟨(hB3.cell 0).trans (s_hB3.cell 0).symm, (hB3.cell 1).trans (s_hB3.cell 1).symm, (hB3.cell 2).trans (s_hB3.cell 2).symm, (hB3.cell 3).trans (s_hB3.cell 3).symm, ((low_now hE hVB hkb lbB).trans (low_now hEs hVB hkb lbB).symm), ((low_now hE hVB hkb lbB).trans (low_now hEs hVB hkb lbB).symm), ((low_now hE hVB hkb lbB).trans (low_now hEs hVB hkb lbB).symm), ((low_now hE hVB hkb lbB).trans (low_now hEs hVB hkb lbB).symm)⟩
  refine ⟨.inl hS0, ?_⟩
  obtain ⟨v40, w39, he, hO41, hx42, hfr43⟩ := eP (.tmp 262) (.tmp 266) [(l1, [116, 104, 101, 110])] hf rfl rfl hO hB35 rfl (by (try simp only [List.length_cons, List.length_nil]); omega) (nlt hBs hE.size) 54
  refine dl_e 5 (by kernel_rfl) rfl hf rfl rfl he fun a hf => ?_
  have hn2 := own_ne hfr43 hn hB3.lt
  have hg2 := own_from hfr43 hg hE.size
  replace hB3 := hB3.chg hx42 (nmO hn)
  replace hE := chg_own hE hx42 hg
  clear hO hn hg hfr43
  have hO := hO41; clear hO41
  have hn := hn2; clear hn2
  have hg := hg2; clear hg2
  obtain ⟨ps44, eps44⟩ : ∃ z, z = ps28 ++ [(l1, [116, 104, 101, 110])] := ⟨_, rfl⟩
  rw [← eps44] at hO
  have lps44 : ps44.length = ps28.length + 1 := by rw [eps44]; simp
  clear hS0
  have hS0 : w39.cell? ⟨b2, 0, none⟩ = w27.cell? ⟨b2, 0, none⟩ ∧ w39.cell? ⟨b2, 1, none⟩ = w27.cell? ⟨b2, 1, none⟩ ∧ w39.cell? ⟨b2, 2, none⟩ = w27.cell? ⟨b2, 2, none⟩ ∧ w39.cell? ⟨b2, 3, none⟩ = w27.cell? ⟨b2, 3, none⟩ ∧ w39.cell? ⟨kb, ko + 4, none⟩ = w27.cell? ⟨kb, ko + 4, none⟩ ∧ w39.cell? ⟨kb, ko + 4 + 1, none⟩ = w27.cell? ⟨kb, ko + 4 + 1, none⟩ ∧ w39.cell? ⟨kb, ko + 4 + 2, none⟩ = w27.cell? ⟨kb, ko + 4 + 2, none⟩ ∧ w39.cell? ⟨kb, ko + 4 + 3, none⟩ = w27.cell? ⟨kb, ko + 4 + 3, none⟩ := ⟨(hB3.cell 0).trans (s_hB3.cell 0).symm, (hB3.cell 1).trans (s_hB3.cell 1).symm, (hB3.cell 2).trans (s_hB3.cell 2).symm, (hB3.cell 3).trans (s_hB3.cell 3).symm, ((low_now hE hVB hkb lbB).trans (low_now hEs hVB hkb lbB).symm), ((low_now hE hVB hkb lbB).trans (low_now hEs hVB hkb lbB).symm), ((low_now hE hVB hkb lbB).trans (low_now hEs hVB hkb lbB).symm), ((low_now hE hVB hkb lbB).trans (low_now hEs hVB hkb lbB).symm)⟩
  refine ⟨.inl hS0, ?_⟩
  refine dl_c 10 (by kernel_rfl) rfl hf rfl rfl rfl (by kernel_rfl) (ih k1 _ Bs _ ps44 _ _ _ _ (hks _ (by simp)).1 (hks _ (by simp)).2 (by omega) hO (tree_now hT1 hE hVB) (nlt hBs hE.size)) ?_
  rintro _ w49 ⟨v46, rfl, hO47, hx45, hfr48⟩
  refine ⟨_, rfl, fun a hf => ?_⟩
  have hn2 := own_ne hfr48 hn hB3.lt
  have hg2 := own_from hfr48 hg hE.size
  replace hB3 := hB3.chg hx45 (nmO hn)
  replace hE := chg_own hE hx45 hg
  clear hO hn hg hfr48
  have hO := hO47; clear hO47
  have hn := hn2; clear hn2
  have hg := hg2; clear hg2
  obtain ⟨ps50, eps50⟩ : ∃ z, z = ps44 ++ pcsT k1 := ⟨_, rfl⟩
  rw [← eps50] at hO
  have lps50 : ps50.length = ps44.length + (pcsT k1).length := by rw [eps50, List.length_append]
  clear hS0
  have hS0 : w49.cell? ⟨b2, 0, none⟩ = w27.cell? ⟨b2, 0, none⟩ ∧ w49.cell? ⟨b2, 1, none⟩ = w27.cell? ⟨b2, 1, none⟩ ∧ w49.cell? ⟨b2, 2, none⟩ = w27.cell? ⟨b2, 2, none⟩ ∧ w49.cell? ⟨b2, 3, none⟩ = w27.cell? ⟨b2, 3, none⟩ ∧ w49.cell? ⟨kb, ko + 4, none⟩ = w27.cell? ⟨kb, ko + 4, none⟩ ∧ w49.cell? ⟨kb, ko + 4 + 1, none⟩ = w27.cell? ⟨kb, ko + 4 + 1, none⟩ ∧ w49.cell? ⟨kb, ko + 4 + 2, none⟩ = w27.cell? ⟨kb, ko + 4 + 2, none⟩ ∧ w49.cell? ⟨kb, ko + 4 + 3, none⟩ = w27.cell? ⟨kb, ko + 4 + 3, none⟩ := ⟨(hB3.cell 0).trans (s_hB3.cell 0).symm, (hB3.cell 1).trans (s_hB3.cell 1).symm, (hB3.cell 2).trans (s_hB3.cell 2).symm, (hB3.cell 3).trans (s_hB3.cell 3).symm, ((low_now hE hVB hkb lbB).trans (low_now hEs hVB hkb lbB).symm), ((low_now hE hVB hkb lbB).trans (low_now hEs hVB hkb lbB).symm), ((low_now hE hVB hkb lbB).trans (low_now hEs hVB hkb lbB).symm), ((low_now hE hVB hkb lbB).trans (low_now hEs hVB hkb lbB).symm)⟩
  refine ⟨.inl hS0, ?_⟩
  refine dR [11] hsel (by kernel_rfl) hf rfl rfl (.inl hS0) fun a hf => rN (by kernel_rfl) ?_
  clear hS0 hsel
  refine rR 2 hf rfl fun a hf => ?_
  have s_k20 := (low_now (o := ko + 8) hE hVB hkb lbB).trans (hc2 0 (by decide))
  have s_k21 := (low_now (o := ko + 8 + 1) hE hVB hkb lbB).trans (hc2 1 (by decide))
  have s_k22 := (low_now (o := ko + 8 + 2) hE hVB hkb lbB).trans (hc2 2 (by decide))
  have s_k23 := (low_now (o := ko + 8 + 3) hE hVB hkb lbB).trans (hc2 3 (by decide))
  have hEs := hE
  have s_hB3 := hB3
  refine rD (fun x => x.cell? ⟨b2, 0, none⟩ = w49.cell? ⟨b2, 0, none⟩ ∧ x.cell? ⟨b2, 1, none⟩ = w49.cell? ⟨b2, 1, none⟩ ∧ x.cell? ⟨b2, 2, none⟩ = w49.cell? ⟨b2, 2, none⟩ ∧ x.cell? ⟨b2, 3, none⟩ = w49.cell? ⟨b2, 3, none⟩ ∧ x.cell? ⟨kb, ko + 8, none⟩ = w49.cell? ⟨kb, ko + 8, none⟩ ∧ x.cell? ⟨kb, ko + 8 + 1, none⟩ = w49.cell? ⟨kb, ko + 8 + 1, none⟩ ∧ x.cell? ⟨kb, ko + 8 + 2, none⟩ = w49.cell? ⟨kb, ko + 8 + 2, none⟩ ∧ x.cell? ⟨kb, ko + 8 + 3, none⟩ = w49.cell? ⟨kb, ko + 8 + 3, none⟩) 12 12 rfl (by kernel_rfl) (by kernel_rfl) ?_
  intro w51 hx52 hsel
  replace hB3 := hB3.c0 hx52
  replace hO := hO.t0 hx52
  replace hE := hE.t0 hx52
  have hS0 : w51.cell? ⟨b2, 0, none⟩ = w49.cell? ⟨b2, 0, none⟩ ∧ w51.cell? ⟨b2, 1, none⟩ = w49.cell? ⟨b2, 1, none⟩ ∧ w51.cell? ⟨b2, 2, none⟩ = w49.cell? ⟨b2, 2, none⟩ ∧ w51.cell? ⟨b2, 3, none⟩ = w49.cell? ⟨b2, 3, none⟩ ∧ w51.cell? ⟨kb, ko + 8, none⟩ = w49.cell? ⟨kb, ko + 8, none⟩ ∧ w51.cell? ⟨kb, ko + 8 + 1, none⟩ = w49.cell? ⟨kb, ko + 8 + 1, none⟩ ∧ w51.cell? ⟨kb, ko + 8 + 2, none⟩ = w49.cell? ⟨kb, ko + 8 + 2, none⟩ ∧ w51.cell? ⟨kb, ko + 8 + 3, none⟩ = w49.cell? ⟨kb, ko + 8 + 3, none⟩ := ⟨(hB3.cell 0).trans (s_hB3.cell 0).symm, (hB3.cell 1).trans (s_hB3.cell 1).symm, (hB3.cell 2).trans (s_hB3.cell 2).symm, (hB3.cell 3).trans (s_hB3.cell 3).symm, ((low_now hE hVB hkb lbB).trans (low_now hEs hVB hkb lbB).symm), ((low_now hE hVB hkb lbB).trans (low_now hEs hVB hkb lbB).symm), ((low_now hE hVB hkb lbB).trans (low_now hEs hVB hkb lbB).symm), ((low_now hE hVB hkb lbB).trans (low_now hEs hVB hkb lbB).symm)⟩
  refine dR [0] hsel (by kernel_rfl) hf rfl rfl (.inl hS0) fun a hf => dL 1 rfl rfl hsel (by kernel_rfl) hf rfl hS0 (fun x hS => ex_loadX4 hf rfl (by kernel_rfl) s_hB3 rfl hS.1 hS.2.1 hS.2.2.1 hS.2.2.2.1) fun a hf => dR [6] hsel (by kernel_rfl) hf rfl rfl (.inl hS0) fun a hf => dL 7 rfl rfl hsel (by kernel_rfl) hf rfl hS0 (fun x hS => ex_load hf rfl (by kernel_rfl) (hS.2.2.2.1.trans ((s_hB3.cell 3).trans rfl))) fun a hf => dV 8 rfl rfl hsel (by kernel_rfl) hf rfl (.inl hS0) (fun x => ex_index (sz := 4) (k := 2) (r := ko + 8) hf Try.underlying24 (by kernel_rfl) rfl rfl rfl (by simp) rfl) fun a hf => dL 9 rfl rfl hsel (by kernel_rfl) hf rfl hS0 (fun x hS => ex_loadN (cs := [d20, d21, d22, d23]) (m := 4) hf rfl (by kernel_rfl) rfl (four (hS.2.2.2.2.1.trans s_k20) (hS.2.2.2.2.2.1.trans s_k21) (hS.2.2.2.2.2.2.1.trans s_k22) (hS.2.2.2.2.2.2.2.trans s_k23))) fun a hf => dl_c 2 (by kernel_rfl) rfl hf rfl rfl rfl (by kernel_rfl) (leadAtR (ls := [l0, l1, l2]) (j := 2) rfl (row_now hL hE hVB)) ?_
  rintro _ w54 ⟨rfl, hx53⟩
  refine ⟨_, rfl, fun a hf => ?_⟩
  replace hB3 := hB3.c0 hx53
  replace hO := hO.t0 hx53
  replace hE := hE.t0 hx53
  clear hS0
  have hS0 : w54.cell? ⟨b2, 0, none⟩ = w49.cell? ⟨b2, 0, none⟩ ∧ w54.cell? ⟨b2, 1, none⟩ = w49.cell? ⟨b2, 1, none⟩ ∧ w54.cell? ⟨b2, 2, none⟩ = w49.cell? ⟨b2, 2, none⟩ ∧ w54.cell? ⟨b2, 3, none⟩ = w49.cell? ⟨b2, 3, none⟩ ∧ w54.cell? ⟨kb, ko + 8, none⟩ = w49.cell? ⟨kb, ko + 8, none⟩ ∧ w54.cell? ⟨kb, ko + 8 + 1, none⟩ = w49.cell? ⟨kb, ko + 8 + 1, none⟩ ∧ w54.cell? ⟨kb, ko + 8 + 2, none⟩ = w49.cell? ⟨kb, ko + 8 + 2, none⟩ ∧ w54.cell? ⟨kb, ko + 8 + 3, none⟩ = w49.cell? ⟨kb, ko + 8 + 3, none⟩ := ⟨(hB3.cell 0).trans (s_hB3.cell 0).symm, (hB3.cell 1).trans (s_hB3.cell 1).symm, (hB3.cell 2).trans (s_hB3.cell 2).symm, (hB3.cell 3).trans (s_hB3.cell 3).symm, ((low_now hE hVB hkb lbB).trans (low_now hEs hVB hkb lbB).symm), ((low_now hE hVB hkb lbB).trans (low_now hEs hVB hkb lbB).symm), ((low_now hE hVB hkb lbB).trans (low_now hEs hVB hkb lbB).symm), ((low_now hE hVB hkb lbB).trans (low_now hEs hVB hkb lbB).symm)⟩
  refine ⟨.inl hS0, ?_⟩
  refine dV 3 rfl rfl hsel (by kernel_rfl) hf rfl (.inl hS0) (fun x => ex_bd (ps := [(0, (.tmp 275)), (1, (.const (.string ⟨#[101, 108, 115, 101]⟩)))]) (z := [.string ⟨([] : List UInt8).toArray⟩, .string ⟨([] : List UInt8).toArray⟩]) (os := [0, 1]) hf rfl (by kernel_rfl) (by kernel_rfl) (by kernel_rfl) rfl rfl) fun a hf => ?_
  obtain ⟨w55, b56, he, hB57, hx58, eb59, lb60⟩ := ef_bslice (P := Try.prog) (ps := [(0, (.tmp 276))]) (m := 1) (sz := 2) (z := [.string ⟨([] : List UInt8).toArray⟩, .string ⟨([] : List UInt8).toArray⟩]) hf rfl Try.underlying54 (by kernel_rfl) (by kernel_rfl) rfl rfl (by kernel_rfl) rfl w54 54
  refine dl_e 4 (by kernel_rfl) rfl hf rfl rfl he fun a hf => ?_
  have ne_b2_b56 : b2 ≠ b56 := ne_new hB3.lt eb59
  have ge_b56 := ge_new hE eb59
  replace hB3 := hB3.c0 hx58
  replace hO := hO.t0 hx58
  replace hE := hE.t0 hx58
  clear eb59 lb60
  clear hS0
  have hS0 : w55.cell? ⟨b2, 0, none⟩ = w49.cell? ⟨b2, 0, none⟩ ∧ w55.cell? ⟨b2, 1, none⟩ = w49.cell? ⟨b2, 1, none⟩ ∧ w55.cell? ⟨b2, 2, none⟩ = w49.cell? ⟨b2, 2, none⟩ ∧ w55.cell? ⟨b2, 3, none⟩ = w49.cell? ⟨b2, 3, none⟩ ∧ w55.cell? ⟨kb, ko + 8, none⟩ = w49.cell? ⟨kb, ko + 8, none⟩ ∧ w55.cell? ⟨kb, ko + 8 + 1, none⟩ = w49.cell? ⟨kb, ko + 8 + 1, none⟩ ∧ w55.cell? ⟨kb, ko + 8 + 2, none⟩ = w49.cell? ⟨kb, ko + 8 + 2, none⟩ ∧ w55.cell? ⟨kb, ko + 8 + 3, none⟩ = w49.cell? ⟨kb, ko + 8 + 3, none⟩ := ⟨(hB3.cell 0).trans (s_hB3.cell 0).symm, (hB3.cell 1).trans (s_hB3.cell 1).symm, (hB3.cell 2).trans (s_hB3.cell 2).symm, (hB3.cell 3).trans (s_hB3.cell 3).symm, ((low_now hE hVB hkb lbB).trans (low_now hEs hVB hkb lbB).symm), ((low_now hE hVB hkb lbB).trans (low_now hEs hVB hkb lbB).symm), ((low_now hE hVB hkb lbB).trans (low_now hEs hVB hkb lbB).symm), ((low_now hE hVB hkb lbB).trans (low_now hEs hVB hkb lbB).symm)⟩
  refine ⟨.inl hS0, ?_⟩
  obtain ⟨v62, w61, he, hO63, hx64, hfr65⟩ := eP (.tmp 273) (.tmp 277) [(l2, [101, 108, 115, 101])] hf rfl rfl hO hB57 rfl (by (try simp only [List.length_cons, List.length_nil]); omega) (nlt hBs hE.size) 54
  refine dl_e 5 (by kernel_rfl) rfl hf rfl rfl he fun a hf => ?_
  have hn2 := own_ne hfr65 hn hB3.lt
  have hg2 := own_from hfr65 hg hE.size
  replace hB3 := hB3.chg hx64 (nmO hn)
  replace hE := chg_own hE hx64 hg
  clear hO hn hg hfr65
  have hO := hO63; clear hO63
  have hn := hn2; clear hn2
  have hg := hg2; clear hg2
  obtain ⟨ps66, eps66⟩ : ∃ z, z = ps50 ++ [(l2, [101, 108, 115, 101])] := ⟨_, rfl⟩
  rw [← eps66] at hO
  have lps66 : ps66.length = ps50.length + 1 := by rw [eps66]; simp
  clear hS0
  have hS0 : w61.cell? ⟨b2, 0, none⟩ = w49.cell? ⟨b2, 0, none⟩ ∧ w61.cell? ⟨b2, 1, none⟩ = w49.cell? ⟨b2, 1, none⟩ ∧ w61.cell? ⟨b2, 2, none⟩ = w49.cell? ⟨b2, 2, none⟩ ∧ w61.cell? ⟨b2, 3, none⟩ = w49.cell? ⟨b2, 3, none⟩ ∧ w61.cell? ⟨kb, ko + 8, none⟩ = w49.cell? ⟨kb, ko + 8, none⟩ ∧ w61.cell? ⟨kb, ko + 8 + 1, none⟩ = w49.cell? ⟨kb, ko + 8 + 1, none⟩ ∧ w61.cell? ⟨kb, ko + 8 + 2, none⟩ = w49.cell? ⟨kb, ko + 8 + 2, none⟩ ∧ w61.cell? ⟨kb, ko + 8 + 3, none⟩ = w49.cell? ⟨kb, ko + 8 + 3, none⟩ := ⟨(hB3.cell 0).trans (s_hB3.cell 0).symm, (hB3.cell 1).trans (s_hB3.cell 1).symm, (hB3.cell 2).trans (s_hB3.cell 2).symm, (hB3.cell 3).trans (s_hB3.cell 3).symm, ((low_now hE hVB hkb lbB).trans (low_now hEs hVB hkb lbB).symm), ((low_now hE hVB hkb lbB).trans (low_now hEs hVB hkb lbB).symm), ((low_now hE hVB hkb lbB).trans (low_now hEs hVB hkb lbB).symm), ((low_now hE hVB hkb lbB).trans (low_now hEs hVB hkb lbB).symm)⟩
  refine ⟨.inl hS0, ?_⟩
  refine dl_c 10 (by kernel_rfl) rfl hf rfl rfl rfl (by kernel_rfl) (ih k2 _ Bs _ ps66 _ _ _ _ (hks _ (by simp)).1 (hks _ (by simp)).2 (by omega) hO (tree_now hT2 hE hVB) (nlt hBs hE.size)) ?_
  rintro _ w71 ⟨v68, rfl, hO69, hx67, hfr70⟩
  refine ⟨_, rfl, fun a hf => ?_⟩
  have hn2 := own_ne hfr70 hn hB3.lt
  have hg2 := own_from hfr70 hg hE.size
  replace hB3 := hB3.chg hx67 (nmO hn)
  replace hE := chg_own hE hx67 hg
  clear hO hn hg hfr70
  have hO := hO69; clear hO69
  have hn := hn2; clear hn2
  have hg := hg2; clear hg2
  obtain ⟨ps72, eps72⟩ : ∃ z, z = ps66 ++ pcsT k2 := ⟨_, rfl⟩
  rw [← eps72] at hO
  have lps72 : ps72.length = ps66.length + (pcsT k2).length := by rw [eps72, List.length_append]
  clear hS0
  have hS0 : w71.cell? ⟨b2, 0, none⟩ = w49.cell? ⟨b2, 0, none⟩ ∧ w71.cell? ⟨b2, 1, none⟩ = w49.cell? ⟨b2, 1, none⟩ ∧ w71.cell? ⟨b2, 2, none⟩ = w49.cell? ⟨b2, 2, none⟩ ∧ w71.cell? ⟨b2, 3, none⟩ = w49.cell? ⟨b2, 3, none⟩ ∧ w71.cell? ⟨kb, ko + 8, none⟩ = w49.cell? ⟨kb, ko + 8, none⟩ ∧ w71.cell? ⟨kb, ko + 8 + 1, none⟩ = w49.cell? ⟨kb, ko + 8 + 1, none⟩ ∧ w71.cell? ⟨kb, ko + 8 + 2, none⟩ = w49.cell? ⟨kb, ko + 8 + 2, none⟩ ∧ w71.cell? ⟨kb, ko + 8 + 3, none⟩ = w49.cell? ⟨kb, ko + 8 + 3, none⟩ := ⟨(hB3.cell 0).trans (s_hB3.cell 0).symm, (hB3.cell 1).trans (s_hB3.cell 1).symm, (hB3.cell 2).trans (s_hB3.cell 2).symm, (hB3.cell 3).trans (s_hB3.cell 3).symm, ((low_now hE hVB hkb lbB).trans (low_now hEs hVB hkb lbB).symm), ((low_now hE hVB hkb lbB).trans (low_now hEs hVB hkb lbB).symm), ((low_now hE hVB hkb lbB).trans (low_now hEs hVB hkb lbB).symm), ((low_now hE hVB hkb lbB).trans (low_now hEs hVB hkb lbB).symm)⟩
  refine ⟨.inl hS0, ?_⟩
  refine dR [11] hsel (by kernel_rfl) hf rfl rfl (.inl hS0) fun a hf => rN (by kernel_rfl) ?_
  clear hS0 hsel
  refine rR 4 hf rfl fun a hf => ?_
  have eq : ps ++ pcsT (.node 19 x [l0, l1, l2] [k0, k1, k2]) = ps72 := by subst eps72; subst eps66; subst eps50; subst eps44; subst eps28; subst eps22; simp [pcsT, pcsTs, nodeC, singleT]
  exact rT (rs := [.tmp 4]) hf rfl ⟨_, _, rfl, rfl, rfl⟩ ⟨_, rfl, eq ▸ hO, hE, fresh_all hg (.inl (own_some hO))⟩
theorem p20 {N : Nat} (ih : PiecesOk N) {w : World} {Bs : Nat} {v0 : Value} {ps : List Pc} {x : List UInt8} {l0 l1 l2 l3 : List UInt8} {k0 k1 : Tree} {cs : List Value} {A B : Option Addr} {m n : Nat} (hks : ∀ t, t ∈ [k0, k1] → tsize t ≤ N ∧ (shapedT t && leadedT t && decide (tbulk t ≤ 1000000000)) = true)
    (hl1 : ps.length + (pcsT (.node 20 x [l0, l1, l2, l3] [k0, k1])).length ≤ 1000000000) (hO : Ow Bs w v0 ps) (hL : RowIn (fun b => b < Bs) w 1 A [l0, l1, l2, l3].length ([l0, l1, l2, l3].map strV)) (hn0 : [k0, k1].length ≤ n) (hn2 : n ≤ maxLen) (hK : KidsAre (fun b => b < Bs) w [k0, k1] cs) (hR : RowIn (fun b => b < Bs) w 4 B [k0, k1].length cs) (hBs : Bs ≤ w.heap.size) :
    Calls Try.prog 64 [v0, .agg #[.int .i64 20, strV x, .slice A [l0, l1, l2, l3].length m, .slice B [k0, k1].length n]].toArray w fun e w' => ∃ v', e = .returned v' ∧ Ow Bs w' v' (ps ++ pcsT (.node 20 x [l0, l1, l2, l3] [k0, k1])) ∧ Chg v0.ownBlock.toList w w' ∧ Fresh w v0 v' := by
  have hq : (pcsT (.node 20 x [l0, l1, l2, l3] [k0, k1])).length = 4 + (pcsT k0).length + (pcsT k1).length := by simp [pcsT, pcsTs, nodeC, singleT] <;> omega
  have hE := Chg.refl v0.ownBlock.toList w
  have hVB : ∀ g, g ∈ v0.ownBlock.toList → Bs ≤ g := fun g h => (hO.ge (by simpa using h)).1
  have hg : ∀ g, v0.ownBlock = some g → g ∈ v0.ownBlock.toList ∨ w.heap.size ≤ g := fun g e => .inl (by simpa using e)
  obtain ⟨kb, ko, rfl, lbB, hkb, _⟩ := hR.2 (by simp)
  obtain ⟨d00, d01, d02, d03, hT0, hc0⟩ := kid_at hK hR rfl (i := 0) (t := k0) rfl
  have on0 := hT0.one
  obtain ⟨d10, d11, d12, d13, hT1, hc1⟩ := kid_at hK hR rfl (i := 1) (t := k1) rfl
  have on1 := hT1.one
  refine rE 365 Try.func64 rfl rfl rfl ?_
  intro a hf
  refine rR 2 hf rfl fun a hf => ?_
  obtain ⟨w1, b2, he, hB3, hx4, eb5, lb6⟩ := ef_box (P := Try.prog) (t := 26) (x := (.tmp 1)) hf rfl rfl w 0
  refine rV hf rfl he fun a hf => ?_
  have ge_b2 := ge_new hE eb5
  have hn : v0.ownBlock ≠ some b2 := fun e => by have := (hO.ge e).2; omega
  replace hO := hO.t0 hx4
  replace hE := hE.t0 hx4
  clear eb5 lb6
  refine rR 6 hf rfl fun a hf => rV hf rfl (ex_loadB hf rfl (by kernel_rfl) hB3 rfl) fun a hf => rV hf rfl (ex_len hf Try.underlying24 rfl) fun a hf => rR 7 hf rfl fun a hf => rV hf rfl (ex_loadB hf rfl (by kernel_rfl) hB3 rfl) fun a hf => rR 116 hf rfl fun a hf => ?_
  have hEs := hE
  have s_hB3 := hB3
  refine rD (fun x => x.cell? ⟨b2, 0, none⟩ = w1.cell? ⟨b2, 0, none⟩ ∧ x.cell? ⟨b2, 1, none⟩ = w1.cell? ⟨b2, 1, none⟩ ∧ x.cell? ⟨b2, 2, none⟩ = w1.cell? ⟨b2, 2, none⟩ ∧ x.cell? ⟨b2, 3, none⟩ = w1.cell? ⟨b2, 3, none⟩) 15 15 rfl (by kernel_rfl) (by kernel_rfl) ?_
  intro w7 hx8 hsel
  replace hB3 := hB3.c0 hx8
  replace hO := hO.t0 hx8
  replace hE := hE.t0 hx8
  have hS0 : w7.cell? ⟨b2, 0, none⟩ = w1.cell? ⟨b2, 0, none⟩ ∧ w7.cell? ⟨b2, 1, none⟩ = w1.cell? ⟨b2, 1, none⟩ ∧ w7.cell? ⟨b2, 2, none⟩ = w1.cell? ⟨b2, 2, none⟩ ∧ w7.cell? ⟨b2, 3, none⟩ = w1.cell? ⟨b2, 3, none⟩ := ⟨(hB3.cell 0).trans (s_hB3.cell 0).symm, (hB3.cell 1).trans (s_hB3.cell 1).symm, (hB3.cell 2).trans (s_hB3.cell 2).symm, (hB3.cell 3).trans (s_hB3.cell 3).symm⟩
  refine dR [0] hsel (by kernel_rfl) hf rfl rfl (.inl hS0) fun a hf => dL 1 rfl rfl hsel (by kernel_rfl) hf rfl hS0 (fun x hS => ex_loadX4 hf rfl (by kernel_rfl) s_hB3 rfl hS.1 hS.2.1 hS.2.2.1 hS.2.2.2) fun a hf => dL 4 rfl rfl hsel (by kernel_rfl) hf rfl hS0 (fun x hS => ex_loadX4 hf rfl (by kernel_rfl) s_hB3 rfl hS.1 hS.2.1 hS.2.2.1 hS.2.2.2) fun a hf => dR [6] hsel (by kernel_rfl) hf rfl rfl (.inl hS0) fun a hf => dL 7 rfl rfl hsel (by kernel_rfl) hf rfl hS0 (fun x hS => ex_load hf rfl (by kernel_rfl) (hS.2.1.trans ((s_hB3.cell 1).trans rfl))) fun a hf => dL 9 rfl rfl hsel (by kernel_rfl) hf rfl hS0 (fun x hS => ex_loadX4 hf rfl (by kernel_rfl) s_hB3 rfl hS.1 hS.2.1 hS.2.2.1 hS.2.2.2) fun a hf => dl_c 2 (by kernel_rfl) rfl hf rfl rfl rfl (by kernel_rfl) (leadAtR (ls := [l0, l1, l2, l3]) (j := 0) rfl (row_now hL hE hVB)) ?_
  rintro _ w10 ⟨rfl, hx9⟩
  refine ⟨_, rfl, fun a hf => ?_⟩
  replace hB3 := hB3.c0 hx9
  replace hO := hO.t0 hx9
  replace hE := hE.t0 hx9
  clear hS0
  have hS0 : w10.cell? ⟨b2, 0, none⟩ = w1.cell? ⟨b2, 0, none⟩ ∧ w10.cell? ⟨b2, 1, none⟩ = w1.cell? ⟨b2, 1, none⟩ ∧ w10.cell? ⟨b2, 2, none⟩ = w1.cell? ⟨b2, 2, none⟩ ∧ w10.cell? ⟨b2, 3, none⟩ = w1.cell? ⟨b2, 3, none⟩ := ⟨(hB3.cell 0).trans (s_hB3.cell 0).symm, (hB3.cell 1).trans (s_hB3.cell 1).symm, (hB3.cell 2).trans (s_hB3.cell 2).symm, (hB3.cell 3).trans (s_hB3.cell 3).symm⟩
  refine ⟨.inl hS0, ?_⟩
  refine dV 3 rfl rfl hsel (by kernel_rfl) hf rfl (.inl hS0) (fun x => ex_bd (ps := [(0, (.tmp 288)), (1, (.const (.string ⟨#[108, 101, 116]⟩)))]) (z := [.string ⟨([] : List UInt8).toArray⟩, .string ⟨([] : List UInt8).toArray⟩]) (os := [0, 1]) hf rfl (by kernel_rfl) (by kernel_rfl) (by kernel_rfl) rfl rfl) fun a hf => dl_c 5 (by kernel_rfl) rfl hf rfl rfl rfl (by kernel_rfl) (leadAtR (ls := [l0, l1, l2, l3]) (j := 1) rfl (row_now hL hE hVB)) ?_
  rintro _ w12 ⟨rfl, hx11⟩
  refine ⟨_, rfl, fun a hf => ?_⟩
  replace hB3 := hB3.c0 hx11
  replace hO := hO.t0 hx11
  replace hE := hE.t0 hx11
  clear hS0
  have hS0 : w12.cell? ⟨b2, 0, none⟩ = w1.cell? ⟨b2, 0, none⟩ ∧ w12.cell? ⟨b2, 1, none⟩ = w1.cell? ⟨b2, 1, none⟩ ∧ w12.cell? ⟨b2, 2, none⟩ = w1.cell? ⟨b2, 2, none⟩ ∧ w12.cell? ⟨b2, 3, none⟩ = w1.cell? ⟨b2, 3, none⟩ := ⟨(hB3.cell 0).trans (s_hB3.cell 0).symm, (hB3.cell 1).trans (s_hB3.cell 1).symm, (hB3.cell 2).trans (s_hB3.cell 2).symm, (hB3.cell 3).trans (s_hB3.cell 3).symm⟩
  refine ⟨.inl hS0, ?_⟩
  refine dV 8 rfl rfl hsel (by kernel_rfl) hf rfl (.inl hS0) (fun x => ex_bd (ps := [(0, (.tmp 291)), (1, (.tmp 293))]) (z := [.string ⟨([] : List UInt8).toArray⟩, .string ⟨([] : List UInt8).toArray⟩]) (os := [0, 1]) hf rfl (by kernel_rfl) (by kernel_rfl) (by kernel_rfl) rfl rfl) fun a hf => dl_c 10 (by kernel_rfl) rfl hf rfl rfl rfl (by kernel_rfl) (leadAtR (ls := [l0, l1, l2, l3]) (j := 2) rfl (row_now hL hE hVB)) ?_
  rintro _ w14 ⟨rfl, hx13⟩
  refine ⟨_, rfl, fun a hf => ?_⟩
  replace hB3 := hB3.c0 hx13
  replace hO := hO.t0 hx13
  replace hE := hE.t0 hx13
  clear hS0
  have hS0 : w14.cell? ⟨b2, 0, none⟩ = w1.cell? ⟨b2, 0, none⟩ ∧ w14.cell? ⟨b2, 1, none⟩ = w1.cell? ⟨b2, 1, none⟩ ∧ w14.cell? ⟨b2, 2, none⟩ = w1.cell? ⟨b2, 2, none⟩ ∧ w14.cell? ⟨b2, 3, none⟩ = w1.cell? ⟨b2, 3, none⟩ := ⟨(hB3.cell 0).trans (s_hB3.cell 0).symm, (hB3.cell 1).trans (s_hB3.cell 1).symm, (hB3.cell 2).trans (s_hB3.cell 2).symm, (hB3.cell 3).trans (s_hB3.cell 3).symm⟩
  refine ⟨.inl hS0, ?_⟩
  refine dV 11 rfl rfl hsel (by kernel_rfl) hf rfl (.inl hS0) (fun x => ex_bd (ps := [(0, (.tmp 296)), (1, (.const (.string ⟨#[61]⟩)))]) (z := [.string ⟨([] : List UInt8).toArray⟩, .string ⟨([] : List UInt8).toArray⟩]) (os := [0, 1]) hf rfl (by kernel_rfl) (by kernel_rfl) (by kernel_rfl) rfl rfl) fun a hf => ?_
  obtain ⟨w15, b16, he, hB17, hx18, eb19, lb20⟩ := ef_bslice (P := Try.prog) (ps := [(0, (.tmp 289)), (1, (.tmp 294)), (2, (.tmp 297))]) (m := 3) (sz := 2) (z := [.string ⟨([] : List UInt8).toArray⟩, .string ⟨([] : List UInt8).toArray⟩]) hf rfl Try.underlying54 (by kernel_rfl) (by kernel_rfl) rfl rfl (by kernel_rfl) rfl w14 54
  refine dl_e 12 (by kernel_rfl) rfl hf rfl rfl he fun a hf => ?_
  have ne_b2_b16 : b2 ≠ b16 := ne_new hB3.lt eb19
  have ge_b16 := ge_new hE eb19
  replace hB3 := hB3.c0 hx18
  replace hO := hO.t0 hx18
  replace hE := hE.t0 hx18
  clear eb19 lb20
  clear hS0
  have hS0 : w15.cell? ⟨b2, 0, none⟩ = w1.cell? ⟨b2, 0, none⟩ ∧ w15.cell? ⟨b2, 1, none⟩ = w1.cell? ⟨b2, 1, none⟩ ∧ w15.cell? ⟨b2, 2, none⟩ = w1.cell? ⟨b2, 2, none⟩ ∧ w15.cell? ⟨b2, 3, none⟩ = w1.cell? ⟨b2, 3, none⟩ := ⟨(hB3.cell 0).trans (s_hB3.cell 0).symm, (hB3.cell 1).trans (s_hB3.cell 1).symm, (hB3.cell 2).trans (s_hB3.cell 2).symm, (hB3.cell 3).trans (s_hB3.cell 3).symm⟩
  refine ⟨.inl hS0, ?_⟩
  obtain ⟨v22, w21, he, hO23, hx24, hfr25⟩ := eP (.tmp 286) (.tmp 298) [(l0, [108, 101, 116]), (l1, x), (l2, [61])] hf rfl rfl hO hB17 rfl (by (try simp only [List.length_cons, List.length_nil]); omega) (nlt hBs hE.size) 54
  refine dl_e 13 (by kernel_rfl) rfl hf rfl rfl he fun a hf => ?_
  have hn2 := own_ne hfr25 hn hB3.lt
  have hg2 := own_from hfr25 hg hE.size
  replace hB3 := hB3.chg hx24 (nmO hn)
  replace hE := chg_own hE hx24 hg
  clear hO hn hg hfr25
  have hO := hO23; clear hO23
  have hn := hn2; clear hn2
  have hg := hg2; clear hg2
  obtain ⟨ps26, eps26⟩ : ∃ z, z = ps ++ [(l0, [108, 101, 116]), (l1, x), (l2, [61])] := ⟨_, rfl⟩
  rw [← eps26] at hO
  have lps26 : ps26.length = ps.length + 3 := by rw [eps26]; simp
  clear hS0
  have hS0 : w21.cell? ⟨b2, 0, none⟩ = w1.cell? ⟨b2, 0, none⟩ ∧ w21.cell? ⟨b2, 1, none⟩ = w1.cell? ⟨b2, 1, none⟩ ∧ w21.cell? ⟨b2, 2, none⟩ = w1.cell? ⟨b2, 2, none⟩ ∧ w21.cell? ⟨b2, 3, none⟩ = w1.cell? ⟨b2, 3, none⟩ := ⟨(hB3.cell 0).trans (s_hB3.cell 0).symm, (hB3.cell 1).trans (s_hB3.cell 1).symm, (hB3.cell 2).trans (s_hB3.cell 2).symm, (hB3.cell 3).trans (s_hB3.cell 3).symm⟩
  refine ⟨.inl hS0, ?_⟩
  refine dR [14] hsel (by kernel_rfl) hf rfl rfl (.inl hS0) fun a hf => rN (by kernel_rfl) ?_
  clear hS0 hsel
  refine rR 2 hf rfl fun a hf => ?_
  have s_k00 := (low_now (o := ko) hE hVB hkb lbB).trans (hc0 0 (by decide))
  have s_k01 := (low_now (o := ko + 1) hE hVB hkb lbB).trans (hc0 1 (by decide))
  have s_k02 := (low_now (o := ko + 2) hE hVB hkb lbB).trans (hc0 2 (by decide))
  have s_k03 := (low_now (o := ko + 3) hE hVB hkb lbB).trans (hc0 3 (by decide))
  have hEs := hE
  have s_hB3 := hB3
  refine rD (fun x => x.cell? ⟨b2, 3, none⟩ = w21.cell? ⟨b2, 3, none⟩ ∧ x.cell? ⟨kb, ko, none⟩ = w21.cell? ⟨kb, ko, none⟩ ∧ x.cell? ⟨kb, ko + 1, none⟩ = w21.cell? ⟨kb, ko + 1, none⟩ ∧ x.cell? ⟨kb, ko + 2, none⟩ = w21.cell? ⟨kb, ko + 2, none⟩ ∧ x.cell? ⟨kb, ko + 3, none⟩ = w21.cell? ⟨kb, ko + 3, none⟩ ∧ x.cell? ⟨b2, 0, none⟩ = w21.cell? ⟨b2, 0, none⟩ ∧ x.cell? ⟨b2, 1, none⟩ = w21.cell? ⟨b2, 1, none⟩ ∧ x.cell? ⟨b2, 2, none⟩ = w21.cell? ⟨b2, 2, none⟩) 12 12 rfl (by kernel_rfl) (by kernel_rfl) ?_
  intro w27 hx28 hsel
  replace hB3 := hB3.c0 hx28
  replace hO := hO.t0 hx28
  replace hE := hE.t0 hx28
  have hS0 : w27.cell? ⟨b2, 3, none⟩ = w21.cell? ⟨b2, 3, none⟩ ∧ w27.cell? ⟨kb, ko, none⟩ = w21.cell? ⟨kb, ko, none⟩ ∧ w27.cell? ⟨kb, ko + 1, none⟩ = w21.cell? ⟨kb, ko + 1, none⟩ ∧ w27.cell? ⟨kb, ko + 2, none⟩ = w21.cell? ⟨kb, ko + 2, none⟩ ∧ w27.cell? ⟨kb, ko + 3, none⟩ = w21.cell? ⟨kb, ko + 3, none⟩ ∧ w27.cell? ⟨b2, 0, none⟩ = w21.cell? ⟨b2, 0, none⟩ ∧ w27.cell? ⟨b2, 1, none⟩ = w21.cell? ⟨b2, 1, none⟩ ∧ w27.cell? ⟨b2, 2, none⟩ = w21.cell? ⟨b2, 2, none⟩ := ⟨(hB3.cell 3).trans (s_hB3.cell 3).symm, ((low_now hE hVB hkb lbB).trans (low_now hEs hVB hkb lbB).symm), ((low_now hE hVB hkb lbB).trans (low_now hEs hVB hkb lbB).symm), ((low_now hE hVB hkb lbB).trans (low_now hEs hVB hkb lbB).symm), ((low_now hE hVB hkb lbB).trans (low_now hEs hVB hkb lbB).symm), (hB3.cell 0).trans (s_hB3.cell 0).symm, (hB3.cell 1).trans (s_hB3.cell 1).symm, (hB3.cell 2).trans (s_hB3.cell 2).symm⟩
  refine dR [0, 1] hsel (by kernel_rfl) hf rfl rfl (.inl hS0) fun a hf => dL 2 rfl rfl hsel (by kernel_rfl) hf rfl hS0 (fun x hS => ex_load hf rfl (by kernel_rfl) (hS.1.trans ((s_hB3.cell 3).trans rfl))) fun a hf => dV 3 rfl rfl hsel (by kernel_rfl) hf rfl (.inl hS0) (fun x => ex_index (sz := 4) (k := 0) (r := ko) hf Try.underlying24 (by kernel_rfl) rfl rfl rfl (by simp) rfl) fun a hf => dL 4 rfl rfl hsel (by kernel_rfl) hf rfl hS0 (fun x hS => ex_loadN (cs := [d00, d01, d02, d03]) (m := 4) hf rfl (by kernel_rfl) rfl (four (hS.2.1.trans s_k00) (hS.2.2.1.trans s_k01) (hS.2.2.2.1.trans s_k02) (hS.2.2.2.2.1.trans s_k03))) fun a hf => dL 6 rfl rfl hsel (by kernel_rfl) hf rfl hS0 (fun x hS => ex_loadX4 hf rfl (by kernel_rfl) s_hB3 rfl hS.2.2.2.2.2.1 hS.2.2.2.2.2.2.1 hS.2.2.2.2.2.2.2 hS.1) fun a hf => dl_c 5 (by kernel_rfl) rfl hf rfl rfl rfl (by kernel_rfl) (ih k0 _ Bs _ ps26 _ _ _ _ (hks _ (by simp)).1 (hks _ (by simp)).2 (by omega) hO (tree_now hT0 hE hVB) (nlt hBs hE.size)) ?_
  rintro _ w33 ⟨v30, rfl, hO31, hx29, hfr32⟩
  refine ⟨_, rfl, fun a hf => ?_⟩
  have hn2 := own_ne hfr32 hn hB3.lt
  have hg2 := own_from hfr32 hg hE.size
  replace hB3 := hB3.chg hx29 (nmO hn)
  replace hE := chg_own hE hx29 hg
  clear hO hn hg hfr32
  have hO := hO31; clear hO31
  have hn := hn2; clear hn2
  have hg := hg2; clear hg2
  obtain ⟨ps34, eps34⟩ : ∃ z, z = ps26 ++ pcsT k0 := ⟨_, rfl⟩
  rw [← eps34] at hO
  have lps34 : ps34.length = ps26.length + (pcsT k0).length := by rw [eps34, List.length_append]
  clear hS0
  have hS0 : w33.cell? ⟨b2, 3, none⟩ = w21.cell? ⟨b2, 3, none⟩ ∧ w33.cell? ⟨kb, ko, none⟩ = w21.cell? ⟨kb, ko, none⟩ ∧ w33.cell? ⟨kb, ko + 1, none⟩ = w21.cell? ⟨kb, ko + 1, none⟩ ∧ w33.cell? ⟨kb, ko + 2, none⟩ = w21.cell? ⟨kb, ko + 2, none⟩ ∧ w33.cell? ⟨kb, ko + 3, none⟩ = w21.cell? ⟨kb, ko + 3, none⟩ ∧ w33.cell? ⟨b2, 0, none⟩ = w21.cell? ⟨b2, 0, none⟩ ∧ w33.cell? ⟨b2, 1, none⟩ = w21.cell? ⟨b2, 1, none⟩ ∧ w33.cell? ⟨b2, 2, none⟩ = w21.cell? ⟨b2, 2, none⟩ := ⟨(hB3.cell 3).trans (s_hB3.cell 3).symm, ((low_now hE hVB hkb lbB).trans (low_now hEs hVB hkb lbB).symm), ((low_now hE hVB hkb lbB).trans (low_now hEs hVB hkb lbB).symm), ((low_now hE hVB hkb lbB).trans (low_now hEs hVB hkb lbB).symm), ((low_now hE hVB hkb lbB).trans (low_now hEs hVB hkb lbB).symm), (hB3.cell 0).trans (s_hB3.cell 0).symm, (hB3.cell 1).trans (s_hB3.cell 1).symm, (hB3.cell 2).trans (s_hB3.cell 2).symm⟩
  refine ⟨.inl hS0, ?_⟩
  refine dl_c 7 (by kernel_rfl) rfl hf rfl rfl rfl (by kernel_rfl) (leadAtR (ls := [l0, l1, l2, l3]) (j := 3) rfl (row_now hL hE hVB)) ?_
  rintro _ w36 ⟨rfl, hx35⟩
  refine ⟨_, rfl, fun a hf => ?_⟩
  replace hB3 := hB3.c0 hx35
  replace hO := hO.t0 hx35
  replace hE := hE.t0 hx35
  clear hS0
  have hS0 : w36.cell? ⟨b2, 3, none⟩ = w21.cell? ⟨b2, 3, none⟩ ∧ w36.cell? ⟨kb, ko, none⟩ = w21.cell? ⟨kb, ko, none⟩ ∧ w36.cell? ⟨kb, ko + 1, none⟩ = w21.cell? ⟨kb, ko + 1, none⟩ ∧ w36.cell? ⟨kb, ko + 2, none⟩ = w21.cell? ⟨kb, ko + 2, none⟩ ∧ w36.cell? ⟨kb, ko + 3, none⟩ = w21.cell? ⟨kb, ko + 3, none⟩ ∧ w36.cell? ⟨b2, 0, none⟩ = w21.cell? ⟨b2, 0, none⟩ ∧ w36.cell? ⟨b2, 1, none⟩ = w21.cell? ⟨b2, 1, none⟩ ∧ w36.cell? ⟨b2, 2, none⟩ = w21.cell? ⟨b2, 2, none⟩ := ⟨(hB3.cell 3).trans (s_hB3.cell 3).symm, ((low_now hE hVB hkb lbB).trans (low_now hEs hVB hkb lbB).symm), ((low_now hE hVB hkb lbB).trans (low_now hEs hVB hkb lbB).symm), ((low_now hE hVB hkb lbB).trans (low_now hEs hVB hkb lbB).symm), ((low_now hE hVB hkb lbB).trans (low_now hEs hVB hkb lbB).symm), (hB3.cell 0).trans (s_hB3.cell 0).symm, (hB3.cell 1).trans (s_hB3.cell 1).symm, (hB3.cell 2).trans (s_hB3.cell 2).symm⟩
  refine ⟨.inl hS0, ?_⟩
  refine dV 8 rfl rfl hsel (by kernel_rfl) hf rfl (.inl hS0) (fun x => ex_bd (ps := [(0, (.tmp 307)), (1, (.const (.string ⟨#[105, 110]⟩)))]) (z := [.string ⟨([] : List UInt8).toArray⟩, .string ⟨([] : List UInt8).toArray⟩]) (os := [0, 1]) hf rfl (by kernel_rfl) (by kernel_rfl) (by kernel_rfl) rfl rfl) fun a hf => ?_
  obtain ⟨w37, b38, he, hB39, hx40, eb41, lb42⟩ := ef_bslice (P := Try.prog) (ps := [(0, (.tmp 308))]) (m := 1) (sz := 2) (z := [.string ⟨([] : List UInt8).toArray⟩, .string ⟨([] : List UInt8).toArray⟩]) hf rfl Try.underlying54 (by kernel_rfl) (by kernel_rfl) rfl rfl (by kernel_rfl) rfl w36 54
  refine dl_e 9 (by kernel_rfl) rfl hf rfl rfl he fun a hf => ?_
  have ne_b2_b38 : b2 ≠ b38 := ne_new hB3.lt eb41
  have ge_b38 := ge_new hE eb41
  replace hB3 := hB3.c0 hx40
  replace hO := hO.t0 hx40
  replace hE := hE.t0 hx40
  clear eb41 lb42
  clear hS0
  have hS0 : w37.cell? ⟨b2, 3, none⟩ = w21.cell? ⟨b2, 3, none⟩ ∧ w37.cell? ⟨kb, ko, none⟩ = w21.cell? ⟨kb, ko, none⟩ ∧ w37.cell? ⟨kb, ko + 1, none⟩ = w21.cell? ⟨kb, ko + 1, none⟩ ∧ w37.cell? ⟨kb, ko + 2, none⟩ = w21.cell? ⟨kb, ko + 2, none⟩ ∧ w37.cell? ⟨kb, ko + 3, none⟩ = w21.cell? ⟨kb, ko + 3, none⟩ ∧ w37.cell? ⟨b2, 0, none⟩ = w21.cell? ⟨b2, 0, none⟩ ∧ w37.cell? ⟨b2, 1, none⟩ = w21.cell? ⟨b2, 1, none⟩ ∧ w37.cell? ⟨b2, 2, none⟩ = w21.cell? ⟨b2, 2, none⟩ := ⟨(hB3.cell 3).trans (s_hB3.cell 3).symm, ((low_now hE hVB hkb lbB).trans (low_now hEs hVB hkb lbB).symm), ((low_now hE hVB hkb lbB).trans (low_now hEs hVB hkb lbB).symm), ((low_now hE hVB hkb lbB).trans (low_now hEs hVB hkb lbB).symm), ((low_now hE hVB hkb lbB).trans (low_now hEs hVB hkb lbB).symm), (hB3.cell 0).trans (s_hB3.cell 0).symm, (hB3.cell 1).trans (s_hB3.cell 1).symm, (hB3.cell 2).trans (s_hB3.cell 2).symm⟩
  refine ⟨.inl hS0, ?_⟩
  obtain ⟨v44, w43, he, hO45, hx46, hfr47⟩ := eP (.tmp 305) (.tmp 309) [(l3, [105, 110])] hf rfl rfl hO hB39 rfl (by (try simp only [List.length_cons, List.length_nil]); omega) (nlt hBs hE.size) 54
  refine dl_e 10 (by kernel_rfl) rfl hf rfl rfl he fun a hf => ?_
  have hn2 := own_ne hfr47 hn hB3.lt
  have hg2 := own_from hfr47 hg hE.size
  replace hB3 := hB3.chg hx46 (nmO hn)
  replace hE := chg_own hE hx46 hg
  clear hO hn hg hfr47
  have hO := hO45; clear hO45
  have hn := hn2; clear hn2
  have hg := hg2; clear hg2
  obtain ⟨ps48, eps48⟩ : ∃ z, z = ps34 ++ [(l3, [105, 110])] := ⟨_, rfl⟩
  rw [← eps48] at hO
  have lps48 : ps48.length = ps34.length + 1 := by rw [eps48]; simp
  clear hS0
  have hS0 : w43.cell? ⟨b2, 3, none⟩ = w21.cell? ⟨b2, 3, none⟩ ∧ w43.cell? ⟨kb, ko, none⟩ = w21.cell? ⟨kb, ko, none⟩ ∧ w43.cell? ⟨kb, ko + 1, none⟩ = w21.cell? ⟨kb, ko + 1, none⟩ ∧ w43.cell? ⟨kb, ko + 2, none⟩ = w21.cell? ⟨kb, ko + 2, none⟩ ∧ w43.cell? ⟨kb, ko + 3, none⟩ = w21.cell? ⟨kb, ko + 3, none⟩ ∧ w43.cell? ⟨b2, 0, none⟩ = w21.cell? ⟨b2, 0, none⟩ ∧ w43.cell? ⟨b2, 1, none⟩ = w21.cell? ⟨b2, 1, none⟩ ∧ w43.cell? ⟨b2, 2, none⟩ = w21.cell? ⟨b2, 2, none⟩ := ⟨(hB3.cell 3).trans (s_hB3.cell 3).symm, ((low_now hE hVB hkb lbB).trans (low_now hEs hVB hkb lbB).symm), ((low_now hE hVB hkb lbB).trans (low_now hEs hVB hkb lbB).symm), ((low_now hE hVB hkb lbB).trans (low_now hEs hVB hkb lbB).symm), ((low_now hE hVB hkb lbB).trans (low_now hEs hVB hkb lbB).symm), (hB3.cell 0).trans (s_hB3.cell 0).symm, (hB3.cell 1).trans (s_hB3.cell 1).symm, (hB3.cell 2).trans (s_hB3.cell 2).symm⟩
  refine ⟨.inl hS0, ?_⟩
  refine dR [11] hsel (by kernel_rfl) hf rfl rfl (.inl hS0) fun a hf => rN (by kernel_rfl) ?_
  clear hS0 hsel
  refine rR 5 hf rfl fun a hf => rV hf rfl (ex_loadB hf rfl (by kernel_rfl) hB3 rfl) fun a hf => rV hf rfl (ex_index (sz := 4) (k := 1) (r := ko + 4) hf Try.underlying24 (by kernel_rfl) rfl rfl rfl (by simp) rfl) fun a hf => rV hf rfl (ex_loadN (cs := [d10, d11, d12, d13]) (m := 4) hf rfl (by kernel_rfl) rfl (fun r hr => (low_now hE hVB hkb lbB).trans (hc1 r hr))) fun a hf => rC hf rfl rfl (by kernel_rfl) (ih k1 _ Bs _ ps48 _ _ _ _ (hks _ (by simp)).1 (hks _ (by simp)).2 (by omega) hO (tree_now hT1 hE hVB) (nlt hBs hE.size)) ?_
  rintro _ w53 ⟨v50, rfl, hO51, hx49, hfr52⟩
  refine ⟨_, rfl, fun a hf => ?_⟩
  have hn2 := own_ne hfr52 hn hB3.lt
  have hg2 := own_from hfr52 hg hE.size
  replace hB3 := hB3.chg hx49 (nmO hn)
  replace hE := chg_own hE hx49 hg
  clear hO hn hg hfr52
  have hO := hO51; clear hO51
  have hn := hn2; clear hn2
  have hg := hg2; clear hg2
  obtain ⟨ps54, eps54⟩ : ∃ z, z = ps48 ++ pcsT k1 := ⟨_, rfl⟩
  rw [← eps54] at hO
  have lps54 : ps54.length = ps48.length + (pcsT k1).length := by rw [eps54, List.length_append]
  refine rR 6 hf rfl fun a hf => ?_
  have eq : ps ++ pcsT (.node 20 x [l0, l1, l2, l3] [k0, k1]) = ps54 := by subst eps54; subst eps48; subst eps34; subst eps26; simp [pcsT, pcsTs, nodeC, singleT]
  exact rT (rs := [.tmp 4]) hf rfl ⟨_, _, rfl, rfl, rfl⟩ ⟨_, rfl, eq ▸ hO, hE, fresh_all hg (.inl (own_some hO))⟩
theorem p21 {N : Nat} (ih : PiecesOk N) {w : World} {Bs : Nat} {v0 : Value} {ps : List Pc} {x : List UInt8} {l0 : List UInt8} {k0 k1 : Tree} {cs : List Value} {A B : Option Addr} {m n : Nat} (hks : ∀ t, t ∈ [k0, k1] → tsize t ≤ N ∧ (shapedT t && leadedT t && decide (tbulk t ≤ 1000000000)) = true)
    (hl1 : ps.length + (pcsT (.node 21 x [l0] [k0, k1])).length ≤ 1000000000) (hO : Ow Bs w v0 ps) (hL : RowIn (fun b => b < Bs) w 1 A [l0].length ([l0].map strV)) (hn0 : [k0, k1].length ≤ n) (hn2 : n ≤ maxLen) (hK : KidsAre (fun b => b < Bs) w [k0, k1] cs) (hR : RowIn (fun b => b < Bs) w 4 B [k0, k1].length cs) (hBs : Bs ≤ w.heap.size) :
    Calls Try.prog 64 [v0, .agg #[.int .i64 21, strV x, .slice A [l0].length m, .slice B [k0, k1].length n]].toArray w fun e w' => ∃ v', e = .returned v' ∧ Ow Bs w' v' (ps ++ pcsT (.node 21 x [l0] [k0, k1])) ∧ Chg v0.ownBlock.toList w w' ∧ Fresh w v0 v' := by
  have hq : (pcsT (.node 21 x [l0] [k0, k1])).length = 1 + (pcsT k0).length + (pcsT k1).length := by simp [pcsT, pcsTs, nodeC, singleT] <;> omega
  have hE := Chg.refl v0.ownBlock.toList w
  have hVB : ∀ g, g ∈ v0.ownBlock.toList → Bs ≤ g := fun g h => (hO.ge (by simpa using h)).1
  have hg : ∀ g, v0.ownBlock = some g → g ∈ v0.ownBlock.toList ∨ w.heap.size ≤ g := fun g e => .inl (by simpa using e)
  obtain ⟨kb, ko, rfl, lbB, hkb, _⟩ := hR.2 (by simp)
  obtain ⟨d00, d01, d02, d03, hT0, hc0⟩ := kid_at hK hR rfl (i := 0) (t := k0) rfl
  have on0 := hT0.one
  obtain ⟨d10, d11, d12, d13, hT1, hc1⟩ := kid_at hK hR rfl (i := 1) (t := k1) rfl
  have on1 := hT1.one
  refine rE 365 Try.func64 rfl rfl rfl ?_
  intro a hf
  refine rR 2 hf rfl fun a hf => ?_
  obtain ⟨w1, b2, he, hB3, hx4, eb5, lb6⟩ := ef_box (P := Try.prog) (t := 26) (x := (.tmp 1)) hf rfl rfl w 0
  refine rV hf rfl he fun a hf => ?_
  have ge_b2 := ge_new hE eb5
  have hn : v0.ownBlock ≠ some b2 := fun e => by have := (hO.ge e).2; omega
  replace hO := hO.t0 hx4
  replace hE := hE.t0 hx4
  clear eb5 lb6
  refine rR 6 hf rfl fun a hf => rV hf rfl (ex_loadB hf rfl (by kernel_rfl) hB3 rfl) fun a hf => rV hf rfl (ex_len hf Try.underlying24 rfl) fun a hf => rR 7 hf rfl fun a hf => rV hf rfl (ex_loadB hf rfl (by kernel_rfl) hB3 rfl) fun a hf => rR 123 hf rfl fun a hf => ?_
  have s_k00 := (low_now (o := ko) hE hVB hkb lbB).trans (hc0 0 (by decide))
  have s_k01 := (low_now (o := ko + 1) hE hVB hkb lbB).trans (hc0 1 (by decide))
  have s_k02 := (low_now (o := ko + 2) hE hVB hkb lbB).trans (hc0 2 (by decide))
  have s_k03 := (low_now (o := ko + 3) hE hVB hkb lbB).trans (hc0 3 (by decide))
  have hEs := hE
  have s_hB3 := hB3
  refine rD (fun x => x.cell? ⟨b2, 3, none⟩ = w1.cell? ⟨b2, 3, none⟩ ∧ x.cell? ⟨kb, ko, none⟩ = w1.cell? ⟨kb, ko, none⟩ ∧ x.cell? ⟨kb, ko + 1, none⟩ = w1.cell? ⟨kb, ko + 1, none⟩ ∧ x.cell? ⟨kb, ko + 2, none⟩ = w1.cell? ⟨kb, ko + 2, none⟩ ∧ x.cell? ⟨kb, ko + 3, none⟩ = w1.cell? ⟨kb, ko + 3, none⟩ ∧ x.cell? ⟨b2, 0, none⟩ = w1.cell? ⟨b2, 0, none⟩ ∧ x.cell? ⟨b2, 1, none⟩ = w1.cell? ⟨b2, 1, none⟩ ∧ x.cell? ⟨b2, 2, none⟩ = w1.cell? ⟨b2, 2, none⟩) 14 14 rfl (by kernel_rfl) (by kernel_rfl) ?_
  intro w7 hx8 hsel
  replace hB3 := hB3.c0 hx8
  replace hO := hO.t0 hx8
  replace hE := hE.t0 hx8
  have hS0 : w7.cell? ⟨b2, 3, none⟩ = w1.cell? ⟨b2, 3, none⟩ ∧ w7.cell? ⟨kb, ko, none⟩ = w1.cell? ⟨kb, ko, none⟩ ∧ w7.cell? ⟨kb, ko + 1, none⟩ = w1.cell? ⟨kb, ko + 1, none⟩ ∧ w7.cell? ⟨kb, ko + 2, none⟩ = w1.cell? ⟨kb, ko + 2, none⟩ ∧ w7.cell? ⟨kb, ko + 3, none⟩ = w1.cell? ⟨kb, ko + 3, none⟩ ∧ w7.cell? ⟨b2, 0, none⟩ = w1.cell? ⟨b2, 0, none⟩ ∧ w7.cell? ⟨b2, 1, none⟩ = w1.cell? ⟨b2, 1, none⟩ ∧ w7.cell? ⟨b2, 2, none⟩ = w1.cell? ⟨b2, 2, none⟩ := ⟨(hB3.cell 3).trans (s_hB3.cell 3).symm, ((low_now hE hVB hkb lbB).trans (low_now hEs hVB hkb lbB).symm), ((low_now hE hVB hkb lbB).trans (low_now hEs hVB hkb lbB).symm), ((low_now hE hVB hkb lbB).trans (low_now hEs hVB hkb lbB).symm), ((low_now hE hVB hkb lbB).trans (low_now hEs hVB hkb lbB).symm), (hB3.cell 0).trans (s_hB3.cell 0).symm, (hB3.cell 1).trans (s_hB3.cell 1).symm, (hB3.cell 2).trans (s_hB3.cell 2).symm⟩
  refine dR [0, 1] hsel (by kernel_rfl) hf rfl rfl (.inl hS0) fun a hf => dL 2 rfl rfl hsel (by kernel_rfl) hf rfl hS0 (fun x hS => ex_load hf rfl (by kernel_rfl) (hS.1.trans ((s_hB3.cell 3).trans rfl))) fun a hf => dV 3 rfl rfl hsel (by kernel_rfl) hf rfl (.inl hS0) (fun x => ex_index (sz := 4) (k := 0) (r := ko) hf Try.underlying24 (by kernel_rfl) rfl rfl rfl (by simp) rfl) fun a hf => dL 4 rfl rfl hsel (by kernel_rfl) hf rfl hS0 (fun x hS => ex_loadN (cs := [d00, d01, d02, d03]) (m := 4) hf rfl (by kernel_rfl) rfl (four (hS.2.1.trans s_k00) (hS.2.2.1.trans s_k01) (hS.2.2.2.1.trans s_k02) (hS.2.2.2.2.1.trans s_k03))) fun a hf => dL 6 rfl rfl hsel (by kernel_rfl) hf rfl hS0 (fun x hS => ex_loadX4 hf rfl (by kernel_rfl) s_hB3 rfl hS.2.2.2.2.2.1 hS.2.2.2.2.2.2.1 hS.2.2.2.2.2.2.2 hS.1) fun a hf => dR [8] hsel (by kernel_rfl) hf rfl rfl (.inl hS0) fun a hf => dL 9 rfl rfl hsel (by kernel_rfl) hf rfl hS0 (fun x hS => ex_load hf rfl (by kernel_rfl) (hS.2.2.2.2.2.2.1.trans ((s_hB3.cell 1).trans rfl))) fun a hf => dl_c 5 (by kernel_rfl) rfl hf rfl rfl rfl (by kernel_rfl) (ih k0 _ Bs _ ps _ _ _ _ (hks _ (by simp)).1 (hks _ (by simp)).2 (by omega) hO (tree_now hT0 hE hVB) (nlt hBs hE.size)) ?_
  rintro _ w13 ⟨v10, rfl, hO11, hx9, hfr12⟩
  refine ⟨_, rfl, fun a hf => ?_⟩
  have hn2 := own_ne hfr12 hn hB3.lt
  have hg2 := own_from hfr12 hg hE.size
  replace hB3 := hB3.chg hx9 (nmO hn)
  replace hE := chg_own hE hx9 hg
  clear hO hn hg hfr12
  have hO := hO11; clear hO11
  have hn := hn2; clear hn2
  have hg := hg2; clear hg2
  obtain ⟨ps14, eps14⟩ : ∃ z, z = ps ++ pcsT k0 := ⟨_, rfl⟩
  rw [← eps14] at hO
  have lps14 : ps14.length = ps.length + (pcsT k0).length := by rw [eps14, List.length_append]
  clear hS0
  have hS0 : w13.cell? ⟨b2, 3, none⟩ = w1.cell? ⟨b2, 3, none⟩ ∧ w13.cell? ⟨kb, ko, none⟩ = w1.cell? ⟨kb, ko, none⟩ ∧ w13.cell? ⟨kb, ko + 1, none⟩ = w1.cell? ⟨kb, ko + 1, none⟩ ∧ w13.cell? ⟨kb, ko + 2, none⟩ = w1.cell? ⟨kb, ko + 2, none⟩ ∧ w13.cell? ⟨kb, ko + 3, none⟩ = w1.cell? ⟨kb, ko + 3, none⟩ ∧ w13.cell? ⟨b2, 0, none⟩ = w1.cell? ⟨b2, 0, none⟩ ∧ w13.cell? ⟨b2, 1, none⟩ = w1.cell? ⟨b2, 1, none⟩ ∧ w13.cell? ⟨b2, 2, none⟩ = w1.cell? ⟨b2, 2, none⟩ := ⟨(hB3.cell 3).trans (s_hB3.cell 3).symm, ((low_now hE hVB hkb lbB).trans (low_now hEs hVB hkb lbB).symm), ((low_now hE hVB hkb lbB).trans (low_now hEs hVB hkb lbB).symm), ((low_now hE hVB hkb lbB).trans (low_now hEs hVB hkb lbB).symm), ((low_now hE hVB hkb lbB).trans (low_now hEs hVB hkb lbB).symm), (hB3.cell 0).trans (s_hB3.cell 0).symm, (hB3.cell 1).trans (s_hB3.cell 1).symm, (hB3.cell 2).trans (s_hB3.cell 2).symm⟩
  refine ⟨.inl hS0, ?_⟩
  refine dl_c 7 (by kernel_rfl) rfl hf rfl rfl rfl (by kernel_rfl) (leadAtR (ls := [l0]) (j := 0) rfl (row_now hL hE hVB)) ?_
  rintro _ w16 ⟨rfl, hx15⟩
  refine ⟨_, rfl, fun a hf => ?_⟩
  replace hB3 := hB3.c0 hx15
  replace hO := hO.t0 hx15
  replace hE := hE.t0 hx15
  clear hS0
  have hS0 : w16.cell? ⟨b2, 3, none⟩ = w1.cell? ⟨b2, 3, none⟩ ∧ w16.cell? ⟨kb, ko, none⟩ = w1.cell? ⟨kb, ko, none⟩ ∧ w16.cell? ⟨kb, ko + 1, none⟩ = w1.cell? ⟨kb, ko + 1, none⟩ ∧ w16.cell? ⟨kb, ko + 2, none⟩ = w1.cell? ⟨kb, ko + 2, none⟩ ∧ w16.cell? ⟨kb, ko + 3, none⟩ = w1.cell? ⟨kb, ko + 3, none⟩ ∧ w16.cell? ⟨b2, 0, none⟩ = w1.cell? ⟨b2, 0, none⟩ ∧ w16.cell? ⟨b2, 1, none⟩ = w1.cell? ⟨b2, 1, none⟩ ∧ w16.cell? ⟨b2, 2, none⟩ = w1.cell? ⟨b2, 2, none⟩ := ⟨(hB3.cell 3).trans (s_hB3.cell 3).symm, ((low_now hE hVB hkb lbB).trans (low_now hEs hVB hkb lbB).symm), ((low_now hE hVB hkb lbB).trans (low_now hEs hVB hkb lbB).symm), ((low_now hE hVB hkb lbB).trans (low_now hEs hVB hkb lbB).symm), ((low_now hE hVB hkb lbB).trans (low_now hEs hVB hkb lbB).symm), (hB3.cell 0).trans (s_hB3.cell 0).symm, (hB3.cell 1).trans (s_hB3.cell 1).symm, (hB3.cell 2).trans (s_hB3.cell 2).symm⟩
  refine ⟨.inl hS0, ?_⟩
  refine dV 10 rfl rfl hsel (by kernel_rfl) hf rfl (.inl hS0) (fun x => ex_bd (ps := [(0, (.tmp 326)), (1, (.tmp 328))]) (z := [.string ⟨([] : List UInt8).toArray⟩, .string ⟨([] : List UInt8).toArray⟩]) (os := [0, 1]) hf rfl (by kernel_rfl) (by kernel_rfl) (by kernel_rfl) rfl rfl) fun a hf => ?_
  obtain ⟨w17, b18, he, hB19, hx20, eb21, lb22⟩ := ef_bslice (P := Try.prog) (ps := [(0, (.tmp 329))]) (m := 1) (sz := 2) (z := [.string ⟨([] : List UInt8).toArray⟩, .string ⟨([] : List UInt8).toArray⟩]) hf rfl Try.underlying54 (by kernel_rfl) (by kernel_rfl) rfl rfl (by kernel_rfl) rfl w16 54
  refine dl_e 11 (by kernel_rfl) rfl hf rfl rfl he fun a hf => ?_
  have ne_b2_b18 : b2 ≠ b18 := ne_new hB3.lt eb21
  have ge_b18 := ge_new hE eb21
  replace hB3 := hB3.c0 hx20
  replace hO := hO.t0 hx20
  replace hE := hE.t0 hx20
  clear eb21 lb22
  clear hS0
  have hS0 : w17.cell? ⟨b2, 3, none⟩ = w1.cell? ⟨b2, 3, none⟩ ∧ w17.cell? ⟨kb, ko, none⟩ = w1.cell? ⟨kb, ko, none⟩ ∧ w17.cell? ⟨kb, ko + 1, none⟩ = w1.cell? ⟨kb, ko + 1, none⟩ ∧ w17.cell? ⟨kb, ko + 2, none⟩ = w1.cell? ⟨kb, ko + 2, none⟩ ∧ w17.cell? ⟨kb, ko + 3, none⟩ = w1.cell? ⟨kb, ko + 3, none⟩ ∧ w17.cell? ⟨b2, 0, none⟩ = w1.cell? ⟨b2, 0, none⟩ ∧ w17.cell? ⟨b2, 1, none⟩ = w1.cell? ⟨b2, 1, none⟩ ∧ w17.cell? ⟨b2, 2, none⟩ = w1.cell? ⟨b2, 2, none⟩ := ⟨(hB3.cell 3).trans (s_hB3.cell 3).symm, ((low_now hE hVB hkb lbB).trans (low_now hEs hVB hkb lbB).symm), ((low_now hE hVB hkb lbB).trans (low_now hEs hVB hkb lbB).symm), ((low_now hE hVB hkb lbB).trans (low_now hEs hVB hkb lbB).symm), ((low_now hE hVB hkb lbB).trans (low_now hEs hVB hkb lbB).symm), (hB3.cell 0).trans (s_hB3.cell 0).symm, (hB3.cell 1).trans (s_hB3.cell 1).symm, (hB3.cell 2).trans (s_hB3.cell 2).symm⟩
  refine ⟨.inl hS0, ?_⟩
  obtain ⟨v24, w23, he, hO25, hx26, hfr27⟩ := eP (.tmp 324) (.tmp 330) [(l0, x)] hf rfl rfl hO hB19 rfl (by (try simp only [List.length_cons, List.length_nil]); omega) (nlt hBs hE.size) 54
  refine dl_e 12 (by kernel_rfl) rfl hf rfl rfl he fun a hf => ?_
  have hn2 := own_ne hfr27 hn hB3.lt
  have hg2 := own_from hfr27 hg hE.size
  replace hB3 := hB3.chg hx26 (nmO hn)
  replace hE := chg_own hE hx26 hg
  clear hO hn hg hfr27
  have hO := hO25; clear hO25
  have hn := hn2; clear hn2
  have hg := hg2; clear hg2
  obtain ⟨ps28, eps28⟩ : ∃ z, z = ps14 ++ [(l0, x)] := ⟨_, rfl⟩
  rw [← eps28] at hO
  have lps28 : ps28.length = ps14.length + 1 := by rw [eps28]; simp
  clear hS0
  have hS0 : w23.cell? ⟨b2, 3, none⟩ = w1.cell? ⟨b2, 3, none⟩ ∧ w23.cell? ⟨kb, ko, none⟩ = w1.cell? ⟨kb, ko, none⟩ ∧ w23.cell? ⟨kb, ko + 1, none⟩ = w1.cell? ⟨kb, ko + 1, none⟩ ∧ w23.cell? ⟨kb, ko + 2, none⟩ = w1.cell? ⟨kb, ko + 2, none⟩ ∧ w23.cell? ⟨kb, ko + 3, none⟩ = w1.cell? ⟨kb, ko + 3, none⟩ ∧ w23.cell? ⟨b2, 0, none⟩ = w1.cell? ⟨b2, 0, none⟩ ∧ w23.cell? ⟨b2, 1, none⟩ = w1.cell? ⟨b2, 1, none⟩ ∧ w23.cell? ⟨b2, 2, none⟩ = w1.cell? ⟨b2, 2, none⟩ := ⟨(hB3.cell 3).trans (s_hB3.cell 3).symm, ((low_now hE hVB hkb lbB).trans (low_now hEs hVB hkb lbB).symm), ((low_now hE hVB hkb lbB).trans (low_now hEs hVB hkb lbB).symm), ((low_now hE hVB hkb lbB).trans (low_now hEs hVB hkb lbB).symm), ((low_now hE hVB hkb lbB).trans (low_now hEs hVB hkb lbB).symm), (hB3.cell 0).trans (s_hB3.cell 0).symm, (hB3.cell 1).trans (s_hB3.cell 1).symm, (hB3.cell 2).trans (s_hB3.cell 2).symm⟩
  refine ⟨.inl hS0, ?_⟩
  refine dR [13] hsel (by kernel_rfl) hf rfl rfl (.inl hS0) fun a hf => rN (by kernel_rfl) ?_
  clear hS0 hsel
  refine rR 5 hf rfl fun a hf => rV hf rfl (ex_loadB hf rfl (by kernel_rfl) hB3 rfl) fun a hf => rV hf rfl (ex_index (sz := 4) (k := 1) (r := ko + 4) hf Try.underlying24 (by kernel_rfl) rfl rfl rfl (by simp) rfl) fun a hf => rV hf rfl (ex_loadN (cs := [d10, d11, d12, d13]) (m := 4) hf rfl (by kernel_rfl) rfl (fun r hr => (low_now hE hVB hkb lbB).trans (hc1 r hr))) fun a hf => rC hf rfl rfl (by kernel_rfl) (ih k1 _ Bs _ ps28 _ _ _ _ (hks _ (by simp)).1 (hks _ (by simp)).2 (by omega) hO (tree_now hT1 hE hVB) (nlt hBs hE.size)) ?_
  rintro _ w33 ⟨v30, rfl, hO31, hx29, hfr32⟩
  refine ⟨_, rfl, fun a hf => ?_⟩
  have hn2 := own_ne hfr32 hn hB3.lt
  have hg2 := own_from hfr32 hg hE.size
  replace hB3 := hB3.chg hx29 (nmO hn)
  replace hE := chg_own hE hx29 hg
  clear hO hn hg hfr32
  have hO := hO31; clear hO31
  have hn := hn2; clear hn2
  have hg := hg2; clear hg2
  obtain ⟨ps34, eps34⟩ : ∃ z, z = ps28 ++ pcsT k1 := ⟨_, rfl⟩
  rw [← eps34] at hO
  have lps34 : ps34.length = ps28.length + (pcsT k1).length := by rw [eps34, List.length_append]
  refine rR 6 hf rfl fun a hf => ?_
  have eq : ps ++ pcsT (.node 21 x [l0] [k0, k1]) = ps34 := by subst eps34; subst eps28; subst eps14; simp [pcsT, pcsTs, nodeC, singleT]
  exact rT (rs := [.tmp 4]) hf rfl ⟨_, _, rfl, rfl, rfl⟩ ⟨_, rfl, eq ▸ hO, hE, fresh_all hg (.inl (own_some hO))⟩
theorem p22 {N : Nat} (ih : PiecesOk N) {w : World} {Bs : Nat} {v0 : Value} {ps : List Pc} {x : List UInt8} {l0 l1 : List UInt8} {k0 : Tree} {cs : List Value} {A B : Option Addr} {m n : Nat} (hks : ∀ t, t ∈ [k0] → tsize t ≤ N ∧ (shapedT t && leadedT t && decide (tbulk t ≤ 1000000000)) = true)
    (hl1 : ps.length + (pcsT (.node 22 x [l0, l1] [k0])).length ≤ 1000000000) (hO : Ow Bs w v0 ps) (hL : RowIn (fun b => b < Bs) w 1 A [l0, l1].length ([l0, l1].map strV)) (hn0 : [k0].length ≤ n) (hn2 : n ≤ maxLen) (hK : KidsAre (fun b => b < Bs) w [k0] cs) (hR : RowIn (fun b => b < Bs) w 4 B [k0].length cs) (hBs : Bs ≤ w.heap.size) :
    Calls Try.prog 64 [v0, .agg #[.int .i64 22, strV x, .slice A [l0, l1].length m, .slice B [k0].length n]].toArray w fun e w' => ∃ v', e = .returned v' ∧ Ow Bs w' v' (ps ++ pcsT (.node 22 x [l0, l1] [k0])) ∧ Chg v0.ownBlock.toList w w' ∧ Fresh w v0 v' := by
  have hq : (pcsT (.node 22 x [l0, l1] [k0])).length = 2 + (pcsT k0).length := by simp [pcsT, pcsTs, nodeC, singleT] <;> omega
  have hE := Chg.refl v0.ownBlock.toList w
  have hVB : ∀ g, g ∈ v0.ownBlock.toList → Bs ≤ g := fun g h => (hO.ge (by simpa using h)).1
  have hg : ∀ g, v0.ownBlock = some g → g ∈ v0.ownBlock.toList ∨ w.heap.size ≤ g := fun g e => .inl (by simpa using e)
  obtain ⟨kb, ko, rfl, lbB, hkb, _⟩ := hR.2 (by simp)
  obtain ⟨d00, d01, d02, d03, hT0, hc0⟩ := kid_at hK hR rfl (i := 0) (t := k0) rfl
  have on0 := hT0.one
  refine rE 365 Try.func64 rfl rfl rfl ?_
  intro a hf
  refine rR 2 hf rfl fun a hf => ?_
  obtain ⟨w1, b2, he, hB3, hx4, eb5, lb6⟩ := ef_box (P := Try.prog) (t := 26) (x := (.tmp 1)) hf rfl rfl w 0
  refine rV hf rfl he fun a hf => ?_
  have ge_b2 := ge_new hE eb5
  have hn : v0.ownBlock ≠ some b2 := fun e => by have := (hO.ge e).2; omega
  replace hO := hO.t0 hx4
  replace hE := hE.t0 hx4
  clear eb5 lb6
  refine rR 6 hf rfl fun a hf => rV hf rfl (ex_loadB hf rfl (by kernel_rfl) hB3 rfl) fun a hf => rV hf rfl (ex_len hf Try.underlying24 rfl) fun a hf => rR 7 hf rfl fun a hf => rV hf rfl (ex_loadB hf rfl (by kernel_rfl) hB3 rfl) fun a hf => rR 132 hf rfl fun a hf => rV hf rfl (ex_loadBN (m := 4) hf rfl (by kernel_rfl) hB3 rfl) fun a hf => rC hf rfl rfl (by kernel_rfl) (leadAtR (ls := [l0, l1]) (j := 0) rfl (row_now hL hE hVB)) ?_
  rintro _ w8 ⟨rfl, hx7⟩
  refine ⟨_, rfl, fun a hf => ?_⟩
  replace hB3 := hB3.c0 hx7
  replace hO := hO.t0 hx7
  replace hE := hE.t0 hx7
  refine rV hf rfl (ex_bd (ps := [(0, (.tmp 342)), (1, (.const (.string ⟨#[40]⟩)))]) (z := [.string ⟨([] : List UInt8).toArray⟩, .string ⟨([] : List UInt8).toArray⟩]) (os := [0, 1]) hf rfl (by kernel_rfl) (by kernel_rfl) (by kernel_rfl) rfl rfl) fun a hf => ?_
  obtain ⟨w9, b10, he, hB11, hx12, eb13, lb14⟩ := ef_bslice (P := Try.prog) (ps := [(0, (.tmp 343))]) (m := 1) (sz := 2) (z := [.string ⟨([] : List UInt8).toArray⟩, .string ⟨([] : List UInt8).toArray⟩]) hf rfl Try.underlying54 (by kernel_rfl) (by kernel_rfl) rfl rfl (by kernel_rfl) rfl w8 54
  refine rV hf rfl he fun a hf => ?_
  have ne_b2_b10 : b2 ≠ b10 := ne_new hB3.lt eb13
  have ge_b10 := ge_new hE eb13
  replace hB3 := hB3.c0 hx12
  replace hO := hO.t0 hx12
  replace hE := hE.t0 hx12
  clear eb13 lb14
  obtain ⟨v16, w15, he, hO17, hx18, hfr19⟩ := eP (.tmp 340) (.tmp 344) [(l0, [40])] hf rfl rfl hO hB11 rfl (by (try simp only [List.length_cons, List.length_nil]); omega) (nlt hBs hE.size) 54
  refine rV hf rfl he fun a hf => ?_
  have hn2 := own_ne hfr19 hn hB3.lt
  have hg2 := own_from hfr19 hg hE.size
  replace hB3 := hB3.chg hx18 (nmO hn)
  replace hE := chg_own hE hx18 hg
  clear hO hn hg hfr19
  have hO := hO17; clear hO17
  have hn := hn2; clear hn2
  have hg := hg2; clear hg2
  obtain ⟨ps20, eps20⟩ : ∃ z, z = ps ++ [(l0, [40])] := ⟨_, rfl⟩
  rw [← eps20] at hO
  have lps20 : ps20.length = ps.length + 1 := by rw [eps20]; simp
  refine rR 4 hf rfl fun a hf => ?_
  have s_k00 := (low_now (o := ko) hE hVB hkb lbB).trans (hc0 0 (by decide))
  have s_k01 := (low_now (o := ko + 1) hE hVB hkb lbB).trans (hc0 1 (by decide))
  have s_k02 := (low_now (o := ko + 2) hE hVB hkb lbB).trans (hc0 2 (by decide))
  have s_k03 := (low_now (o := ko + 3) hE hVB hkb lbB).trans (hc0 3 (by decide))
  have hEs := hE
  have s_hB3 := hB3
  refine rD (fun x => x.cell? ⟨b2, 3, none⟩ = w15.cell? ⟨b2, 3, none⟩ ∧ x.cell? ⟨kb, ko, none⟩ = w15.cell? ⟨kb, ko, none⟩ ∧ x.cell? ⟨kb, ko + 1, none⟩ = w15.cell? ⟨kb, ko + 1, none⟩ ∧ x.cell? ⟨kb, ko + 2, none⟩ = w15.cell? ⟨kb, ko + 2, none⟩ ∧ x.cell? ⟨kb, ko + 3, none⟩ = w15.cell? ⟨kb, ko + 3, none⟩ ∧ x.cell? ⟨b2, 0, none⟩ = w15.cell? ⟨b2, 0, none⟩ ∧ x.cell? ⟨b2, 1, none⟩ = w15.cell? ⟨b2, 1, none⟩ ∧ x.cell? ⟨b2, 2, none⟩ = w15.cell? ⟨b2, 2, none⟩) 12 12 rfl (by kernel_rfl) (by kernel_rfl) ?_
  intro w21 hx22 hsel
  replace hB3 := hB3.c0 hx22
  replace hO := hO.t0 hx22
  replace hE := hE.t0 hx22
  have hS0 : w21.cell? ⟨b2, 3, none⟩ = w15.cell? ⟨b2, 3, none⟩ ∧ w21.cell? ⟨kb, ko, none⟩ = w15.cell? ⟨kb, ko, none⟩ ∧ w21.cell? ⟨kb, ko + 1, none⟩ = w15.cell? ⟨kb, ko + 1, none⟩ ∧ w21.cell? ⟨kb, ko + 2, none⟩ = w15.cell? ⟨kb, ko + 2, none⟩ ∧ w21.cell? ⟨kb, ko + 3, none⟩ = w15.cell? ⟨kb, ko + 3, none⟩ ∧ w21.cell? ⟨b2, 0, none⟩ = w15.cell? ⟨b2, 0, none⟩ ∧ w21.cell? ⟨b2, 1, none⟩ = w15.cell? ⟨b2, 1, none⟩ ∧ w21.cell? ⟨b2, 2, none⟩ = w15.cell? ⟨b2, 2, none⟩ := ⟨(hB3.cell 3).trans (s_hB3.cell 3).symm, ((low_now hE hVB hkb lbB).trans (low_now hEs hVB hkb lbB).symm), ((low_now hE hVB hkb lbB).trans (low_now hEs hVB hkb lbB).symm), ((low_now hE hVB hkb lbB).trans (low_now hEs hVB hkb lbB).symm), ((low_now hE hVB hkb lbB).trans (low_now hEs hVB hkb lbB).symm), (hB3.cell 0).trans (s_hB3.cell 0).symm, (hB3.cell 1).trans (s_hB3.cell 1).symm, (hB3.cell 2).trans (s_hB3.cell 2).symm⟩
  refine dR [0, 1] hsel (by kernel_rfl) hf rfl rfl (.inl hS0) fun a hf => dL 2 rfl rfl hsel (by kernel_rfl) hf rfl hS0 (fun x hS => ex_load hf rfl (by kernel_rfl) (hS.1.trans ((s_hB3.cell 3).trans rfl))) fun a hf => dV 3 rfl rfl hsel (by kernel_rfl) hf rfl (.inl hS0) (fun x => ex_index (sz := 4) (k := 0) (r := ko) hf Try.underlying24 (by kernel_rfl) rfl rfl rfl (by simp) rfl) fun a hf => dL 4 rfl rfl hsel (by kernel_rfl) hf rfl hS0 (fun x hS => ex_loadN (cs := [d00, d01, d02, d03]) (m := 4) hf rfl (by kernel_rfl) rfl (four (hS.2.1.trans s_k00) (hS.2.2.1.trans s_k01) (hS.2.2.2.1.trans s_k02) (hS.2.2.2.2.1.trans s_k03))) fun a hf => dL 6 rfl rfl hsel (by kernel_rfl) hf rfl hS0 (fun x hS => ex_loadX4 hf rfl (by kernel_rfl) s_hB3 rfl hS.2.2.2.2.2.1 hS.2.2.2.2.2.2.1 hS.2.2.2.2.2.2.2 hS.1) fun a hf => dl_c 5 (by kernel_rfl) rfl hf rfl rfl rfl (by kernel_rfl) (ih k0 _ Bs _ ps20 _ _ _ _ (hks _ (by simp)).1 (hks _ (by simp)).2 (by omega) hO (tree_now hT0 hE hVB) (nlt hBs hE.size)) ?_
  rintro _ w27 ⟨v24, rfl, hO25, hx23, hfr26⟩
  refine ⟨_, rfl, fun a hf => ?_⟩
  have hn2 := own_ne hfr26 hn hB3.lt
  have hg2 := own_from hfr26 hg hE.size
  replace hB3 := hB3.chg hx23 (nmO hn)
  replace hE := chg_own hE hx23 hg
  clear hO hn hg hfr26
  have hO := hO25; clear hO25
  have hn := hn2; clear hn2
  have hg := hg2; clear hg2
  obtain ⟨ps28, eps28⟩ : ∃ z, z = ps20 ++ pcsT k0 := ⟨_, rfl⟩
  rw [← eps28] at hO
  have lps28 : ps28.length = ps20.length + (pcsT k0).length := by rw [eps28, List.length_append]
  clear hS0
  have hS0 : w27.cell? ⟨b2, 3, none⟩ = w15.cell? ⟨b2, 3, none⟩ ∧ w27.cell? ⟨kb, ko, none⟩ = w15.cell? ⟨kb, ko, none⟩ ∧ w27.cell? ⟨kb, ko + 1, none⟩ = w15.cell? ⟨kb, ko + 1, none⟩ ∧ w27.cell? ⟨kb, ko + 2, none⟩ = w15.cell? ⟨kb, ko + 2, none⟩ ∧ w27.cell? ⟨kb, ko + 3, none⟩ = w15.cell? ⟨kb, ko + 3, none⟩ ∧ w27.cell? ⟨b2, 0, none⟩ = w15.cell? ⟨b2, 0, none⟩ ∧ w27.cell? ⟨b2, 1, none⟩ = w15.cell? ⟨b2, 1, none⟩ ∧ w27.cell? ⟨b2, 2, none⟩ = w15.cell? ⟨b2, 2, none⟩ := ⟨(hB3.cell 3).trans (s_hB3.cell 3).symm, ((low_now hE hVB hkb lbB).trans (low_now hEs hVB hkb lbB).symm), ((low_now hE hVB hkb lbB).trans (low_now hEs hVB hkb lbB).symm), ((low_now hE hVB hkb lbB).trans (low_now hEs hVB hkb lbB).symm), ((low_now hE hVB hkb lbB).trans (low_now hEs hVB hkb lbB).symm), (hB3.cell 0).trans (s_hB3.cell 0).symm, (hB3.cell 1).trans (s_hB3.cell 1).symm, (hB3.cell 2).trans (s_hB3.cell 2).symm⟩
  refine ⟨.inl hS0, ?_⟩
  refine dl_c 7 (by kernel_rfl) rfl hf rfl rfl rfl (by kernel_rfl) (leadAtR (ls := [l0, l1]) (j := 1) rfl (row_now hL hE hVB)) ?_
  rintro _ w30 ⟨rfl, hx29⟩
  refine ⟨_, rfl, fun a hf => ?_⟩
  replace hB3 := hB3.c0 hx29
  replace hO := hO.t0 hx29
  replace hE := hE.t0 hx29
  clear hS0
  have hS0 : w30.cell? ⟨b2, 3, none⟩ = w15.cell? ⟨b2, 3, none⟩ ∧ w30.cell? ⟨kb, ko, none⟩ = w15.cell? ⟨kb, ko, none⟩ ∧ w30.cell? ⟨kb, ko + 1, none⟩ = w15.cell? ⟨kb, ko + 1, none⟩ ∧ w30.cell? ⟨kb, ko + 2, none⟩ = w15.cell? ⟨kb, ko + 2, none⟩ ∧ w30.cell? ⟨kb, ko + 3, none⟩ = w15.cell? ⟨kb, ko + 3, none⟩ ∧ w30.cell? ⟨b2, 0, none⟩ = w15.cell? ⟨b2, 0, none⟩ ∧ w30.cell? ⟨b2, 1, none⟩ = w15.cell? ⟨b2, 1, none⟩ ∧ w30.cell? ⟨b2, 2, none⟩ = w15.cell? ⟨b2, 2, none⟩ := ⟨(hB3.cell 3).trans (s_hB3.cell 3).symm, ((low_now hE hVB hkb lbB).trans (low_now hEs hVB hkb lbB).symm), ((low_now hE hVB hkb lbB).trans (low_now hEs hVB hkb lbB).symm), ((low_now hE hVB hkb lbB).trans (low_now hEs hVB hkb lbB).symm), ((low_now hE hVB hkb lbB).trans (low_now hEs hVB hkb lbB).symm), (hB3.cell 0).trans (s_hB3.cell 0).symm, (hB3.cell 1).trans (s_hB3.cell 1).symm, (hB3.cell 2).trans (s_hB3.cell 2).symm⟩
  refine ⟨.inl hS0, ?_⟩
  refine dV 8 rfl rfl hsel (by kernel_rfl) hf rfl (.inl hS0) (fun x => ex_bd (ps := [(0, (.tmp 353)), (1, (.const (.string ⟨#[41]⟩)))]) (z := [.string ⟨([] : List UInt8).toArray⟩, .string ⟨([] : List UInt8).toArray⟩]) (os := [0, 1]) hf rfl (by kernel_rfl) (by kernel_rfl) (by kernel_rfl) rfl rfl) fun a hf => ?_
  obtain ⟨w31, b32, he, hB33, hx34, eb35, lb36⟩ := ef_bslice (P := Try.prog) (ps := [(0, (.tmp 354))]) (m := 1) (sz := 2) (z := [.string ⟨([] : List UInt8).toArray⟩, .string ⟨([] : List UInt8).toArray⟩]) hf rfl Try.underlying54 (by kernel_rfl) (by kernel_rfl) rfl rfl (by kernel_rfl) rfl w30 54
  refine dl_e 9 (by kernel_rfl) rfl hf rfl rfl he fun a hf => ?_
  have ne_b2_b32 : b2 ≠ b32 := ne_new hB3.lt eb35
  have ge_b32 := ge_new hE eb35
  replace hB3 := hB3.c0 hx34
  replace hO := hO.t0 hx34
  replace hE := hE.t0 hx34
  clear eb35 lb36
  clear hS0
  have hS0 : w31.cell? ⟨b2, 3, none⟩ = w15.cell? ⟨b2, 3, none⟩ ∧ w31.cell? ⟨kb, ko, none⟩ = w15.cell? ⟨kb, ko, none⟩ ∧ w31.cell? ⟨kb, ko + 1, none⟩ = w15.cell? ⟨kb, ko + 1, none⟩ ∧ w31.cell? ⟨kb, ko + 2, none⟩ = w15.cell? ⟨kb, ko + 2, none⟩ ∧ w31.cell? ⟨kb, ko + 3, none⟩ = w15.cell? ⟨kb, ko + 3, none⟩ ∧ w31.cell? ⟨b2, 0, none⟩ = w15.cell? ⟨b2, 0, none⟩ ∧ w31.cell? ⟨b2, 1, none⟩ = w15.cell? ⟨b2, 1, none⟩ ∧ w31.cell? ⟨b2, 2, none⟩ = w15.cell? ⟨b2, 2, none⟩ := ⟨(hB3.cell 3).trans (s_hB3.cell 3).symm, ((low_now hE hVB hkb lbB).trans (low_now hEs hVB hkb lbB).symm), ((low_now hE hVB hkb lbB).trans (low_now hEs hVB hkb lbB).symm), ((low_now hE hVB hkb lbB).trans (low_now hEs hVB hkb lbB).symm), ((low_now hE hVB hkb lbB).trans (low_now hEs hVB hkb lbB).symm), (hB3.cell 0).trans (s_hB3.cell 0).symm, (hB3.cell 1).trans (s_hB3.cell 1).symm, (hB3.cell 2).trans (s_hB3.cell 2).symm⟩
  refine ⟨.inl hS0, ?_⟩
  obtain ⟨v38, w37, he, hO39, hx40, hfr41⟩ := eP (.tmp 351) (.tmp 355) [(l1, [41])] hf rfl rfl hO hB33 rfl (by (try simp only [List.length_cons, List.length_nil]); omega) (nlt hBs hE.size) 54
  refine dl_e 10 (by kernel_rfl) rfl hf rfl rfl he fun a hf => ?_
  have hn2 := own_ne hfr41 hn hB3.lt
  have hg2 := own_from hfr41 hg hE.size
  replace hB3 := hB3.chg hx40 (nmO hn)
  replace hE := chg_own hE hx40 hg
  clear hO hn hg hfr41
  have hO := hO39; clear hO39
  have hn := hn2; clear hn2
  have hg := hg2; clear hg2
  obtain ⟨ps42, eps42⟩ : ∃ z, z = ps28 ++ [(l1, [41])] := ⟨_, rfl⟩
  rw [← eps42] at hO
  have lps42 : ps42.length = ps28.length + 1 := by rw [eps42]; simp
  clear hS0
  have hS0 : w37.cell? ⟨b2, 3, none⟩ = w15.cell? ⟨b2, 3, none⟩ ∧ w37.cell? ⟨kb, ko, none⟩ = w15.cell? ⟨kb, ko, none⟩ ∧ w37.cell? ⟨kb, ko + 1, none⟩ = w15.cell? ⟨kb, ko + 1, none⟩ ∧ w37.cell? ⟨kb, ko + 2, none⟩ = w15.cell? ⟨kb, ko + 2, none⟩ ∧ w37.cell? ⟨kb, ko + 3, none⟩ = w15.cell? ⟨kb, ko + 3, none⟩ ∧ w37.cell? ⟨b2, 0, none⟩ = w15.cell? ⟨b2, 0, none⟩ ∧ w37.cell? ⟨b2, 1, none⟩ = w15.cell? ⟨b2, 1, none⟩ ∧ w37.cell? ⟨b2, 2, none⟩ = w15.cell? ⟨b2, 2, none⟩ := ⟨(hB3.cell 3).trans (s_hB3.cell 3).symm, ((low_now hE hVB hkb lbB).trans (low_now hEs hVB hkb lbB).symm), ((low_now hE hVB hkb lbB).trans (low_now hEs hVB hkb lbB).symm), ((low_now hE hVB hkb lbB).trans (low_now hEs hVB hkb lbB).symm), ((low_now hE hVB hkb lbB).trans (low_now hEs hVB hkb lbB).symm), (hB3.cell 0).trans (s_hB3.cell 0).symm, (hB3.cell 1).trans (s_hB3.cell 1).symm, (hB3.cell 2).trans (s_hB3.cell 2).symm⟩
  refine ⟨.inl hS0, ?_⟩
  refine dR [11] hsel (by kernel_rfl) hf rfl rfl (.inl hS0) fun a hf => rN (by kernel_rfl) ?_
  clear hS0 hsel
  refine rR 4 hf rfl fun a hf => ?_
  have eq : ps ++ pcsT (.node 22 x [l0, l1] [k0]) = ps42 := by subst eps42; subst eps28; subst eps20; simp [pcsT, pcsTs, nodeC, singleT]
  exact rT (rs := [.tmp 4]) hf rfl ⟨_, _, rfl, rfl, rfl⟩ ⟨_, rfl, eq ▸ hO, hE, fresh_all hg (.inl (own_some hO))⟩
theorem p17 {N : Nat} (ih : PiecesOk N) {w : World} {Bs : Nat} {v0 : Value} {ps : List Pc} {x : List UInt8} {k0 : Tree} {cs : List Value} {A B : Option Addr} {m n : Nat} (hks : ∀ t, t ∈ [k0] → tsize t ≤ N ∧ (shapedT t && leadedT t && decide (tbulk t ≤ 1000000000)) = true)
    (hl1 : ps.length + (pcsT (.node 17 x ([] : List (List UInt8)) [k0])).length ≤ 1000000000) (hO : Ow Bs w v0 ps) (hL : RowIn (fun b => b < Bs) w 1 A ([] : List (List UInt8)).length (([] : List (List UInt8)).map strV)) (hn0 : [k0].length ≤ n) (hn2 : n ≤ maxLen) (hK : KidsAre (fun b => b < Bs) w [k0] cs) (hR : RowIn (fun b => b < Bs) w 4 B [k0].length cs) (hBs : Bs ≤ w.heap.size) :
    Calls Try.prog 64 [v0, .agg #[.int .i64 17, strV x, .slice A ([] : List (List UInt8)).length m, .slice B [k0].length n]].toArray w fun e w' => ∃ v', e = .returned v' ∧ Ow Bs w' v' (ps ++ pcsT (.node 17 x ([] : List (List UInt8)) [k0])) ∧ Chg v0.ownBlock.toList w w' ∧ Fresh w v0 v' := by
  have hq : (pcsT (.node 17 x ([] : List (List UInt8)) [k0])).length = 0 + (pcsT k0).length := by simp [pcsT, pcsTs, nodeC, singleT] <;> omega
  have hE := Chg.refl v0.ownBlock.toList w
  have hVB : ∀ g, g ∈ v0.ownBlock.toList → Bs ≤ g := fun g h => (hO.ge (by simpa using h)).1
  have hg : ∀ g, v0.ownBlock = some g → g ∈ v0.ownBlock.toList ∨ w.heap.size ≤ g := fun g e => .inl (by simpa using e)
  obtain ⟨kb, ko, rfl, lbB, hkb, _⟩ := hR.2 (by simp)
  obtain ⟨d00, d01, d02, d03, hT0, hc0⟩ := kid_at hK hR rfl (i := 0) (t := k0) rfl
  have on0 := hT0.one
  refine rE 365 Try.func64 rfl rfl rfl ?_
  intro a hf
  refine rR 2 hf rfl fun a hf => ?_
  obtain ⟨w1, b2, he, hB3, hx4, eb5, lb6⟩ := ef_box (P := Try.prog) (t := 26) (x := (.tmp 1)) hf rfl rfl w 0
  refine rV hf rfl he fun a hf => ?_
  have ge_b2 := ge_new hE eb5
  have hn : v0.ownBlock ≠ some b2 := fun e => by have := (hO.ge e).2; omega
  replace hO := hO.t0 hx4
  replace hE := hE.t0 hx4
  clear eb5 lb6
  refine rR 6 hf rfl fun a hf => rV hf rfl (ex_loadB hf rfl (by kernel_rfl) hB3 rfl) fun a hf => rV hf rfl (ex_len hf Try.underlying24 rfl) fun a hf => rR 7 hf rfl fun a hf => rV hf rfl (ex_loadB hf rfl (by kernel_rfl) hB3 rfl) fun a hf => rR 98 hf rfl fun a hf => rV hf rfl (ex_loadB hf rfl (by kernel_rfl) hB3 rfl) fun a hf => rV hf rfl (ex_index (sz := 4) (k := 0) (r := ko) hf Try.underlying24 (by kernel_rfl) rfl rfl rfl (by simp) rfl) fun a hf => rV hf rfl (ex_loadN (cs := [d00, d01, d02, d03]) (m := 4) hf rfl (by kernel_rfl) rfl (fun r hr => (low_now hE hVB hkb lbB).trans (hc0 r hr))) fun a hf => rC hf rfl rfl (by kernel_rfl) (ih k0 _ Bs _ ps _ _ _ _ (hks _ (by simp)).1 (hks _ (by simp)).2 (by omega) hO (tree_now hT0 hE hVB) (nlt hBs hE.size)) ?_
  rintro _ w11 ⟨v8, rfl, hO9, hx7, hfr10⟩
  refine ⟨_, rfl, fun a hf => ?_⟩
  have hn2 := own_ne hfr10 hn hB3.lt
  have hg2 := own_from hfr10 hg hE.size
  replace hB3 := hB3.chg hx7 (nmO hn)
  replace hE := chg_own hE hx7 hg
  clear hO hn hg
  have hO := hO9; clear hO9
  have hn := hn2; clear hn2
  have hg := hg2; clear hg2
  obtain ⟨ps12, eps12⟩ : ∃ z, z = ps ++ pcsT k0 := ⟨_, rfl⟩
  rw [← eps12] at hO
  have lps12 : ps12.length = ps.length + (pcsT k0).length := by rw [eps12, List.length_append]
  refine rR 6 hf rfl fun a hf => ?_
  have eq : ps ++ pcsT (.node 17 x ([] : List (List UInt8)) [k0]) = ps12 := by subst eps12; simp [pcsT, pcsTs, nodeC, singleT]
  exact rT (rs := [.tmp 4]) hf rfl ⟨_, _, rfl, rfl, rfl⟩ ⟨_, rfl, eq ▸ hO, hE, fresh_all hg (fresh_s hfr10)⟩
theorem pLeaf {N : Nat} {w : World} {Bs : Nat} {v0 : Value} {ps : List Pc} {k : Int} {x : List UInt8} {l0 : List UInt8} {cs : List Value} {A B : Option Addr} {m n : Nat} (hk : k = 9 ∨ k = 10 ∨ k = 11 ∨ k = 12) (hks : ∀ t, t ∈ ([] : List Tree) → tsize t ≤ N ∧ (shapedT t && leadedT t && decide (tbulk t ≤ 1000000000)) = true)
    (hl1 : ps.length + (pcsT (.node k x [l0] ([] : List Tree))).length ≤ 1000000000) (hO : Ow Bs w v0 ps) (hL : RowIn (fun b => b < Bs) w 1 A [l0].length ([l0].map strV)) (hn0 : ([] : List Tree).length ≤ n) (hn2 : n ≤ maxLen) (hK : KidsAre (fun b => b < Bs) w ([] : List Tree) cs) (hR : RowIn (fun b => b < Bs) w 4 B ([] : List Tree).length cs) (hBs : Bs ≤ w.heap.size) :
    Calls Try.prog 64 [v0, .agg #[.int .i64 k, strV x, .slice A [l0].length m, .slice B ([] : List Tree).length n]].toArray w fun e w' => ∃ v', e = .returned v' ∧ Ow Bs w' v' (ps ++ pcsT (.node k x [l0] ([] : List Tree))) ∧ Chg v0.ownBlock.toList w w' ∧ Fresh w v0 v' := by
  have hq : (pcsT (.node k x [l0] ([] : List Tree))).length = 1 := by rw [pcsT, pcsTs, nodeC_leaf hk]; rfl
  have hE := Chg.refl v0.ownBlock.toList w
  have hVB : ∀ g, g ∈ v0.ownBlock.toList → Bs ≤ g := fun g h => (hO.ge (by simpa using h)).1
  have hg : ∀ g, v0.ownBlock = some g → g ∈ v0.ownBlock.toList ∨ w.heap.size ≤ g := fun g e => .inl (by simpa using e)
  refine rE 365 Try.func64 rfl rfl rfl ?_
  intro a hf
  refine rR 2 hf rfl fun a hf => ?_
  obtain ⟨w1, b2, he, hB3, hx4, eb5, lb6⟩ := ef_box (P := Try.prog) (t := 26) (x := (.tmp 1)) hf rfl rfl w 0
  refine rV hf rfl he fun a hf => ?_
  have ge_b2 := ge_new hE eb5
  have hn : v0.ownBlock ≠ some b2 := fun e => by have := (hO.ge e).2; omega
  replace hO := hO.t0 hx4
  replace hE := hE.t0 hx4
  clear eb5 lb6
  refine rR 6 hf rfl fun a hf => rV hf rfl (ex_loadB hf rfl (by kernel_rfl) hB3 rfl) fun a hf => rV hf rfl (ex_len hf Try.underlying24 rfl) fun a hf => rR 7 hf rfl fun a hf => rV hf rfl (ex_loadB hf rfl (by kernel_rfl) hB3 rfl) fun a hf => rR 5 hf rfl fun a hf => rV hf rfl (ex_eqI (c := false) hf rfl rfl (by simp; omega)) fun a hf => rR 6 hf rfl fun a hf => rV hf rfl (ex_eqI (c := false) hf rfl rfl (by simp; omega)) fun a hf => rR 6 hf rfl fun a hf => rV hf rfl (ex_eqI (c := false) hf rfl rfl (by simp; omega)) fun a hf => rR 6 hf rfl fun a hf => rV hf rfl (ex_eqI (c := false) hf rfl rfl (by simp; omega)) fun a hf => rR 6 hf rfl fun a hf => rV hf rfl (ex_eqI (c := false) hf rfl rfl (by simp; omega)) fun a hf => rR 6 hf rfl fun a hf => rV hf rfl (ex_eqI (c := false) hf rfl rfl (by simp; omega)) fun a hf => rR 6 hf rfl fun a hf => rV hf rfl (ex_eqI (c := false) hf rfl rfl (by simp; omega)) fun a hf => rR 6 hf rfl fun a hf => rV hf rfl (ex_eqI (c := false) hf rfl rfl (by simp; omega)) fun a hf => rR 6 hf rfl fun a hf => rV hf rfl (ex_eqI (c := false) hf rfl rfl (by simp; omega)) fun a hf => rR 6 hf rfl fun a hf => rV hf rfl (ex_eqI (c := false) hf rfl rfl (by simp; omega)) fun a hf => rR 6 hf rfl fun a hf => rV hf rfl (ex_eqI (c := false) hf rfl rfl (by simp; omega)) fun a hf => rR 6 hf rfl fun a hf => rV hf rfl (ex_eqI (c := false) hf rfl rfl (by simp; omega)) fun a hf => rR 6 hf rfl fun a hf => rV hf rfl (ex_eqI (c := false) hf rfl rfl (by simp; omega)) fun a hf => rR 6 hf rfl fun a hf => rV hf rfl (ex_eqI (c := false) hf rfl rfl (by simp; omega)) fun a hf => rR 6 hf rfl fun a hf => rV hf rfl (ex_eqI (c := false) hf rfl rfl (by simp; omega)) fun a hf => rR 6 hf rfl fun a hf => rV hf rfl (ex_eqI (c := false) hf rfl rfl (by simp; omega)) fun a hf => rR 6 hf rfl fun a hf => rV hf rfl (ex_eqI (c := false) hf rfl rfl (by simp; omega)) fun a hf => rR 6 hf rfl fun a hf => rV hf rfl (ex_eqI (c := false) hf rfl rfl (by simp; omega)) fun a hf => rR 8 hf rfl fun a hf => ?_
  have hEs := hE
  have s_hB3 := hB3
  refine rD (fun x => x.cell? ⟨b2, 0, none⟩ = w1.cell? ⟨b2, 0, none⟩ ∧ x.cell? ⟨b2, 1, none⟩ = w1.cell? ⟨b2, 1, none⟩ ∧ x.cell? ⟨b2, 2, none⟩ = w1.cell? ⟨b2, 2, none⟩ ∧ x.cell? ⟨b2, 3, none⟩ = w1.cell? ⟨b2, 3, none⟩) 9 9 rfl (by kernel_rfl) (by kernel_rfl) ?_
  intro w7 hx8 hsel
  replace hB3 := hB3.c0 hx8
  replace hO := hO.t0 hx8
  replace hE := hE.t0 hx8
  have hS0 : w7.cell? ⟨b2, 0, none⟩ = w1.cell? ⟨b2, 0, none⟩ ∧ w7.cell? ⟨b2, 1, none⟩ = w1.cell? ⟨b2, 1, none⟩ ∧ w7.cell? ⟨b2, 2, none⟩ = w1.cell? ⟨b2, 2, none⟩ ∧ w7.cell? ⟨b2, 3, none⟩ = w1.cell? ⟨b2, 3, none⟩ := ⟨(hB3.cell 0).trans (s_hB3.cell 0).symm, (hB3.cell 1).trans (s_hB3.cell 1).symm, (hB3.cell 2).trans (s_hB3.cell 2).symm, (hB3.cell 3).trans (s_hB3.cell 3).symm⟩
  refine dR [0] hsel (by kernel_rfl) hf rfl rfl (.inl hS0) fun a hf => dL 1 rfl rfl hsel (by kernel_rfl) hf rfl hS0 (fun x hS => ex_loadX4 hf rfl (by kernel_rfl) s_hB3 rfl hS.1 hS.2.1 hS.2.2.1 hS.2.2.2) fun a hf => dR [3] hsel (by kernel_rfl) hf rfl rfl (.inl hS0) fun a hf => dL 4 rfl rfl hsel (by kernel_rfl) hf rfl hS0 (fun x hS => ex_load hf rfl (by kernel_rfl) (hS.2.1.trans ((s_hB3.cell 1).trans rfl))) fun a hf => dl_c 2 (by kernel_rfl) rfl hf rfl rfl rfl (by kernel_rfl) (leadAtR (ls := [l0]) (j := 0) rfl (row_now hL hE hVB)) ?_
  rintro _ w10 ⟨rfl, hx9⟩
  refine ⟨_, rfl, fun a hf => ?_⟩
  replace hB3 := hB3.c0 hx9
  replace hO := hO.t0 hx9
  replace hE := hE.t0 hx9
  clear hS0
  have hS0 : w10.cell? ⟨b2, 0, none⟩ = w1.cell? ⟨b2, 0, none⟩ ∧ w10.cell? ⟨b2, 1, none⟩ = w1.cell? ⟨b2, 1, none⟩ ∧ w10.cell? ⟨b2, 2, none⟩ = w1.cell? ⟨b2, 2, none⟩ ∧ w10.cell? ⟨b2, 3, none⟩ = w1.cell? ⟨b2, 3, none⟩ := ⟨(hB3.cell 0).trans (s_hB3.cell 0).symm, (hB3.cell 1).trans (s_hB3.cell 1).symm, (hB3.cell 2).trans (s_hB3.cell 2).symm, (hB3.cell 3).trans (s_hB3.cell 3).symm⟩
  refine ⟨.inl hS0, ?_⟩
  refine dV 5 rfl rfl hsel (by kernel_rfl) hf rfl (.inl hS0) (fun x => ex_bd (ps := [(0, (.tmp 359)), (1, (.tmp 361))]) (z := [.string ⟨([] : List UInt8).toArray⟩, .string ⟨([] : List UInt8).toArray⟩]) (os := [0, 1]) hf rfl (by kernel_rfl) (by kernel_rfl) (by kernel_rfl) rfl rfl) fun a hf => ?_
  obtain ⟨w11, b12, he, hB13, hx14, eb15, lb16⟩ := ef_bslice (P := Try.prog) (ps := [(0, (.tmp 362))]) (m := 1) (sz := 2) (z := [.string ⟨([] : List UInt8).toArray⟩, .string ⟨([] : List UInt8).toArray⟩]) hf rfl Try.underlying54 (by kernel_rfl) (by kernel_rfl) rfl rfl (by kernel_rfl) rfl w10 54
  refine dl_e 6 (by kernel_rfl) rfl hf rfl rfl he fun a hf => ?_
  have ne_b2_b12 : b2 ≠ b12 := ne_new hB3.lt eb15
  have ge_b12 := ge_new hE eb15
  replace hB3 := hB3.c0 hx14
  replace hO := hO.t0 hx14
  replace hE := hE.t0 hx14
  clear eb15 lb16
  clear hS0
  have hS0 : w11.cell? ⟨b2, 0, none⟩ = w1.cell? ⟨b2, 0, none⟩ ∧ w11.cell? ⟨b2, 1, none⟩ = w1.cell? ⟨b2, 1, none⟩ ∧ w11.cell? ⟨b2, 2, none⟩ = w1.cell? ⟨b2, 2, none⟩ ∧ w11.cell? ⟨b2, 3, none⟩ = w1.cell? ⟨b2, 3, none⟩ := ⟨(hB3.cell 0).trans (s_hB3.cell 0).symm, (hB3.cell 1).trans (s_hB3.cell 1).symm, (hB3.cell 2).trans (s_hB3.cell 2).symm, (hB3.cell 3).trans (s_hB3.cell 3).symm⟩
  refine ⟨.inl hS0, ?_⟩
  obtain ⟨v18, w17, he, hO19, hx20, hfr21⟩ := eP (.tmp 357) (.tmp 363) [(l0, x)] hf rfl rfl hO hB13 rfl (by (try simp only [List.length_cons, List.length_nil]); omega) (nlt hBs hE.size) 54
  refine dl_e 7 (by kernel_rfl) rfl hf rfl rfl he fun a hf => ?_
  have hn2 := own_ne hfr21 hn hB3.lt
  have hg2 := own_from hfr21 hg hE.size
  replace hB3 := hB3.chg hx20 (nmO hn)
  replace hE := chg_own hE hx20 hg
  clear hO hn hg hfr21
  have hO := hO19; clear hO19
  have hn := hn2; clear hn2
  have hg := hg2; clear hg2
  obtain ⟨ps22, eps22⟩ : ∃ z, z = ps ++ [(l0, x)] := ⟨_, rfl⟩
  rw [← eps22] at hO
  have lps22 : ps22.length = ps.length + 1 := by rw [eps22]; simp
  clear hS0
  have hS0 : w17.cell? ⟨b2, 0, none⟩ = w1.cell? ⟨b2, 0, none⟩ ∧ w17.cell? ⟨b2, 1, none⟩ = w1.cell? ⟨b2, 1, none⟩ ∧ w17.cell? ⟨b2, 2, none⟩ = w1.cell? ⟨b2, 2, none⟩ ∧ w17.cell? ⟨b2, 3, none⟩ = w1.cell? ⟨b2, 3, none⟩ := ⟨(hB3.cell 0).trans (s_hB3.cell 0).symm, (hB3.cell 1).trans (s_hB3.cell 1).symm, (hB3.cell 2).trans (s_hB3.cell 2).symm, (hB3.cell 3).trans (s_hB3.cell 3).symm⟩
  refine ⟨.inl hS0, ?_⟩
  refine dR [8] hsel (by kernel_rfl) hf rfl rfl (.inl hS0) fun a hf => rN (by kernel_rfl) ?_
  clear hS0 hsel
  refine rR 2 hf rfl fun a hf => ?_
  have eq : ps ++ pcsT (.node k x [l0] ([] : List Tree)) = ps22 := by subst eps22; rw [pcsT, pcsTs, nodeC_leaf hk]
  exact rT (rs := [.tmp 4]) hf rfl ⟨_, _, rfl, rfl, rfl⟩ ⟨_, rfl, eq ▸ hO, hE, fresh_all hg (.inl (own_some hO))⟩
end Go.Proofs.Ythpjpngfghcmcaa
namespace Go.Proofs.Ythpjpngfghcmcaa
open Go.RowKit Lx Sx
set_option maxRecDepth 100000
set_option maxHeartbeats 4000000
theorem rowC_snoc (ls : List (List UInt8)) (c : Nat) : ∀ (fs : List (List Pc)) (f : List Pc) (i : Nat), rowC ls c (fs ++ [f]) i = rowC ls c fs i ++ (if 0 < i + fs.length then [(ls.getD (c + (i + fs.length) - 1) [], [44])] else []) ++ f
  | [], f, i => by simp [rowC]
  | g :: r, f, i => by
    simp only [List.cons_append, rowC, List.length_cons, rowC_snoc ls c r f (i + 1), List.append_assoc]
    rw [show i + 1 + r.length = i + (r.length + 1) from by omega]
theorem pcsTs_app : ∀ (a b : List Tree), pcsTs (a ++ b) = pcsTs a ++ pcsTs b
  | [], b => rfl
  | t :: r, b => by simp only [List.cons_append, pcsTs, pcsTs_app r b]
theorem rowC_step {ls : List (List UInt8)} {c : Nat} {ks : List Tree} {i : Nat} (h : i < ks.length) : rowC ls c (pcsTs (ks.take (i + 1))) 0 = rowC ls c (pcsTs (ks.take i)) 0 ++ (if 0 < i then [(ls.getD (c + i - 1) [], [44])] else []) ++ pcsT ks[i] := by
  rw [List.take_succ_eq_append_getElem h, pcsTs_app, pcsTs, pcsTs, rowC_snoc, pcsTs_length, List.length_take, Nat.min_eq_left (Nat.le_of_lt h), Nat.zero_add]
theorem rowC_mono (ls : List (List UInt8)) (c : Nat) : ∀ (fs gs : List (List Pc)) (i : Nat), (rowC ls c fs i).length ≤ (rowC ls c (fs ++ gs) i).length
  | [], gs, i => by simp [rowC]
  | f :: r, gs, i => by have := rowC_mono ls c r gs (i + 1); simp only [List.cons_append, rowC, List.length_append]; omega
theorem rowC_take (ls : List (List UInt8)) (c : Nat) (ks : List Tree) (i j : Nat) (h : i ≤ j) : (rowC ls c (pcsTs (ks.take i)) 0).length ≤ (rowC ls c (pcsTs (ks.take j)) 0).length := by
  have e : ks.take j = ks.take i ++ (ks.take j).drop i := by
    have := (List.take_append_drop i (ks.take j)).symm
    rwa [List.take_take, Nat.min_eq_left h] at this
  rw [e, pcsTs_app]; exact rowC_mono ls c _ _ 0
theorem fresh_t {w : World} {v v1 v' : Value} (h : Fresh w v1 v') (hv : v1.ownBlock.isSome = true ∨ v1.ownBlock = v.ownBlock) : v'.ownBlock.isSome = true ∨ v'.ownBlock = v.ownBlock := by
  rcases h with h | ⟨g, h, _⟩
  · rw [h]; exact hv
  · exact .inl (by rw [h]; rfl)
theorem rowR {N : Nat} (ih : PiecesOk N) {w : World} {Bs to c : Nat} {v0 : Value} {ps : List Pc} {k toi ci : Int} {x : List UInt8} {ls : List (List UInt8)} {ks : List Tree} {cs : List Value} {A B : Option Addr} {m n : Nat} (hti : toi = to) (hci : ci = c) (hto : to ≤ ks.length) (hks9 : ks.length ≤ 1000000000) (h1c : 1 ≤ c) (hc6 : c ≤ 6) (hks : ∀ t, t ∈ ks → tsize t ≤ N ∧ (shapedT t && leadedT t && decide (tbulk t ≤ 1000000000)) = true) (hl1 : ps.length + (rowC ls c (pcsTs (ks.take to)) 0).length ≤ 1000000000) (hO : Ow Bs w v0 ps) (hL : RowIn (fun b => b < Bs) w 1 A ls.length (ls.map strV)) (hK : KidsAre (fun b => b < Bs) w ks cs) (hR : RowIn (fun b => b < Bs) w 4 B ks.length cs) (hBs : Bs ≤ w.heap.size) :
    Calls Try.prog 97 [v0, .agg #[.int .i64 k, strV x, .slice A ls.length m, .slice B ks.length n], .int .i64 0, .int .i64 toi, .int .i64 ci].toArray w fun e w' => ∃ v', e = .returned v' ∧ Ow Bs w' v' (ps ++ rowC ls c (pcsTs (ks.take to)) 0) ∧ Chg v0.ownBlock.toList w w' ∧ Fresh w v0 v' := by
  subst hti hci
  have hE := Chg.refl v0.ownBlock.toList w
  have hVB : ∀ g, g ∈ v0.ownBlock.toList → Bs ≤ g := fun g h => (hO.ge (by simpa using h)).1
  have hg : ∀ g, v0.ownBlock = some g → g ∈ v0.ownBlock.toList ∨ w.heap.size ≤ g := fun g e => .inl (by simpa using e)
  obtain ⟨VB, eVB⟩ : ∃ z, z = v0.ownBlock.toList := ⟨_, rfl⟩
  rw [← eVB] at hE hVB hg
  refine rE 41 Try.func97 rfl rfl rfl ?_
  intro a hf
  refine rR 2 hf rfl ?_
  clear hf a; intro a hf
  obtain ⟨w1, b2, he, hB3, hx4, eb5, lb6⟩ := ef_box (P := Try.prog) (t := 26) (x := (.tmp 1)) hf rfl rfl w 0
  refine rV hf rfl he ?_
  clear he hf a; intro a hf
  have ge_b2 := ge_new hE eb5
  have hn : v0.ownBlock ≠ some b2 := fun e => by have := (hO.ge e).2; omega
  replace hO := hO.t0 hx4
  replace hE := hE.t0 hx4
  clear eb5 lb6
  refine rR 11 hf rfl ?_
  clear hf a; intro a hf
  refine rL (fun g a w' => ∃ i v1, Fr a 41 (fm [(0, v1), (2, .int .i64 0), (3, .int .i64 (to : Nat)), (4, .int .i64 (c : Nat)), (6, .pointer (some ⟨b2, 0, none⟩)), (11, .int .i64 (i : Nat))]) ∧ Chg VB w w' ∧ Blk w' b2 26 [.int .i64 k, strV x, .slice A ls.length m, .slice B ks.length n] ∧ Ow Bs w' v1 (ps ++ rowC ls c (pcsTs (ks.take i)) 0) ∧ v1.ownBlock ≠ some b2 ∧ (∀ g, v1.ownBlock = some g → g ∈ VB ∨ w.heap.size ≤ g) ∧ (v1.ownBlock.isSome = true ∨ v1.ownBlock = v0.ownBlock) ∧ i ≤ to ∧ g = to - i) _ ⟨0, v0, hf.pick ⟨rfl, rfl, rfl, rfl, rfl, rfl, trivial⟩, hE, hB3, by simpa [pcsTs, rowC] using hO, hn, hg, .inr rfl, Nat.zero_le _, rfl⟩ ?_
  obtain ⟨b6, eb6⟩ : ∃ x, b2 = x := ⟨_, rfl⟩
  rw [eb6]
  have ge_b6 : w.heap.size ≤ b6 := eb6 ▸ ge_b2
  clear eb6 hf a hO hn hg
  intro g0 a w' hI
  obtain ⟨i, v1, hf, hE, hB6, hO, hn, hg, hvs, hi, rfl⟩ := hI
  by_cases hlt : i < to
  have hik : i < ks.length := by omega
  obtain ⟨kb, ko, rfl, lbB, hkb, _⟩ := hR.2 (by omega)
  obtain ⟨d0, d1, d2, d3, hT, hc⟩ := kid_at hK hR rfl (List.getElem?_eq_getElem hik)
  have on_T := hT.one
  have hmem : ks[i] ∈ ks := List.getElem_mem hik
  have hst := rowC_step (ls := ls) (c := c) hik
  have hmo := rowC_take ls c ks (i + 1) to (by omega)
  rw [hst] at hmo
  simp only [List.length_append] at hmo
  refine rR 5 hf rfl ?_
  clear hf a; intro a hf
  refine rV hf rfl (ex_ltI (c := true) hf rfl rfl (by simp; omega)) ?_
  clear hf a; intro a hf
  refine rR 12 hf rfl ?_
  clear hf a; intro a hf
  refine rB hf rfl (fun c hc => ex_gtI hf rfl rfl hc) ?_ ?_
  clear hf a; intro h20 a hf
  have hip : 0 < i := by simp at h20; omega
  rw [if_pos hip] at hst hmo
  simp only [List.length_cons, List.length_nil] at hmo
  obtain ⟨ps0, eps0⟩ : ∃ z, z = ps ++ rowC ls c (pcsTs (ks.take i)) 0 := ⟨_, rfl⟩
  rw [← eps0] at hO
  have lps0 : ps0.length = ps.length + (rowC ls c (pcsTs (ks.take i)) 0).length := by rw [eps0, List.length_append]
  refine rR 5 hf rfl ?_
  clear hf a; intro a hf
  refine rV hf rfl (ex_loadBN (m := 4) hf rfl (by kernel_rfl) hB6 rfl) ?_
  clear hf a; intro a hf
  refine rR 2 hf rfl ?_
  clear hf a; intro a hf
  refine rV hf rfl (ex_addI hf rfl rfl rfl (by omega)) ?_
  clear hf a; intro a hf
  refine rR 1 hf rfl ?_
  clear hf a; intro a hf
  refine rV hf rfl (ex_subI hf rfl rfl rfl (by omega)) ?_
  clear hf a; intro a hf
  refine rV hf rfl (ex_subI hf rfl rfl rfl (by omega)) ?_
  clear hf a; intro a hf
  refine rC hf rfl rfl (by kernel_rfl) (leadAtR (ls := ls) (j := c + i - 1) (by omega) (row_now hL hE hVB)) ?_
  rintro _ w8 ⟨rfl, hx7⟩
  refine ⟨_, rfl, ?_⟩
  clear hf a; intro a hf
  replace hB6 := hB6.c0 hx7
  replace hO := hO.t0 hx7
  replace hE := hE.t0 hx7
  refine rV hf rfl (ex_bd (ps := [(0, (.tmp 29)), (1, (.const (.string ⟨#[44]⟩)))]) (z := [.string ⟨([] : List UInt8).toArray⟩, .string ⟨([] : List UInt8).toArray⟩]) (os := [0, 1]) hf rfl (by kernel_rfl) (by kernel_rfl) (by kernel_rfl) rfl rfl) ?_
  clear hf a; intro a hf
  obtain ⟨w9, b10, he, hB11, hx12, eb13, lb14⟩ := ef_bslice (P := Try.prog) (ps := [(0, (.tmp 30))]) (m := 1) (sz := 2) (z := [.string ⟨([] : List UInt8).toArray⟩, .string ⟨([] : List UInt8).toArray⟩]) hf rfl Try.underlying54 (by kernel_rfl) (by kernel_rfl) rfl rfl (by kernel_rfl) rfl w8 54
  refine rV hf rfl he ?_
  clear he hf a; intro a hf
  have ne_b6_b10 : b6 ≠ b10 := ne_new hB6.lt eb13
  have ge_b10 := ge_new hE eb13
  replace hB6 := hB6.c0 hx12
  replace hO := hO.t0 hx12
  replace hE := hE.t0 hx12
  clear eb13 lb14
  obtain ⟨v16, w15, he, hO17, hx18, hfr19⟩ := eP (.tmp 21) (.tmp 31) [((ls.getD (c + i - 1) []), [44])] hf rfl rfl hO hB11 rfl (by (try simp only [List.length_cons, List.length_nil]); omega) (nlt hBs hE.size) 54
  refine rV hf rfl he ?_
  clear he hf a; intro a hf
  replace hvs : v16.ownBlock.isSome = true ∨ v16.ownBlock = v0.ownBlock := fresh_t hfr19 hvs
  have hn2 := own_ne hfr19 hn hB6.lt
  have hg2 := own_from hfr19 hg hE.size
  replace hB6 := hB6.chg hx18 (nmO hn)
  replace hE := chg_own hE hx18 hg
  clear hO hn hg hfr19
  have hO := hO17; clear hO17
  have hn := hn2; clear hn2
  have hg := hg2; clear hg2
  obtain ⟨ps20, eps20⟩ : ∃ z, z = ps0 ++ [((ls.getD (c + i - 1) []), [44])] := ⟨_, rfl⟩
  rw [← eps20] at hO
  have lps20 : ps20.length = ps0.length + 1 := by rw [eps20]; simp
  refine rR 6 hf rfl ?_
  clear hf a; intro a hf
  refine rV hf rfl (ex_loadB hf rfl (by kernel_rfl) hB6 rfl) ?_
  clear hf a; intro a hf
  refine rR 1 hf rfl ?_
  clear hf a; intro a hf
  refine rV hf rfl (ex_index (sz := 4) (k := i) (r := ko + i * 4) hf Try.underlying24 (by kernel_rfl) rfl rfl rfl hik rfl) ?_
  clear hf a; intro a hf
  refine rV hf rfl (ex_loadN (cs := [d0, d1, d2, d3]) (m := 4) hf rfl (by kernel_rfl) rfl (fun r hr => (low_now hE hVB hkb lbB).trans (hc r hr))) ?_
  clear hf a; intro a hf
  refine rC hf rfl rfl (by kernel_rfl) (ih ks[i] _ Bs _ ps20 _ _ _ _ (hks _ hmem).1 (hks _ hmem).2 (by omega) hO (tree_now hT hE hVB) (nlt hBs hE.size)) ?_
  rintro _ w25 ⟨v22, rfl, hO23, hx21, hfr24⟩
  refine ⟨_, rfl, ?_⟩
  clear hf a; intro a hf
  replace hvs : v22.ownBlock.isSome = true ∨ v22.ownBlock = v0.ownBlock := fresh_t hfr24 hvs
  have hn2 := own_ne hfr24 hn hB6.lt
  have hg2 := own_from hfr24 hg hE.size
  replace hB6 := hB6.chg hx21 (nmO hn)
  replace hE := chg_own hE hx21 hg
  clear hO hn hg hfr24
  have hO := hO23; clear hO23
  have hn := hn2; clear hn2
  have hg := hg2; clear hg2
  have hfin : ps20 ++ pcsT ks[i] = ps ++ rowC ls c (pcsTs (ks.take (i + 1))) 0 := by rw [hst]; subst eps20; subst eps0; simp only [List.append_assoc, List.nil_append]
  rw [hfin] at hO
  refine rR 6 hf rfl ?_
  clear hf a; intro a hf
  refine rV hf rfl (ex_addI hf rfl rfl rfl (by omega)) ?_
  clear hf a; intro a hf
  refine rR 2 hf rfl ?_
  clear hf a; intro a hf
  exact rX ⟨_, (by omega : to - (i + 1) < to - i), i + 1, v22, hf.pick ⟨rfl, rfl, rfl, rfl, rfl, rfl, trivial⟩, hE, hB6, hO, hn, hg, hvs, by omega, rfl⟩
  clear hf a; intro h20 a hf
  have hip : i = 0 := by simp at h20; omega
  rw [if_neg (by omega)] at hst hmo
  simp only [List.length_cons, List.length_nil] at hmo
  obtain ⟨ps0, eps0⟩ : ∃ z, z = ps ++ rowC ls c (pcsTs (ks.take i)) 0 := ⟨_, rfl⟩
  rw [← eps0] at hO
  have lps0 : ps0.length = ps.length + (rowC ls c (pcsTs (ks.take i)) 0).length := by rw [eps0, List.length_append]
  refine rR 8 hf rfl ?_
  clear hf a; intro a hf
  refine rV hf rfl (ex_loadB hf rfl (by kernel_rfl) hB6 rfl) ?_
  clear hf a; intro a hf
  refine rR 1 hf rfl ?_
  clear hf a; intro a hf
  refine rV hf rfl (ex_index (sz := 4) (k := i) (r := ko + i * 4) hf Try.underlying24 (by kernel_rfl) rfl rfl rfl hik rfl) ?_
  clear hf a; intro a hf
  refine rV hf rfl (ex_loadN (cs := [d0, d1, d2, d3]) (m := 4) hf rfl (by kernel_rfl) rfl (fun r hr => (low_now hE hVB hkb lbB).trans (hc r hr))) ?_
  clear hf a; intro a hf
  refine rC hf rfl rfl (by kernel_rfl) (ih ks[i] _ Bs _ ps0 _ _ _ _ (hks _ hmem).1 (hks _ hmem).2 (by omega) hO (tree_now hT hE hVB) (nlt hBs hE.size)) ?_
  rintro _ w30 ⟨v27, rfl, hO28, hx26, hfr29⟩
  refine ⟨_, rfl, ?_⟩
  clear hf a; intro a hf
  replace hvs : v27.ownBlock.isSome = true ∨ v27.ownBlock = v0.ownBlock := fresh_t hfr29 hvs
  have hn2 := own_ne hfr29 hn hB6.lt
  have hg2 := own_from hfr29 hg hE.size
  replace hB6 := hB6.chg hx26 (nmO hn)
  replace hE := chg_own hE hx26 hg
  clear hO hn hg hfr29
  have hO := hO28; clear hO28
  have hn := hn2; clear hn2
  have hg := hg2; clear hg2
  have hfin : ps0 ++ pcsT ks[i] = ps ++ rowC ls c (pcsTs (ks.take (i + 1))) 0 := by rw [hst]; subst eps0; simp only [List.append_assoc, List.nil_append]
  rw [hfin] at hO
  refine rR 6 hf rfl ?_
  clear hf a; intro a hf
  refine rV hf rfl (ex_addI hf rfl rfl rfl (by omega)) ?_
  clear hf a; intro a hf
  refine rR 2 hf rfl ?_
  clear hf a; intro a hf
  exact rX ⟨_, (by omega : to - (i + 1) < to - i), i + 1, v27, hf.pick ⟨rfl, rfl, rfl, rfl, rfl, rfl, trivial⟩, hE, hB6, hO, hn, hg, hvs, by omega, rfl⟩
  obtain rfl : i = to := by omega
  refine rR 5 hf rfl ?_
  clear hf a; intro a hf
  refine rV hf rfl (ex_ltI (c := false) hf rfl rfl (by simp <;> omega)) ?_
  clear hf a; intro a hf
  refine rR 5 hf rfl ?_
  clear hf a; intro a hf
  refine rO ?_
  refine rR 9 hf rfl ?_
  clear hf a; intro a hf
  exact rT (rs := [.tmp 10]) hf rfl ⟨_, _, rfl, rfl, rfl⟩ ⟨_, rfl, hO, eVB ▸ hE, fresh_all (eVB ▸ hg) hvs⟩
theorem kids_now {Bs : Nat} {VB : List Nat} {w w' : World} {t : List Tree} {c : List Value} (hT : KidsAre (fun b => b < Bs) w t c) (hE : Chg VB w w') (hVB : ∀ g, g ∈ VB → Bs ≤ g) : KidsAre (fun b => b < Bs) w' t c := hT.chg hE (fun b hb _ h => by have := hVB b h; omega)
theorem p16 {N : Nat} (ih : PiecesOk N) {w : World} {Bs : Nat} {v0 : Value} {ps : List Pc} {x : List UInt8} {l0 l1 l2 : List UInt8} {ms : List (List UInt8)} {ks : List Tree} {cs : List Value} {A B : Option Addr} {m n : Nat} (hk9 : ks.length ≤ 1000000000) (hks : ∀ t, t ∈ ks → tsize t ≤ N ∧ (shapedT t && leadedT t && decide (tbulk t ≤ 1000000000)) = true)
    (hl1 : ps.length + (pcsT (.node 16 x (l0 :: l1 :: l2 :: ms) ks)).length ≤ 1000000000) (hO : Ow Bs w v0 ps) (hL : RowIn (fun b => b < Bs) w 1 A (l0 :: l1 :: l2 :: ms).length ((l0 :: l1 :: l2 :: ms).map strV)) (hn0 : ks.length ≤ n) (hn2 : n ≤ maxLen) (hK : KidsAre (fun b => b < Bs) w ks cs) (hR : RowIn (fun b => b < Bs) w 4 B ks.length cs) (hBs : Bs ≤ w.heap.size) :
    Calls Try.prog 64 [v0, .agg #[.int .i64 16, strV x, .slice A (l0 :: l1 :: l2 :: ms).length m, .slice B ks.length n]].toArray w fun e w' => ∃ v', e = .returned v' ∧ Ow Bs w' v' (ps ++ pcsT (.node 16 x (l0 :: l1 :: l2 :: ms) ks)) ∧ Chg v0.ownBlock.toList w w' ∧ Fresh w v0 v' := by
  have hq : (pcsT (.node 16 x (l0 :: l1 :: l2 :: ms) ks)).length = 3 + (rowC (l0 :: l1 :: l2 :: ms) 3 (pcsTs (ks.take ks.length)) 0).length := by simp [pcsT, nodeC, List.take_length] <;> omega
  have hE := Chg.refl v0.ownBlock.toList w
  have hVB : ∀ g, g ∈ v0.ownBlock.toList → Bs ≤ g := fun g h => (hO.ge (by simpa using h)).1
  have hg : ∀ g, v0.ownBlock = some g → g ∈ v0.ownBlock.toList ∨ w.heap.size ≤ g := fun g e => .inl (by simpa using e)
  refine rE 365 Try.func64 rfl rfl rfl ?_
  intro a hf
  refine rR 2 hf rfl fun a hf => ?_
  obtain ⟨w1, b2, he, hB3, hx4, eb5, lb6⟩ := ef_box (P := Try.prog) (t := 26) (x := (.tmp 1)) hf rfl rfl w 0
  refine rV hf rfl he fun a hf => ?_
  have ge_b2 := ge_new hE eb5
  have hn : v0.ownBlock ≠ some b2 := fun e => by have := (hO.ge e).2; omega
  replace hO := hO.t0 hx4
  replace hE := hE.t0 hx4
  clear eb5 lb6
  refine rR 6 hf rfl fun a hf => rV hf rfl (ex_loadB hf rfl (by kernel_rfl) hB3 rfl) fun a hf => rV hf rfl (ex_len hf Try.underlying24 rfl) fun a hf => rR 7 hf rfl fun a hf => rV hf rfl (ex_loadB hf rfl (by kernel_rfl) hB3 rfl) fun a hf => rR 88 hf rfl fun a hf => ?_
  have hEs := hE
  have s_hB3 := hB3
  refine rD (fun x => x.cell? ⟨b2, 0, none⟩ = w1.cell? ⟨b2, 0, none⟩ ∧ x.cell? ⟨b2, 1, none⟩ = w1.cell? ⟨b2, 1, none⟩ ∧ x.cell? ⟨b2, 2, none⟩ = w1.cell? ⟨b2, 2, none⟩ ∧ x.cell? ⟨b2, 3, none⟩ = w1.cell? ⟨b2, 3, none⟩) 12 12 rfl (by kernel_rfl) (by kernel_rfl) ?_
  intro w7 hx8 hsel
  replace hB3 := hB3.c0 hx8
  replace hO := hO.t0 hx8
  replace hE := hE.t0 hx8
  have hS0 : w7.cell? ⟨b2, 0, none⟩ = w1.cell? ⟨b2, 0, none⟩ ∧ w7.cell? ⟨b2, 1, none⟩ = w1.cell? ⟨b2, 1, none⟩ ∧ w7.cell? ⟨b2, 2, none⟩ = w1.cell? ⟨b2, 2, none⟩ ∧ w7.cell? ⟨b2, 3, none⟩ = w1.cell? ⟨b2, 3, none⟩ := ⟨(hB3.cell 0).trans (s_hB3.cell 0).symm, (hB3.cell 1).trans (s_hB3.cell 1).symm, (hB3.cell 2).trans (s_hB3.cell 2).symm, (hB3.cell 3).trans (s_hB3.cell 3).symm⟩
  refine dR [0] hsel (by kernel_rfl) hf rfl rfl (.inl hS0) fun a hf => dL 1 rfl rfl hsel (by kernel_rfl) hf rfl hS0 (fun x hS => ex_loadX4 hf rfl (by kernel_rfl) s_hB3 rfl hS.1 hS.2.1 hS.2.2.1 hS.2.2.2) fun a hf => dR [3] hsel (by kernel_rfl) hf rfl rfl (.inl hS0) fun a hf => dL 4 rfl rfl hsel (by kernel_rfl) hf rfl hS0 (fun x hS => ex_load hf rfl (by kernel_rfl) (hS.2.1.trans ((s_hB3.cell 1).trans rfl))) fun a hf => dL 6 rfl rfl hsel (by kernel_rfl) hf rfl hS0 (fun x hS => ex_loadX4 hf rfl (by kernel_rfl) s_hB3 rfl hS.1 hS.2.1 hS.2.2.1 hS.2.2.2) fun a hf => dl_c 2 (by kernel_rfl) rfl hf rfl rfl rfl (by kernel_rfl) (leadAtR (ls := (l0 :: l1 :: l2 :: ms)) (j := 0) rfl (row_now hL hE hVB)) ?_
  rintro _ w10 ⟨rfl, hx9⟩
  refine ⟨_, rfl, fun a hf => ?_⟩
  replace hB3 := hB3.c0 hx9
  replace hO := hO.t0 hx9
  replace hE := hE.t0 hx9
  clear hS0
  have hS0 : w10.cell? ⟨b2, 0, none⟩ = w1.cell? ⟨b2, 0, none⟩ ∧ w10.cell? ⟨b2, 1, none⟩ = w1.cell? ⟨b2, 1, none⟩ ∧ w10.cell? ⟨b2, 2, none⟩ = w1.cell? ⟨b2, 2, none⟩ ∧ w10.cell? ⟨b2, 3, none⟩ = w1.cell? ⟨b2, 3, none⟩ := ⟨(hB3.cell 0).trans (s_hB3.cell 0).symm, (hB3.cell 1).trans (s_hB3.cell 1).symm, (hB3.cell 2).trans (s_hB3.cell 2).symm, (hB3.cell 3).trans (s_hB3.cell 3).symm⟩
  refine ⟨.inl hS0, ?_⟩
  refine dV 5 rfl rfl hsel (by kernel_rfl) hf rfl (.inl hS0) (fun x => ex_bd (ps := [(0, (.tmp 206)), (1, (.tmp 208))]) (z := [.string ⟨([] : List UInt8).toArray⟩, .string ⟨([] : List UInt8).toArray⟩]) (os := [0, 1]) hf rfl (by kernel_rfl) (by kernel_rfl) (by kernel_rfl) rfl rfl) fun a hf => dl_c 7 (by kernel_rfl) rfl hf rfl rfl rfl (by kernel_rfl) (leadAtR (ls := (l0 :: l1 :: l2 :: ms)) (j := 1) rfl (row_now hL hE hVB)) ?_
  rintro _ w12 ⟨rfl, hx11⟩
  refine ⟨_, rfl, fun a hf => ?_⟩
  replace hB3 := hB3.c0 hx11
  replace hO := hO.t0 hx11
  replace hE := hE.t0 hx11
  clear hS0
  have hS0 : w12.cell? ⟨b2, 0, none⟩ = w1.cell? ⟨b2, 0, none⟩ ∧ w12.cell? ⟨b2, 1, none⟩ = w1.cell? ⟨b2, 1, none⟩ ∧ w12.cell? ⟨b2, 2, none⟩ = w1.cell? ⟨b2, 2, none⟩ ∧ w12.cell? ⟨b2, 3, none⟩ = w1.cell? ⟨b2, 3, none⟩ := ⟨(hB3.cell 0).trans (s_hB3.cell 0).symm, (hB3.cell 1).trans (s_hB3.cell 1).symm, (hB3.cell 2).trans (s_hB3.cell 2).symm, (hB3.cell 3).trans (s_hB3.cell 3).symm⟩
  refine ⟨.inl hS0, ?_⟩
  refine dV 8 rfl rfl hsel (by kernel_rfl) hf rfl (.inl hS0) (fun x => ex_bd (ps := [(0, (.tmp 211)), (1, (.const (.string ⟨#[40]⟩)))]) (z := [.string ⟨([] : List UInt8).toArray⟩, .string ⟨([] : List UInt8).toArray⟩]) (os := [0, 1]) hf rfl (by kernel_rfl) (by kernel_rfl) (by kernel_rfl) rfl rfl) fun a hf => ?_
  obtain ⟨w13, b14, he, hB15, hx16, eb17, lb18⟩ := ef_bslice (P := Try.prog) (ps := [(0, (.tmp 209)), (1, (.tmp 212))]) (m := 2) (sz := 2) (z := [.string ⟨([] : List UInt8).toArray⟩, .string ⟨([] : List UInt8).toArray⟩]) hf rfl Try.underlying54 (by kernel_rfl) (by kernel_rfl) rfl rfl (by kernel_rfl) rfl w12 54
  refine dl_e 9 (by kernel_rfl) rfl hf rfl rfl he fun a hf => ?_
  have ne_b2_b14 : b2 ≠ b14 := ne_new hB3.lt eb17
  have ge_b14 := ge_new hE eb17
  replace hB3 := hB3.c0 hx16
  replace hO := hO.t0 hx16
  replace hE := hE.t0 hx16
  clear eb17 lb18
  clear hS0
  have hS0 : w13.cell? ⟨b2, 0, none⟩ = w1.cell? ⟨b2, 0, none⟩ ∧ w13.cell? ⟨b2, 1, none⟩ = w1.cell? ⟨b2, 1, none⟩ ∧ w13.cell? ⟨b2, 2, none⟩ = w1.cell? ⟨b2, 2, none⟩ ∧ w13.cell? ⟨b2, 3, none⟩ = w1.cell? ⟨b2, 3, none⟩ := ⟨(hB3.cell 0).trans (s_hB3.cell 0).symm, (hB3.cell 1).trans (s_hB3.cell 1).symm, (hB3.cell 2).trans (s_hB3.cell 2).symm, (hB3.cell 3).trans (s_hB3.cell 3).symm⟩
  refine ⟨.inl hS0, ?_⟩
  obtain ⟨v20, w19, he, hO21, hx22, hfr23⟩ := eP (.tmp 204) (.tmp 213) [(l0, x), (l1, [40])] hf rfl rfl hO hB15 rfl (by (try simp only [List.length_cons, List.length_nil]); omega) (nlt hBs hE.size) 54
  refine dl_e 10 (by kernel_rfl) rfl hf rfl rfl he fun a hf => ?_
  have hn2 := own_ne hfr23 hn hB3.lt
  have hg2 := own_from hfr23 hg hE.size
  replace hB3 := hB3.chg hx22 (nmO hn)
  replace hE := chg_own hE hx22 hg
  clear hO hn hg hfr23
  have hO := hO21; clear hO21
  have hn := hn2; clear hn2
  have hg := hg2; clear hg2
  obtain ⟨ps24, eps24⟩ : ∃ z, z = ps ++ [(l0, x), (l1, [40])] := ⟨_, rfl⟩
  rw [← eps24] at hO
  have lps24 : ps24.length = ps.length + 2 := by rw [eps24]; simp
  clear hS0
  have hS0 : w19.cell? ⟨b2, 0, none⟩ = w1.cell? ⟨b2, 0, none⟩ ∧ w19.cell? ⟨b2, 1, none⟩ = w1.cell? ⟨b2, 1, none⟩ ∧ w19.cell? ⟨b2, 2, none⟩ = w1.cell? ⟨b2, 2, none⟩ ∧ w19.cell? ⟨b2, 3, none⟩ = w1.cell? ⟨b2, 3, none⟩ := ⟨(hB3.cell 0).trans (s_hB3.cell 0).symm, (hB3.cell 1).trans (s_hB3.cell 1).symm, (hB3.cell 2).trans (s_hB3.cell 2).symm, (hB3.cell 3).trans (s_hB3.cell 3).symm⟩
  refine ⟨.inl hS0, ?_⟩
  refine dR [11] hsel (by kernel_rfl) hf rfl rfl (.inl hS0) fun a hf => rN (by kernel_rfl) ?_
  clear hS0 hsel
  refine rR 2 hf rfl fun a hf => ?_
  have hEs := hE
  have s_hB3 := hB3
  refine rD (fun x => x.cell? ⟨b2, 0, none⟩ = w19.cell? ⟨b2, 0, none⟩ ∧ x.cell? ⟨b2, 1, none⟩ = w19.cell? ⟨b2, 1, none⟩ ∧ x.cell? ⟨b2, 2, none⟩ = w19.cell? ⟨b2, 2, none⟩ ∧ x.cell? ⟨b2, 3, none⟩ = w19.cell? ⟨b2, 3, none⟩) 10 10 rfl (by kernel_rfl) (by kernel_rfl) ?_
  intro w25 hx26 hsel
  replace hB3 := hB3.c0 hx26
  replace hO := hO.t0 hx26
  replace hE := hE.t0 hx26
  have hS0 : w25.cell? ⟨b2, 0, none⟩ = w19.cell? ⟨b2, 0, none⟩ ∧ w25.cell? ⟨b2, 1, none⟩ = w19.cell? ⟨b2, 1, none⟩ ∧ w25.cell? ⟨b2, 2, none⟩ = w19.cell? ⟨b2, 2, none⟩ ∧ w25.cell? ⟨b2, 3, none⟩ = w19.cell? ⟨b2, 3, none⟩ := ⟨(hB3.cell 0).trans (s_hB3.cell 0).symm, (hB3.cell 1).trans (s_hB3.cell 1).symm, (hB3.cell 2).trans (s_hB3.cell 2).symm, (hB3.cell 3).trans (s_hB3.cell 3).symm⟩
  refine dR [0] hsel (by kernel_rfl) hf rfl rfl (.inl hS0) fun a hf => dL 1 rfl rfl hsel (by kernel_rfl) hf rfl hS0 (fun x hS => ex_loadX4 hf rfl (by kernel_rfl) s_hB3 rfl hS.1 hS.2.1 hS.2.2.1 hS.2.2.2) fun a hf => dR [2] hsel (by kernel_rfl) hf rfl rfl (.inl hS0) fun a hf => dL 4 rfl rfl hsel (by kernel_rfl) hf rfl hS0 (fun x hS => ex_loadX4 hf rfl (by kernel_rfl) s_hB3 rfl hS.1 hS.2.1 hS.2.2.1 hS.2.2.2) fun a hf => dl_c 3 (by kernel_rfl) rfl hf rfl rfl rfl (by kernel_rfl) (rowR ih (to := ks.length) (c := 3) (ps := ps24) rfl (by decide) (Nat.le_refl _) (by omega) (by decide) (by decide) hks (by omega) hO (row_now hL hE hVB) (kids_now hK hE hVB) (row_now hR hE hVB) (nlt hBs hE.size)) ?_
  rintro _ w31 ⟨v28, rfl, hO29, hx27, hfr30⟩
  refine ⟨_, rfl, fun a hf => ?_⟩
  have hn2 := own_ne hfr30 hn hB3.lt
  have hg2 := own_from hfr30 hg hE.size
  replace hB3 := hB3.chg hx27 (nmO hn)
  replace hE := chg_own hE hx27 hg
  clear hO hn hg hfr30
  have hO := hO29; clear hO29
  have hn := hn2; clear hn2
  have hg := hg2; clear hg2
  obtain ⟨ps32, eps32⟩ : ∃ z, z = ps24 ++ rowC (l0 :: l1 :: l2 :: ms) 3 (pcsTs (ks.take ks.length)) 0 := ⟨_, rfl⟩
  rw [← eps32] at hO
  have lps32 : ps32.length = ps24.length + (rowC (l0 :: l1 :: l2 :: ms) 3 (pcsTs (ks.take ks.length)) 0).length := by rw [eps32, List.length_append]
  clear hS0
  have hS0 : w31.cell? ⟨b2, 0, none⟩ = w19.cell? ⟨b2, 0, none⟩ ∧ w31.cell? ⟨b2, 1, none⟩ = w19.cell? ⟨b2, 1, none⟩ ∧ w31.cell? ⟨b2, 2, none⟩ = w19.cell? ⟨b2, 2, none⟩ ∧ w31.cell? ⟨b2, 3, none⟩ = w19.cell? ⟨b2, 3, none⟩ := ⟨(hB3.cell 0).trans (s_hB3.cell 0).symm, (hB3.cell 1).trans (s_hB3.cell 1).symm, (hB3.cell 2).trans (s_hB3.cell 2).symm, (hB3.cell 3).trans (s_hB3.cell 3).symm⟩
  refine ⟨.inl hS0, ?_⟩
  refine dl_c 5 (by kernel_rfl) rfl hf rfl rfl rfl (by kernel_rfl) (leadAtR (ls := (l0 :: l1 :: l2 :: ms)) (j := 2) rfl (row_now hL hE hVB)) ?_
  rintro _ w34 ⟨rfl, hx33⟩
  refine ⟨_, rfl, fun a hf => ?_⟩
  replace hB3 := hB3.c0 hx33
  replace hO := hO.t0 hx33
  replace hE := hE.t0 hx33
  clear hS0
  have hS0 : w34.cell? ⟨b2, 0, none⟩ = w19.cell? ⟨b2, 0, none⟩ ∧ w34.cell? ⟨b2, 1, none⟩ = w19.cell? ⟨b2, 1, none⟩ ∧ w34.cell? ⟨b2, 2, none⟩ = w19.cell? ⟨b2, 2, none⟩ ∧ w34.cell? ⟨b2, 3, none⟩ = w19.cell? ⟨b2, 3, none⟩ := ⟨(hB3.cell 0).trans (s_hB3.cell 0).symm, (hB3.cell 1).trans (s_hB3.cell 1).symm, (hB3.cell 2).trans (s_hB3.cell 2).symm, (hB3.cell 3).trans (s_hB3.cell 3).symm⟩
  refine ⟨.inl hS0, ?_⟩
  refine dV 6 rfl rfl hsel (by kernel_rfl) hf rfl (.inl hS0) (fun x => ex_bd (ps := [(0, (.tmp 220)), (1, (.const (.string ⟨#[41]⟩)))]) (z := [.string ⟨([] : List UInt8).toArray⟩, .string ⟨([] : List UInt8).toArray⟩]) (os := [0, 1]) hf rfl (by kernel_rfl) (by kernel_rfl) (by kernel_rfl) rfl rfl) fun a hf => ?_
  obtain ⟨w35, b36, he, hB37, hx38, eb39, lb40⟩ := ef_bslice (P := Try.prog) (ps := [(0, (.tmp 221))]) (m := 1) (sz := 2) (z := [.string ⟨([] : List UInt8).toArray⟩, .string ⟨([] : List UInt8).toArray⟩]) hf rfl Try.underlying54 (by kernel_rfl) (by kernel_rfl) rfl rfl (by kernel_rfl) rfl w34 54
  refine dl_e 7 (by kernel_rfl) rfl hf rfl rfl he fun a hf => ?_
  have ne_b2_b36 : b2 ≠ b36 := ne_new hB3.lt eb39
  have ge_b36 := ge_new hE eb39
  replace hB3 := hB3.c0 hx38
  replace hO := hO.t0 hx38
  replace hE := hE.t0 hx38
  clear eb39 lb40
  clear hS0
  have hS0 : w35.cell? ⟨b2, 0, none⟩ = w19.cell? ⟨b2, 0, none⟩ ∧ w35.cell? ⟨b2, 1, none⟩ = w19.cell? ⟨b2, 1, none⟩ ∧ w35.cell? ⟨b2, 2, none⟩ = w19.cell? ⟨b2, 2, none⟩ ∧ w35.cell? ⟨b2, 3, none⟩ = w19.cell? ⟨b2, 3, none⟩ := ⟨(hB3.cell 0).trans (s_hB3.cell 0).symm, (hB3.cell 1).trans (s_hB3.cell 1).symm, (hB3.cell 2).trans (s_hB3.cell 2).symm, (hB3.cell 3).trans (s_hB3.cell 3).symm⟩
  refine ⟨.inl hS0, ?_⟩
  obtain ⟨v42, w41, he, hO43, hx44, hfr45⟩ := eP (.tmp 218) (.tmp 222) [(l2, [41])] hf rfl rfl hO hB37 rfl (by (try simp only [List.length_cons, List.length_nil]); omega) (nlt hBs hE.size) 54
  refine dl_e 8 (by kernel_rfl) rfl hf rfl rfl he fun a hf => ?_
  have hn2 := own_ne hfr45 hn hB3.lt
  have hg2 := own_from hfr45 hg hE.size
  replace hB3 := hB3.chg hx44 (nmO hn)
  replace hE := chg_own hE hx44 hg
  clear hO hn hg hfr45
  have hO := hO43; clear hO43
  have hn := hn2; clear hn2
  have hg := hg2; clear hg2
  obtain ⟨ps46, eps46⟩ : ∃ z, z = ps32 ++ [(l2, [41])] := ⟨_, rfl⟩
  rw [← eps46] at hO
  have lps46 : ps46.length = ps32.length + 1 := by rw [eps46]; simp
  clear hS0
  have hS0 : w41.cell? ⟨b2, 0, none⟩ = w19.cell? ⟨b2, 0, none⟩ ∧ w41.cell? ⟨b2, 1, none⟩ = w19.cell? ⟨b2, 1, none⟩ ∧ w41.cell? ⟨b2, 2, none⟩ = w19.cell? ⟨b2, 2, none⟩ ∧ w41.cell? ⟨b2, 3, none⟩ = w19.cell? ⟨b2, 3, none⟩ := ⟨(hB3.cell 0).trans (s_hB3.cell 0).symm, (hB3.cell 1).trans (s_hB3.cell 1).symm, (hB3.cell 2).trans (s_hB3.cell 2).symm, (hB3.cell 3).trans (s_hB3.cell 3).symm⟩
  refine ⟨.inl hS0, ?_⟩
  refine dR [9] hsel (by kernel_rfl) hf rfl rfl (.inl hS0) fun a hf => rN (by kernel_rfl) ?_
  clear hS0 hsel
  refine rR 4 hf rfl fun a hf => ?_
  have eq : ps ++ pcsT (.node 16 x (l0 :: l1 :: l2 :: ms) ks) = ps46 := by subst eps46; subst eps32; subst eps24; simp [pcsT, nodeC, List.take_length]
  exact rT (rs := [.tmp 4]) hf rfl ⟨_, _, rfl, rfl, rfl⟩ ⟨_, rfl, eq ▸ hO, hE, fresh_all hg (.inl (own_some hO))⟩
theorem p18 {N : Nat} (ih : PiecesOk N) {w : World} {Bs : Nat} {v0 : Value} {ps : List Pc} {x : List UInt8} {l0 l1 : List UInt8} {ms : List (List UInt8)} {ks : List Tree} {cs : List Value} {A B : Option Addr} {m n : Nat} (hk9 : ks.length ≤ 1000000000) (hks : ∀ t, t ∈ ks → tsize t ≤ N ∧ (shapedT t && leadedT t && decide (tbulk t ≤ 1000000000)) = true)
    (hl1 : ps.length + (pcsT (.node 18 x (l0 :: l1 :: ms) ks)).length ≤ 1000000000) (hO : Ow Bs w v0 ps) (hL : RowIn (fun b => b < Bs) w 1 A (l0 :: l1 :: ms).length ((l0 :: l1 :: ms).map strV)) (hn0 : ks.length ≤ n) (hn2 : n ≤ maxLen) (hK : KidsAre (fun b => b < Bs) w ks cs) (hR : RowIn (fun b => b < Bs) w 4 B ks.length cs) (hBs : Bs ≤ w.heap.size) :
    Calls Try.prog 64 [v0, .agg #[.int .i64 18, strV x, .slice A (l0 :: l1 :: ms).length m, .slice B ks.length n]].toArray w fun e w' => ∃ v', e = .returned v' ∧ Ow Bs w' v' (ps ++ pcsT (.node 18 x (l0 :: l1 :: ms) ks)) ∧ Chg v0.ownBlock.toList w w' ∧ Fresh w v0 v' := by
  have hq : (pcsT (.node 18 x (l0 :: l1 :: ms) ks)).length = 2 + (rowC (l0 :: l1 :: ms) 2 (pcsTs (ks.take ks.length)) 0).length := by simp [pcsT, nodeC, List.take_length] <;> omega
  have hE := Chg.refl v0.ownBlock.toList w
  have hVB : ∀ g, g ∈ v0.ownBlock.toList → Bs ≤ g := fun g h => (hO.ge (by simpa using h)).1
  have hg : ∀ g, v0.ownBlock = some g → g ∈ v0.ownBlock.toList ∨ w.heap.size ≤ g := fun g e => .inl (by simpa using e)
  refine rE 365 Try.func64 rfl rfl rfl ?_
  intro a hf
  refine rR 2 hf rfl fun a hf => ?_
  obtain ⟨w1, b2, he, hB3, hx4, eb5, lb6⟩ := ef_box (P := Try.prog) (t := 26) (x := (.tmp 1)) hf rfl rfl w 0
  refine rV hf rfl he fun a hf => ?_
  have ge_b2 := ge_new hE eb5
  have hn : v0.ownBlock ≠ some b2 := fun e => by have := (hO.ge e).2; omega
  replace hO := hO.t0 hx4
  replace hE := hE.t0 hx4
  clear eb5 lb6
  refine rR 6 hf rfl fun a hf => rV hf rfl (ex_loadB hf rfl (by kernel_rfl) hB3 rfl) fun a hf => rV hf rfl (ex_len hf Try.underlying24 rfl) fun a hf => rR 7 hf rfl fun a hf => rV hf rfl (ex_loadB hf rfl (by kernel_rfl) hB3 rfl) fun a hf => rR 104 hf rfl fun a hf => rV hf rfl (ex_loadBN (m := 4) hf rfl (by kernel_rfl) hB3 rfl) fun a hf => rC hf rfl rfl (by kernel_rfl) (leadAtR (ls := (l0 :: l1 :: ms)) (j := 0) rfl (row_now hL hE hVB)) ?_
  rintro _ w8 ⟨rfl, hx7⟩
  refine ⟨_, rfl, fun a hf => ?_⟩
  replace hB3 := hB3.c0 hx7
  replace hO := hO.t0 hx7
  replace hE := hE.t0 hx7
  refine rV hf rfl (ex_bd (ps := [(0, (.tmp 236)), (1, (.const (.string ⟨#[91]⟩)))]) (z := [.string ⟨([] : List UInt8).toArray⟩, .string ⟨([] : List UInt8).toArray⟩]) (os := [0, 1]) hf rfl (by kernel_rfl) (by kernel_rfl) (by kernel_rfl) rfl rfl) fun a hf => ?_
  obtain ⟨w9, b10, he, hB11, hx12, eb13, lb14⟩ := ef_bslice (P := Try.prog) (ps := [(0, (.tmp 237))]) (m := 1) (sz := 2) (z := [.string ⟨([] : List UInt8).toArray⟩, .string ⟨([] : List UInt8).toArray⟩]) hf rfl Try.underlying54 (by kernel_rfl) (by kernel_rfl) rfl rfl (by kernel_rfl) rfl w8 54
  refine rV hf rfl he fun a hf => ?_
  have ne_b2_b10 : b2 ≠ b10 := ne_new hB3.lt eb13
  have ge_b10 := ge_new hE eb13
  replace hB3 := hB3.c0 hx12
  replace hO := hO.t0 hx12
  replace hE := hE.t0 hx12
  clear eb13 lb14
  obtain ⟨v16, w15, he, hO17, hx18, hfr19⟩ := eP (.tmp 234) (.tmp 238) [(l0, [91])] hf rfl rfl hO hB11 rfl (by (try simp only [List.length_cons, List.length_nil]); omega) (nlt hBs hE.size) 54
  refine rV hf rfl he fun a hf => ?_
  have hn2 := own_ne hfr19 hn hB3.lt
  have hg2 := own_from hfr19 hg hE.size
  replace hB3 := hB3.chg hx18 (nmO hn)
  replace hE := chg_own hE hx18 hg
  clear hO hn hg hfr19
  have hO := hO17; clear hO17
  have hn := hn2; clear hn2
  have hg := hg2; clear hg2
  obtain ⟨ps20, eps20⟩ : ∃ z, z = ps ++ [(l0, [91])] := ⟨_, rfl⟩
  rw [← eps20] at hO
  have lps20 : ps20.length = ps.length + 1 := by rw [eps20]; simp
  refine rR 4 hf rfl fun a hf => ?_
  have hEs := hE
  have s_hB3 := hB3
  refine rD (fun x => x.cell? ⟨b2, 0, none⟩ = w15.cell? ⟨b2, 0, none⟩ ∧ x.cell? ⟨b2, 1, none⟩ = w15.cell? ⟨b2, 1, none⟩ ∧ x.cell? ⟨b2, 2, none⟩ = w15.cell? ⟨b2, 2, none⟩ ∧ x.cell? ⟨b2, 3, none⟩ = w15.cell? ⟨b2, 3, none⟩) 10 10 rfl (by kernel_rfl) (by kernel_rfl) ?_
  intro w21 hx22 hsel
  replace hB3 := hB3.c0 hx22
  replace hO := hO.t0 hx22
  replace hE := hE.t0 hx22
  have hS0 : w21.cell? ⟨b2, 0, none⟩ = w15.cell? ⟨b2, 0, none⟩ ∧ w21.cell? ⟨b2, 1, none⟩ = w15.cell? ⟨b2, 1, none⟩ ∧ w21.cell? ⟨b2, 2, none⟩ = w15.cell? ⟨b2, 2, none⟩ ∧ w21.cell? ⟨b2, 3, none⟩ = w15.cell? ⟨b2, 3, none⟩ := ⟨(hB3.cell 0).trans (s_hB3.cell 0).symm, (hB3.cell 1).trans (s_hB3.cell 1).symm, (hB3.cell 2).trans (s_hB3.cell 2).symm, (hB3.cell 3).trans (s_hB3.cell 3).symm⟩
  refine dR [0] hsel (by kernel_rfl) hf rfl rfl (.inl hS0) fun a hf => dL 1 rfl rfl hsel (by kernel_rfl) hf rfl hS0 (fun x hS => ex_loadX4 hf rfl (by kernel_rfl) s_hB3 rfl hS.1 hS.2.1 hS.2.2.1 hS.2.2.2) fun a hf => dR [2] hsel (by kernel_rfl) hf rfl rfl (.inl hS0) fun a hf => dL 4 rfl rfl hsel (by kernel_rfl) hf rfl hS0 (fun x hS => ex_loadX4 hf rfl (by kernel_rfl) s_hB3 rfl hS.1 hS.2.1 hS.2.2.1 hS.2.2.2) fun a hf => dl_c 3 (by kernel_rfl) rfl hf rfl rfl rfl (by kernel_rfl) (rowR ih (to := ks.length) (c := 2) (ps := ps20) rfl (by decide) (Nat.le_refl _) (by omega) (by decide) (by decide) hks (by omega) hO (row_now hL hE hVB) (kids_now hK hE hVB) (row_now hR hE hVB) (nlt hBs hE.size)) ?_
  rintro _ w27 ⟨v24, rfl, hO25, hx23, hfr26⟩
  refine ⟨_, rfl, fun a hf => ?_⟩
  have hn2 := own_ne hfr26 hn hB3.lt
  have hg2 := own_from hfr26 hg hE.size
  replace hB3 := hB3.chg hx23 (nmO hn)
  replace hE := chg_own hE hx23 hg
  clear hO hn hg hfr26
  have hO := hO25; clear hO25
  have hn := hn2; clear hn2
  have hg := hg2; clear hg2
  obtain ⟨ps28, eps28⟩ : ∃ z, z = ps20 ++ rowC (l0 :: l1 :: ms) 2 (pcsTs (ks.take ks.length)) 0 := ⟨_, rfl⟩
  rw [← eps28] at hO
  have lps28 : ps28.length = ps20.length + (rowC (l0 :: l1 :: ms) 2 (pcsTs (ks.take ks.length)) 0).length := by rw [eps28, List.length_append]
  clear hS0
  have hS0 : w27.cell? ⟨b2, 0, none⟩ = w15.cell? ⟨b2, 0, none⟩ ∧ w27.cell? ⟨b2, 1, none⟩ = w15.cell? ⟨b2, 1, none⟩ ∧ w27.cell? ⟨b2, 2, none⟩ = w15.cell? ⟨b2, 2, none⟩ ∧ w27.cell? ⟨b2, 3, none⟩ = w15.cell? ⟨b2, 3, none⟩ := ⟨(hB3.cell 0).trans (s_hB3.cell 0).symm, (hB3.cell 1).trans (s_hB3.cell 1).symm, (hB3.cell 2).trans (s_hB3.cell 2).symm, (hB3.cell 3).trans (s_hB3.cell 3).symm⟩
  refine ⟨.inl hS0, ?_⟩
  refine dl_c 5 (by kernel_rfl) rfl hf rfl rfl rfl (by kernel_rfl) (leadAtR (ls := (l0 :: l1 :: ms)) (j := 1) rfl (row_now hL hE hVB)) ?_
  rintro _ w30 ⟨rfl, hx29⟩
  refine ⟨_, rfl, fun a hf => ?_⟩
  replace hB3 := hB3.c0 hx29
  replace hO := hO.t0 hx29
  replace hE := hE.t0 hx29
  clear hS0
  have hS0 : w30.cell? ⟨b2, 0, none⟩ = w15.cell? ⟨b2, 0, none⟩ ∧ w30.cell? ⟨b2, 1, none⟩ = w15.cell? ⟨b2, 1, none⟩ ∧ w30.cell? ⟨b2, 2, none⟩ = w15.cell? ⟨b2, 2, none⟩ ∧ w30.cell? ⟨b2, 3, none⟩ = w15.cell? ⟨b2, 3, none⟩ := ⟨(hB3.cell 0).trans (s_hB3.cell 0).symm, (hB3.cell 1).trans (s_hB3.cell 1).symm, (hB3.cell 2).trans (s_hB3.cell 2).symm, (hB3.cell 3).trans (s_hB3.cell 3).symm⟩
  refine ⟨.inl hS0, ?_⟩
  refine dV 6 rfl rfl hsel (by kernel_rfl) hf rfl (.inl hS0) (fun x => ex_bd (ps := [(0, (.tmp 245)), (1, (.const (.string ⟨#[93]⟩)))]) (z := [.string ⟨([] : List UInt8).toArray⟩, .string ⟨([] : List UInt8).toArray⟩]) (os := [0, 1]) hf rfl (by kernel_rfl) (by kernel_rfl) (by kernel_rfl) rfl rfl) fun a hf => ?_
  obtain ⟨w31, b32, he, hB33, hx34, eb35, lb36⟩ := ef_bslice (P := Try.prog) (ps := [(0, (.tmp 246))]) (m := 1) (sz := 2) (z := [.string ⟨([] : List UInt8).toArray⟩, .string ⟨([] : List UInt8).toArray⟩]) hf rfl Try.underlying54 (by kernel_rfl) (by kernel_rfl) rfl rfl (by kernel_rfl) rfl w30 54
  refine dl_e 7 (by kernel_rfl) rfl hf rfl rfl he fun a hf => ?_
  have ne_b2_b32 : b2 ≠ b32 := ne_new hB3.lt eb35
  have ge_b32 := ge_new hE eb35
  replace hB3 := hB3.c0 hx34
  replace hO := hO.t0 hx34
  replace hE := hE.t0 hx34
  clear eb35 lb36
  clear hS0
  have hS0 : w31.cell? ⟨b2, 0, none⟩ = w15.cell? ⟨b2, 0, none⟩ ∧ w31.cell? ⟨b2, 1, none⟩ = w15.cell? ⟨b2, 1, none⟩ ∧ w31.cell? ⟨b2, 2, none⟩ = w15.cell? ⟨b2, 2, none⟩ ∧ w31.cell? ⟨b2, 3, none⟩ = w15.cell? ⟨b2, 3, none⟩ := ⟨(hB3.cell 0).trans (s_hB3.cell 0).symm, (hB3.cell 1).trans (s_hB3.cell 1).symm, (hB3.cell 2).trans (s_hB3.cell 2).symm, (hB3.cell 3).trans (s_hB3.cell 3).symm⟩
  refine ⟨.inl hS0, ?_⟩
  obtain ⟨v38, w37, he, hO39, hx40, hfr41⟩ := eP (.tmp 243) (.tmp 247) [(l1, [93])] hf rfl rfl hO hB33 rfl (by (try simp only [List.length_cons, List.length_nil]); omega) (nlt hBs hE.size) 54
  refine dl_e 8 (by kernel_rfl) rfl hf rfl rfl he fun a hf => ?_
  have hn2 := own_ne hfr41 hn hB3.lt
  have hg2 := own_from hfr41 hg hE.size
  replace hB3 := hB3.chg hx40 (nmO hn)
  replace hE := chg_own hE hx40 hg
  clear hO hn hg hfr41
  have hO := hO39; clear hO39
  have hn := hn2; clear hn2
  have hg := hg2; clear hg2
  obtain ⟨ps42, eps42⟩ : ∃ z, z = ps28 ++ [(l1, [93])] := ⟨_, rfl⟩
  rw [← eps42] at hO
  have lps42 : ps42.length = ps28.length + 1 := by rw [eps42]; simp
  clear hS0
  have hS0 : w37.cell? ⟨b2, 0, none⟩ = w15.cell? ⟨b2, 0, none⟩ ∧ w37.cell? ⟨b2, 1, none⟩ = w15.cell? ⟨b2, 1, none⟩ ∧ w37.cell? ⟨b2, 2, none⟩ = w15.cell? ⟨b2, 2, none⟩ ∧ w37.cell? ⟨b2, 3, none⟩ = w15.cell? ⟨b2, 3, none⟩ := ⟨(hB3.cell 0).trans (s_hB3.cell 0).symm, (hB3.cell 1).trans (s_hB3.cell 1).symm, (hB3.cell 2).trans (s_hB3.cell 2).symm, (hB3.cell 3).trans (s_hB3.cell 3).symm⟩
  refine ⟨.inl hS0, ?_⟩
  refine dR [9] hsel (by kernel_rfl) hf rfl rfl (.inl hS0) fun a hf => rN (by kernel_rfl) ?_
  clear hS0 hsel
  refine rR 4 hf rfl fun a hf => ?_
  have eq : ps ++ pcsT (.node 18 x (l0 :: l1 :: ms) ks) = ps42 := by subst eps42; subst eps28; subst eps20; simp [pcsT, nodeC, List.take_length]
  exact rT (rs := [.tmp 4]) hf rfl ⟨_, _, rfl, rfl, rfl⟩ ⟨_, rfl, eq ▸ hO, hE, fresh_all hg (.inl (own_some hO))⟩
theorem nodeC2 (x : List UInt8) (ls : List (List UInt8)) (fs : List (List Pc)) (f g : List Pc) : nodeC 2 x ls (fs ++ [f, g]) = [(ls.getD 0 [], [100, 101, 102]), (ls.getD 1 [], x), (ls.getD 2 [], [40])] ++ rowC ls 6 fs 0 ++ [(ls.getD 3 [], [41]), (ls.getD 4 [], [58])] ++ f ++ [(ls.getD 5 [], [61])] ++ g := by
  unfold nodeC
  dsimp only
  rw [if_neg (by decide), if_pos rfl]
  have k1 : (fs ++ [f, g]).length - 2 = fs.length := by simp
  have k2 : (fs ++ [f, g]).length - 1 = fs.length + 1 := by simp
  rw [k1, k2]
  have t1 : (fs ++ [f, g]).take fs.length = fs := by rw [List.take_append_of_le_length (Nat.le_refl _), List.take_length]
  have t2 : (fs ++ [f, g]).getD fs.length [] = f := by rw [List.getD_eq_getElem?_getD, List.getElem?_append_right (Nat.le_refl _), Nat.sub_self]; rfl
  have t3 : (fs ++ [f, g]).getD (fs.length + 1) [] = g := by rw [List.getD_eq_getElem?_getD, List.getElem?_append_right (by omega), show fs.length + 1 - fs.length = 1 from by omega]; rfl
  rw [t1, t2, t3]
theorem take_left2 (qs : List Tree) (l : List Tree) : (qs ++ l).take qs.length = qs := by rw [List.take_append_of_le_length (Nat.le_refl _), List.take_length]
theorem p2 {N : Nat} (ih : PiecesOk N) {w : World} {Bs : Nat} {v0 : Value} {ps : List Pc} {x : List UInt8} {l0 l1 l2 l3 l4 l5 : List UInt8} {ms : List (List UInt8)} {k0 k1 : Tree} {qs : List Tree} {cs : List Value} {A B : Option Addr} {m n : Nat} (hk9 : (qs ++ [k0, k1]).length ≤ 1000000000) (hks : ∀ t, t ∈ (qs ++ [k0, k1]) → tsize t ≤ N ∧ (shapedT t && leadedT t && decide (tbulk t ≤ 1000000000)) = true)
    (hl1 : ps.length + (pcsT (.node 2 x (l0 :: l1 :: l2 :: l3 :: l4 :: l5 :: ms) (qs ++ [k0, k1]))).length ≤ 1000000000) (hO : Ow Bs w v0 ps) (hL : RowIn (fun b => b < Bs) w 1 A (l0 :: l1 :: l2 :: l3 :: l4 :: l5 :: ms).length ((l0 :: l1 :: l2 :: l3 :: l4 :: l5 :: ms).map strV)) (hn0 : (qs ++ [k0, k1]).length ≤ n) (hn2 : n ≤ maxLen) (hK : KidsAre (fun b => b < Bs) w (qs ++ [k0, k1]) cs) (hR : RowIn (fun b => b < Bs) w 4 B (qs ++ [k0, k1]).length cs) (hBs : Bs ≤ w.heap.size) :
    Calls Try.prog 64 [v0, .agg #[.int .i64 2, strV x, .slice A (l0 :: l1 :: l2 :: l3 :: l4 :: l5 :: ms).length m, .slice B (qs ++ [k0, k1]).length n]].toArray w fun e w' => ∃ v', e = .returned v' ∧ Ow Bs w' v' (ps ++ pcsT (.node 2 x (l0 :: l1 :: l2 :: l3 :: l4 :: l5 :: ms) (qs ++ [k0, k1]))) ∧ Chg v0.ownBlock.toList w w' ∧ Fresh w v0 v' := by
  have hq : (pcsT (.node 2 x (l0 :: l1 :: l2 :: l3 :: l4 :: l5 :: ms) (qs ++ [k0, k1]))).length = 6 + (rowC (l0 :: l1 :: l2 :: l3 :: l4 :: l5 :: ms) 6 (pcsTs ((qs ++ [k0, k1]).take qs.length)) 0).length + (pcsT k0).length + (pcsT k1).length := by rw [pcsT, pcsTs_app, pcsTs, pcsTs, pcsTs, nodeC2]; simp [pcsTs_length, take_left2] <;> omega
  have hq9 : (qs ++ [k0, k1]).length = qs.length + 2 := by simp
  have hE := Chg.refl v0.ownBlock.toList w
  have hVB : ∀ g, g ∈ v0.ownBlock.toList → Bs ≤ g := fun g h => (hO.ge (by simpa using h)).1
  have hg : ∀ g, v0.ownBlock = some g → g ∈ v0.ownBlock.toList ∨ w.heap.size ≤ g := fun g e => .inl (by simpa using e)
  obtain ⟨kb, ko, rfl, lbB, hkb, _⟩ := hR.2 (by simp)
  obtain ⟨d00, d01, d02, d03, hT0, hc0⟩ := kid_at hK hR rfl (i := qs.length) (t := k0) (by simp)
  have on0 := hT0.one
  obtain ⟨d10, d11, d12, d13, hT1, hc1⟩ := kid_at hK hR rfl (i := qs.length + 1) (t := k1) (by simp)
  have on1 := hT1.one
  refine rE 365 Try.func64 rfl rfl rfl ?_
  intro a hf
  refine rR 2 hf rfl fun a hf => ?_
  obtain ⟨w1, b2, he, hB3, hx4, eb5, lb6⟩ := ef_box (P := Try.prog) (t := 26) (x := (.tmp 1)) hf rfl rfl w 0
  refine rV hf rfl he fun a hf => ?_
  have ge_b2 := ge_new hE eb5
  have hn : v0.ownBlock ≠ some b2 := fun e => by have := (hO.ge e).2; omega
  replace hO := hO.t0 hx4
  replace hE := hE.t0 hx4
  clear eb5 lb6
  refine rR 6 hf rfl fun a hf => rV hf rfl (ex_loadB hf rfl (by kernel_rfl) hB3 rfl) fun a hf => rV hf rfl (ex_len hf Try.underlying24 rfl) fun a hf => rR 7 hf rfl fun a hf => rV hf rfl (ex_loadB hf rfl (by kernel_rfl) hB3 rfl) fun a hf => rR 18 hf rfl fun a hf => ?_
  have hEs := hE
  have s_hB3 := hB3
  refine rD (fun x => x.cell? ⟨b2, 0, none⟩ = w1.cell? ⟨b2, 0, none⟩ ∧ x.cell? ⟨b2, 1, none⟩ = w1.cell? ⟨b2, 1, none⟩ ∧ x.cell? ⟨b2, 2, none⟩ = w1.cell? ⟨b2, 2, none⟩ ∧ x.cell? ⟨b2, 3, none⟩ = w1.cell? ⟨b2, 3, none⟩) 15 15 rfl (by kernel_rfl) (by kernel_rfl) ?_
  intro w7 hx8 hsel
  replace hB3 := hB3.c0 hx8
  replace hO := hO.t0 hx8
  replace hE := hE.t0 hx8
  have hS0 : w7.cell? ⟨b2, 0, none⟩ = w1.cell? ⟨b2, 0, none⟩ ∧ w7.cell? ⟨b2, 1, none⟩ = w1.cell? ⟨b2, 1, none⟩ ∧ w7.cell? ⟨b2, 2, none⟩ = w1.cell? ⟨b2, 2, none⟩ ∧ w7.cell? ⟨b2, 3, none⟩ = w1.cell? ⟨b2, 3, none⟩ := ⟨(hB3.cell 0).trans (s_hB3.cell 0).symm, (hB3.cell 1).trans (s_hB3.cell 1).symm, (hB3.cell 2).trans (s_hB3.cell 2).symm, (hB3.cell 3).trans (s_hB3.cell 3).symm⟩
  refine dR [0] hsel (by kernel_rfl) hf rfl rfl (.inl hS0) fun a hf => dL 1 rfl rfl hsel (by kernel_rfl) hf rfl hS0 (fun x hS => ex_loadX4 hf rfl (by kernel_rfl) s_hB3 rfl hS.1 hS.2.1 hS.2.2.1 hS.2.2.2) fun a hf => dL 4 rfl rfl hsel (by kernel_rfl) hf rfl hS0 (fun x hS => ex_loadX4 hf rfl (by kernel_rfl) s_hB3 rfl hS.1 hS.2.1 hS.2.2.1 hS.2.2.2) fun a hf => dR [6] hsel (by kernel_rfl) hf rfl rfl (.inl hS0) fun a hf => dL 7 rfl rfl hsel (by kernel_rfl) hf rfl hS0 (fun x hS => ex_load hf rfl (by kernel_rfl) (hS.2.1.trans ((s_hB3.cell 1).trans rfl))) fun a hf => dL 9 rfl rfl hsel (by kernel_rfl) hf rfl hS0 (fun x hS => ex_loadX4 hf rfl (by kernel_rfl) s_hB3 rfl hS.1 hS.2.1 hS.2.2.1 hS.2.2.2) fun a hf => dl_c 2 (by kernel_rfl) rfl hf rfl rfl rfl (by kernel_rfl) (leadAtR (ls := (l0 :: l1 :: l2 :: l3 :: l4 :: l5 :: ms)) (j := 0) rfl (row_now hL hE hVB)) ?_
  rintro _ w10 ⟨rfl, hx9⟩
  refine ⟨_, rfl, fun a hf => ?_⟩
  replace hB3 := hB3.c0 hx9
  replace hO := hO.t0 hx9
  replace hE := hE.t0 hx9
  clear hS0
  have hS0 : w10.cell? ⟨b2, 0, none⟩ = w1.cell? ⟨b2, 0, none⟩ ∧ w10.cell? ⟨b2, 1, none⟩ = w1.cell? ⟨b2, 1, none⟩ ∧ w10.cell? ⟨b2, 2, none⟩ = w1.cell? ⟨b2, 2, none⟩ ∧ w10.cell? ⟨b2, 3, none⟩ = w1.cell? ⟨b2, 3, none⟩ := ⟨(hB3.cell 0).trans (s_hB3.cell 0).symm, (hB3.cell 1).trans (s_hB3.cell 1).symm, (hB3.cell 2).trans (s_hB3.cell 2).symm, (hB3.cell 3).trans (s_hB3.cell 3).symm⟩
  refine ⟨.inl hS0, ?_⟩
  refine dV 3 rfl rfl hsel (by kernel_rfl) hf rfl (.inl hS0) (fun x => ex_bd (ps := [(0, (.tmp 47)), (1, (.const (.string ⟨#[100, 101, 102]⟩)))]) (z := [.string ⟨([] : List UInt8).toArray⟩, .string ⟨([] : List UInt8).toArray⟩]) (os := [0, 1]) hf rfl (by kernel_rfl) (by kernel_rfl) (by kernel_rfl) rfl rfl) fun a hf => dl_c 5 (by kernel_rfl) rfl hf rfl rfl rfl (by kernel_rfl) (leadAtR (ls := (l0 :: l1 :: l2 :: l3 :: l4 :: l5 :: ms)) (j := 1) rfl (row_now hL hE hVB)) ?_
  rintro _ w12 ⟨rfl, hx11⟩
  refine ⟨_, rfl, fun a hf => ?_⟩
  replace hB3 := hB3.c0 hx11
  replace hO := hO.t0 hx11
  replace hE := hE.t0 hx11
  clear hS0
  have hS0 : w12.cell? ⟨b2, 0, none⟩ = w1.cell? ⟨b2, 0, none⟩ ∧ w12.cell? ⟨b2, 1, none⟩ = w1.cell? ⟨b2, 1, none⟩ ∧ w12.cell? ⟨b2, 2, none⟩ = w1.cell? ⟨b2, 2, none⟩ ∧ w12.cell? ⟨b2, 3, none⟩ = w1.cell? ⟨b2, 3, none⟩ := ⟨(hB3.cell 0).trans (s_hB3.cell 0).symm, (hB3.cell 1).trans (s_hB3.cell 1).symm, (hB3.cell 2).trans (s_hB3.cell 2).symm, (hB3.cell 3).trans (s_hB3.cell 3).symm⟩
  refine ⟨.inl hS0, ?_⟩
  refine dV 8 rfl rfl hsel (by kernel_rfl) hf rfl (.inl hS0) (fun x => ex_bd (ps := [(0, (.tmp 50)), (1, (.tmp 52))]) (z := [.string ⟨([] : List UInt8).toArray⟩, .string ⟨([] : List UInt8).toArray⟩]) (os := [0, 1]) hf rfl (by kernel_rfl) (by kernel_rfl) (by kernel_rfl) rfl rfl) fun a hf => dl_c 10 (by kernel_rfl) rfl hf rfl rfl rfl (by kernel_rfl) (leadAtR (ls := (l0 :: l1 :: l2 :: l3 :: l4 :: l5 :: ms)) (j := 2) rfl (row_now hL hE hVB)) ?_
  rintro _ w14 ⟨rfl, hx13⟩
  refine ⟨_, rfl, fun a hf => ?_⟩
  replace hB3 := hB3.c0 hx13
  replace hO := hO.t0 hx13
  replace hE := hE.t0 hx13
  clear hS0
  have hS0 : w14.cell? ⟨b2, 0, none⟩ = w1.cell? ⟨b2, 0, none⟩ ∧ w14.cell? ⟨b2, 1, none⟩ = w1.cell? ⟨b2, 1, none⟩ ∧ w14.cell? ⟨b2, 2, none⟩ = w1.cell? ⟨b2, 2, none⟩ ∧ w14.cell? ⟨b2, 3, none⟩ = w1.cell? ⟨b2, 3, none⟩ := ⟨(hB3.cell 0).trans (s_hB3.cell 0).symm, (hB3.cell 1).trans (s_hB3.cell 1).symm, (hB3.cell 2).trans (s_hB3.cell 2).symm, (hB3.cell 3).trans (s_hB3.cell 3).symm⟩
  refine ⟨.inl hS0, ?_⟩
  refine dV 11 rfl rfl hsel (by kernel_rfl) hf rfl (.inl hS0) (fun x => ex_bd (ps := [(0, (.tmp 55)), (1, (.const (.string ⟨#[40]⟩)))]) (z := [.string ⟨([] : List UInt8).toArray⟩, .string ⟨([] : List UInt8).toArray⟩]) (os := [0, 1]) hf rfl (by kernel_rfl) (by kernel_rfl) (by kernel_rfl) rfl rfl) fun a hf => ?_
  obtain ⟨w15, b16, he, hB17, hx18, eb19, lb20⟩ := ef_bslice (P := Try.prog) (ps := [(0, (.tmp 48)), (1, (.tmp 53)), (2, (.tmp 56))]) (m := 3) (sz := 2) (z := [.string ⟨([] : List UInt8).toArray⟩, .string ⟨([] : List UInt8).toArray⟩]) hf rfl Try.underlying54 (by kernel_rfl) (by kernel_rfl) rfl rfl (by kernel_rfl) rfl w14 54
  refine dl_e 12 (by kernel_rfl) rfl hf rfl rfl he fun a hf => ?_
  have ne_b2_b16 : b2 ≠ b16 := ne_new hB3.lt eb19
  have ge_b16 := ge_new hE eb19
  replace hB3 := hB3.c0 hx18
  replace hO := hO.t0 hx18
  replace hE := hE.t0 hx18
  clear eb19 lb20
  clear hS0
  have hS0 : w15.cell? ⟨b2, 0, none⟩ = w1.cell? ⟨b2, 0, none⟩ ∧ w15.cell? ⟨b2, 1, none⟩ = w1.cell? ⟨b2, 1, none⟩ ∧ w15.cell? ⟨b2, 2, none⟩ = w1.cell? ⟨b2, 2, none⟩ ∧ w15.cell? ⟨b2, 3, none⟩ = w1.cell? ⟨b2, 3, none⟩ := ⟨(hB3.cell 0).trans (s_hB3.cell 0).symm, (hB3.cell 1).trans (s_hB3.cell 1).symm, (hB3.cell 2).trans (s_hB3.cell 2).symm, (hB3.cell 3).trans (s_hB3.cell 3).symm⟩
  refine ⟨.inl hS0, ?_⟩
  obtain ⟨v22, w21, he, hO23, hx24, hfr25⟩ := eP (.tmp 45) (.tmp 57) [(l0, [100, 101, 102]), (l1, x), (l2, [40])] hf rfl rfl hO hB17 rfl (by (try simp only [List.length_cons, List.length_nil]); omega) (nlt hBs hE.size) 54
  refine dl_e 13 (by kernel_rfl) rfl hf rfl rfl he fun a hf => ?_
  have hn2 := own_ne hfr25 hn hB3.lt
  have hg2 := own_from hfr25 hg hE.size
  replace hB3 := hB3.chg hx24 (nmO hn)
  replace hE := chg_own hE hx24 hg
  clear hO hn hg hfr25
  have hO := hO23; clear hO23
  have hn := hn2; clear hn2
  have hg := hg2; clear hg2
  obtain ⟨ps26, eps26⟩ : ∃ z, z = ps ++ [(l0, [100, 101, 102]), (l1, x), (l2, [40])] := ⟨_, rfl⟩
  rw [← eps26] at hO
  have lps26 : ps26.length = ps.length + 3 := by rw [eps26]; simp
  clear hS0
  have hS0 : w21.cell? ⟨b2, 0, none⟩ = w1.cell? ⟨b2, 0, none⟩ ∧ w21.cell? ⟨b2, 1, none⟩ = w1.cell? ⟨b2, 1, none⟩ ∧ w21.cell? ⟨b2, 2, none⟩ = w1.cell? ⟨b2, 2, none⟩ ∧ w21.cell? ⟨b2, 3, none⟩ = w1.cell? ⟨b2, 3, none⟩ := ⟨(hB3.cell 0).trans (s_hB3.cell 0).symm, (hB3.cell 1).trans (s_hB3.cell 1).symm, (hB3.cell 2).trans (s_hB3.cell 2).symm, (hB3.cell 3).trans (s_hB3.cell 3).symm⟩
  refine ⟨.inl hS0, ?_⟩
  refine dR [14] hsel (by kernel_rfl) hf rfl rfl (.inl hS0) fun a hf => rN (by kernel_rfl) ?_
  clear hS0 hsel
  refine rR 4 hf rfl fun a hf => rV hf rfl (ex_loadBN (m := 4) hf rfl (by kernel_rfl) hB3 rfl) fun a hf => rR 1 hf rfl fun a hf => rV hf rfl (ex_subI hf rfl rfl rfl (by simp only [List.length_append, List.length_cons, List.length_nil]; omega)) fun a hf => rC hf rfl rfl (by kernel_rfl) (rowR ih (to := qs.length) (c := 6) (ps := ps26) (by simp only [List.length_append, List.length_cons, List.length_nil]; omega) (by decide) (by simp) (by omega) (by decide) (by decide) hks (by omega) hO (row_now hL hE hVB) (kids_now hK hE hVB) (row_now hR hE hVB) (nlt hBs hE.size)) ?_
  rintro _ w31 ⟨v28, rfl, hO29, hx27, hfr30⟩
  refine ⟨_, rfl, fun a hf => ?_⟩
  have hn2 := own_ne hfr30 hn hB3.lt
  have hg2 := own_from hfr30 hg hE.size
  replace hB3 := hB3.chg hx27 (nmO hn)
  replace hE := chg_own hE hx27 hg
  clear hO hn hg hfr30
  have hO := hO29; clear hO29
  have hn := hn2; clear hn2
  have hg := hg2; clear hg2
  obtain ⟨ps32, eps32⟩ : ∃ z, z = ps26 ++ rowC (l0 :: l1 :: l2 :: l3 :: l4 :: l5 :: ms) 6 (pcsTs ((qs ++ [k0, k1]).take qs.length)) 0 := ⟨_, rfl⟩
  rw [← eps32] at hO
  have lps32 : ps32.length = ps26.length + (rowC (l0 :: l1 :: l2 :: l3 :: l4 :: l5 :: ms) 6 (pcsTs ((qs ++ [k0, k1]).take qs.length)) 0).length := by rw [eps32, List.length_append]
  refine rR 4 hf rfl fun a hf => ?_
  have hEs := hE
  have s_hB3 := hB3
  refine rD (fun x => x.cell? ⟨b2, 0, none⟩ = w31.cell? ⟨b2, 0, none⟩ ∧ x.cell? ⟨b2, 1, none⟩ = w31.cell? ⟨b2, 1, none⟩ ∧ x.cell? ⟨b2, 2, none⟩ = w31.cell? ⟨b2, 2, none⟩ ∧ x.cell? ⟨b2, 3, none⟩ = w31.cell? ⟨b2, 3, none⟩) 10 10 rfl (by kernel_rfl) (by kernel_rfl) ?_
  intro w33 hx34 hsel
  replace hB3 := hB3.c0 hx34
  replace hO := hO.t0 hx34
  replace hE := hE.t0 hx34
  have hS0 : w33.cell? ⟨b2, 0, none⟩ = w31.cell? ⟨b2, 0, none⟩ ∧ w33.cell? ⟨b2, 1, none⟩ = w31.cell? ⟨b2, 1, none⟩ ∧ w33.cell? ⟨b2, 2, none⟩ = w31.cell? ⟨b2, 2, none⟩ ∧ w33.cell? ⟨b2, 3, none⟩ = w31.cell? ⟨b2, 3, none⟩ := ⟨(hB3.cell 0).trans (s_hB3.cell 0).symm, (hB3.cell 1).trans (s_hB3.cell 1).symm, (hB3.cell 2).trans (s_hB3.cell 2).symm, (hB3.cell 3).trans (s_hB3.cell 3).symm⟩
  refine dR [0] hsel (by kernel_rfl) hf rfl rfl (.inl hS0) fun a hf => dL 1 rfl rfl hsel (by kernel_rfl) hf rfl hS0 (fun x hS => ex_loadX4 hf rfl (by kernel_rfl) s_hB3 rfl hS.1 hS.2.1 hS.2.2.1 hS.2.2.2) fun a hf => dL 4 rfl rfl hsel (by kernel_rfl) hf rfl hS0 (fun x hS => ex_loadX4 hf rfl (by kernel_rfl) s_hB3 rfl hS.1 hS.2.1 hS.2.2.1 hS.2.2.2) fun a hf => dl_c 2 (by kernel_rfl) rfl hf rfl rfl rfl (by kernel_rfl) (leadAtR (ls := (l0 :: l1 :: l2 :: l3 :: l4 :: l5 :: ms)) (j := 3) rfl (row_now hL hE hVB)) ?_
  rintro _ w36 ⟨rfl, hx35⟩
  refine ⟨_, rfl, fun a hf => ?_⟩
  replace hB3 := hB3.c0 hx35
  replace hO := hO.t0 hx35
  replace hE := hE.t0 hx35
  clear hS0
  have hS0 : w36.cell? ⟨b2, 0, none⟩ = w31.cell? ⟨b2, 0, none⟩ ∧ w36.cell? ⟨b2, 1, none⟩ = w31.cell? ⟨b2, 1, none⟩ ∧ w36.cell? ⟨b2, 2, none⟩ = w31.cell? ⟨b2, 2, none⟩ ∧ w36.cell? ⟨b2, 3, none⟩ = w31.cell? ⟨b2, 3, none⟩ := ⟨(hB3.cell 0).trans (s_hB3.cell 0).symm, (hB3.cell 1).trans (s_hB3.cell 1).symm, (hB3.cell 2).trans (s_hB3.cell 2).symm, (hB3.cell 3).trans (s_hB3.cell 3).symm⟩
  refine ⟨.inl hS0, ?_⟩
  refine dV 3 rfl rfl hsel (by kernel_rfl) hf rfl (.inl hS0) (fun x => ex_bd (ps := [(0, (.tmp 66)), (1, (.const (.string ⟨#[41]⟩)))]) (z := [.string ⟨([] : List UInt8).toArray⟩, .string ⟨([] : List UInt8).toArray⟩]) (os := [0, 1]) hf rfl (by kernel_rfl) (by kernel_rfl) (by kernel_rfl) rfl rfl) fun a hf => dl_c 5 (by kernel_rfl) rfl hf rfl rfl rfl (by kernel_rfl) (leadAtR (ls := (l0 :: l1 :: l2 :: l3 :: l4 :: l5 :: ms)) (j := 4) rfl (row_now hL hE hVB)) ?_
  rintro _ w38 ⟨rfl, hx37⟩
  refine ⟨_, rfl, fun a hf => ?_⟩
  replace hB3 := hB3.c0 hx37
  replace hO := hO.t0 hx37
  replace hE := hE.t0 hx37
  clear hS0
  have hS0 : w38.cell? ⟨b2, 0, none⟩ = w31.cell? ⟨b2, 0, none⟩ ∧ w38.cell? ⟨b2, 1, none⟩ = w31.cell? ⟨b2, 1, none⟩ ∧ w38.cell? ⟨b2, 2, none⟩ = w31.cell? ⟨b2, 2, none⟩ ∧ w38.cell? ⟨b2, 3, none⟩ = w31.cell? ⟨b2, 3, none⟩ := ⟨(hB3.cell 0).trans (s_hB3.cell 0).symm, (hB3.cell 1).trans (s_hB3.cell 1).symm, (hB3.cell 2).trans (s_hB3.cell 2).symm, (hB3.cell 3).trans (s_hB3.cell 3).symm⟩
  refine ⟨.inl hS0, ?_⟩
  refine dV 6 rfl rfl hsel (by kernel_rfl) hf rfl (.inl hS0) (fun x => ex_bd (ps := [(0, (.tmp 69)), (1, (.const (.string ⟨#[58]⟩)))]) (z := [.string ⟨([] : List UInt8).toArray⟩, .string ⟨([] : List UInt8).toArray⟩]) (os := [0, 1]) hf rfl (by kernel_rfl) (by kernel_rfl) (by kernel_rfl) rfl rfl) fun a hf => ?_
  obtain ⟨w39, b40, he, hB41, hx42, eb43, lb44⟩ := ef_bslice (P := Try.prog) (ps := [(0, (.tmp 67)), (1, (.tmp 70))]) (m := 2) (sz := 2) (z := [.string ⟨([] : List UInt8).toArray⟩, .string ⟨([] : List UInt8).toArray⟩]) hf rfl Try.underlying54 (by kernel_rfl) (by kernel_rfl) rfl rfl (by kernel_rfl) rfl w38 54
  refine dl_e 7 (by kernel_rfl) rfl hf rfl rfl he fun a hf => ?_
  have ne_b2_b40 : b2 ≠ b40 := ne_new hB3.lt eb43
  have ge_b40 := ge_new hE eb43
  replace hB3 := hB3.c0 hx42
  replace hO := hO.t0 hx42
  replace hE := hE.t0 hx42
  clear eb43 lb44
  clear hS0
  have hS0 : w39.cell? ⟨b2, 0, none⟩ = w31.cell? ⟨b2, 0, none⟩ ∧ w39.cell? ⟨b2, 1, none⟩ = w31.cell? ⟨b2, 1, none⟩ ∧ w39.cell? ⟨b2, 2, none⟩ = w31.cell? ⟨b2, 2, none⟩ ∧ w39.cell? ⟨b2, 3, none⟩ = w31.cell? ⟨b2, 3, none⟩ := ⟨(hB3.cell 0).trans (s_hB3.cell 0).symm, (hB3.cell 1).trans (s_hB3.cell 1).symm, (hB3.cell 2).trans (s_hB3.cell 2).symm, (hB3.cell 3).trans (s_hB3.cell 3).symm⟩
  refine ⟨.inl hS0, ?_⟩
  obtain ⟨v46, w45, he, hO47, hx48, hfr49⟩ := eP (.tmp 64) (.tmp 71) [(l3, [41]), (l4, [58])] hf rfl rfl hO hB41 rfl (by (try simp only [List.length_cons, List.length_nil]); omega) (nlt hBs hE.size) 54
  refine dl_e 8 (by kernel_rfl) rfl hf rfl rfl he fun a hf => ?_
  have hn2 := own_ne hfr49 hn hB3.lt
  have hg2 := own_from hfr49 hg hE.size
  replace hB3 := hB3.chg hx48 (nmO hn)
  replace hE := chg_own hE hx48 hg
  clear hO hn hg hfr49
  have hO := hO47; clear hO47
  have hn := hn2; clear hn2
  have hg := hg2; clear hg2
  obtain ⟨ps50, eps50⟩ : ∃ z, z = ps32 ++ [(l3, [41]), (l4, [58])] := ⟨_, rfl⟩
  rw [← eps50] at hO
  have lps50 : ps50.length = ps32.length + 2 := by rw [eps50]; simp
  clear hS0
  have hS0 : w45.cell? ⟨b2, 0, none⟩ = w31.cell? ⟨b2, 0, none⟩ ∧ w45.cell? ⟨b2, 1, none⟩ = w31.cell? ⟨b2, 1, none⟩ ∧ w45.cell? ⟨b2, 2, none⟩ = w31.cell? ⟨b2, 2, none⟩ ∧ w45.cell? ⟨b2, 3, none⟩ = w31.cell? ⟨b2, 3, none⟩ := ⟨(hB3.cell 0).trans (s_hB3.cell 0).symm, (hB3.cell 1).trans (s_hB3.cell 1).symm, (hB3.cell 2).trans (s_hB3.cell 2).symm, (hB3.cell 3).trans (s_hB3.cell 3).symm⟩
  refine ⟨.inl hS0, ?_⟩
  refine dR [9] hsel (by kernel_rfl) hf rfl rfl (.inl hS0) fun a hf => rN (by kernel_rfl) ?_
  clear hS0 hsel
  refine rR 2 hf rfl fun a hf => ?_
  have s_k00 := (low_now (o := ko + qs.length * 4) hE hVB hkb lbB).trans (hc0 0 (by decide))
  have s_k01 := (low_now (o := ko + qs.length * 4 + 1) hE hVB hkb lbB).trans (hc0 1 (by decide))
  have s_k02 := (low_now (o := ko + qs.length * 4 + 2) hE hVB hkb lbB).trans (hc0 2 (by decide))
  have s_k03 := (low_now (o := ko + qs.length * 4 + 3) hE hVB hkb lbB).trans (hc0 3 (by decide))
  have hEs := hE
  have s_hB3 := hB3
  refine rD (fun x => x.cell? ⟨b2, 3, none⟩ = w45.cell? ⟨b2, 3, none⟩ ∧ x.cell? ⟨kb, ko + qs.length * 4, none⟩ = w45.cell? ⟨kb, ko + qs.length * 4, none⟩ ∧ x.cell? ⟨kb, ko + qs.length * 4 + 1, none⟩ = w45.cell? ⟨kb, ko + qs.length * 4 + 1, none⟩ ∧ x.cell? ⟨kb, ko + qs.length * 4 + 2, none⟩ = w45.cell? ⟨kb, ko + qs.length * 4 + 2, none⟩ ∧ x.cell? ⟨kb, ko + qs.length * 4 + 3, none⟩ = w45.cell? ⟨kb, ko + qs.length * 4 + 3, none⟩ ∧ x.cell? ⟨b2, 0, none⟩ = w45.cell? ⟨b2, 0, none⟩ ∧ x.cell? ⟨b2, 1, none⟩ = w45.cell? ⟨b2, 1, none⟩ ∧ x.cell? ⟨b2, 2, none⟩ = w45.cell? ⟨b2, 2, none⟩) 14 14 rfl (by kernel_rfl) (by kernel_rfl) ?_
  intro w51 hx52 hsel
  replace hB3 := hB3.c0 hx52
  replace hO := hO.t0 hx52
  replace hE := hE.t0 hx52
  have hS0 : w51.cell? ⟨b2, 3, none⟩ = w45.cell? ⟨b2, 3, none⟩ ∧ w51.cell? ⟨kb, ko + qs.length * 4, none⟩ = w45.cell? ⟨kb, ko + qs.length * 4, none⟩ ∧ w51.cell? ⟨kb, ko + qs.length * 4 + 1, none⟩ = w45.cell? ⟨kb, ko + qs.length * 4 + 1, none⟩ ∧ w51.cell? ⟨kb, ko + qs.length * 4 + 2, none⟩ = w45.cell? ⟨kb, ko + qs.length * 4 + 2, none⟩ ∧ w51.cell? ⟨kb, ko + qs.length * 4 + 3, none⟩ = w45.cell? ⟨kb, ko + qs.length * 4 + 3, none⟩ ∧ w51.cell? ⟨b2, 0, none⟩ = w45.cell? ⟨b2, 0, none⟩ ∧ w51.cell? ⟨b2, 1, none⟩ = w45.cell? ⟨b2, 1, none⟩ ∧ w51.cell? ⟨b2, 2, none⟩ = w45.cell? ⟨b2, 2, none⟩ := ⟨(hB3.cell 3).trans (s_hB3.cell 3).symm, ((low_now hE hVB hkb lbB).trans (low_now hEs hVB hkb lbB).symm), ((low_now hE hVB hkb lbB).trans (low_now hEs hVB hkb lbB).symm), ((low_now hE hVB hkb lbB).trans (low_now hEs hVB hkb lbB).symm), ((low_now hE hVB hkb lbB).trans (low_now hEs hVB hkb lbB).symm), (hB3.cell 0).trans (s_hB3.cell 0).symm, (hB3.cell 1).trans (s_hB3.cell 1).symm, (hB3.cell 2).trans (s_hB3.cell 2).symm⟩
  refine dR [0, 1] hsel (by kernel_rfl) hf rfl rfl (.inl hS0) fun a hf => dL 2 rfl rfl hsel (by kernel_rfl) hf rfl hS0 (fun x hS => ex_load hf rfl (by kernel_rfl) (hS.1.trans ((s_hB3.cell 3).trans rfl))) fun a hf => dR [3] hsel (by kernel_rfl) hf rfl rfl (.inl hS0) fun a hf => dV 4 rfl rfl hsel (by kernel_rfl) hf rfl (.inl hS0) (fun x => ex_subI hf rfl rfl rfl (by simp only [List.length_append, List.length_cons, List.length_nil]; omega)) fun a hf => dV 5 rfl rfl hsel (by kernel_rfl) hf rfl (.inl hS0) (fun x => ex_index (sz := 4) (k := qs.length) (r := ko + qs.length * 4) hf Try.underlying24 (by kernel_rfl) rfl rfl (by simp only [List.length_append, List.length_cons, List.length_nil]; omega) (by simp only [List.length_append, List.length_cons, List.length_nil]; omega) rfl) fun a hf => dL 6 rfl rfl hsel (by kernel_rfl) hf rfl hS0 (fun x hS => ex_loadN (cs := [d00, d01, d02, d03]) (m := 4) hf rfl (by kernel_rfl) rfl (four (hS.2.1.trans s_k00) (hS.2.2.1.trans s_k01) (hS.2.2.2.1.trans s_k02) (hS.2.2.2.2.1.trans s_k03))) fun a hf => dL 8 rfl rfl hsel (by kernel_rfl) hf rfl hS0 (fun x hS => ex_loadX4 hf rfl (by kernel_rfl) s_hB3 rfl hS.2.2.2.2.2.1 hS.2.2.2.2.2.2.1 hS.2.2.2.2.2.2.2 hS.1) fun a hf => dl_c 7 (by kernel_rfl) rfl hf rfl rfl rfl (by kernel_rfl) (ih k0 _ Bs _ ps50 _ _ _ _ (hks _ (by simp)).1 (hks _ (by simp)).2 (by omega) hO (tree_now hT0 hE hVB) (nlt hBs hE.size)) ?_
  rintro _ w57 ⟨v54, rfl, hO55, hx53, hfr56⟩
  refine ⟨_, rfl, fun a hf => ?_⟩
  have hn2 := own_ne hfr56 hn hB3.lt
  have hg2 := own_from hfr56 hg hE.size
  replace hB3 := hB3.chg hx53 (nmO hn)
  replace hE := chg_own hE hx53 hg
  clear hO hn hg hfr56
  have hO := hO55; clear hO55
  have hn := hn2; clear hn2
  have hg := hg2; clear hg2
  obtain ⟨ps58, eps58⟩ : ∃ z, z = ps50 ++ pcsT k0 := ⟨_, rfl⟩
  rw [← eps58] at hO
  have lps58 : ps58.length = ps50.length + (pcsT k0).length := by rw [eps58, List.length_append]
  clear hS0
  have hS0 : w57.cell? ⟨b2, 3, none⟩ = w45.cell? ⟨b2, 3, none⟩ ∧ w57.cell? ⟨kb, ko + qs.length * 4, none⟩ = w45.cell? ⟨kb, ko + qs.length * 4, none⟩ ∧ w57.cell? ⟨kb, ko + qs.length * 4 + 1, none⟩ = w45.cell? ⟨kb, ko + qs.length * 4 + 1, none⟩ ∧ w57.cell? ⟨kb, ko + qs.length * 4 + 2, none⟩ = w45.cell? ⟨kb, ko + qs.length * 4 + 2, none⟩ ∧ w57.cell? ⟨kb, ko + qs.length * 4 + 3, none⟩ = w45.cell? ⟨kb, ko + qs.length * 4 + 3, none⟩ ∧ w57.cell? ⟨b2, 0, none⟩ = w45.cell? ⟨b2, 0, none⟩ ∧ w57.cell? ⟨b2, 1, none⟩ = w45.cell? ⟨b2, 1, none⟩ ∧ w57.cell? ⟨b2, 2, none⟩ = w45.cell? ⟨b2, 2, none⟩ := ⟨(hB3.cell 3).trans (s_hB3.cell 3).symm, ((low_now hE hVB hkb lbB).trans (low_now hEs hVB hkb lbB).symm), ((low_now hE hVB hkb lbB).trans (low_now hEs hVB hkb lbB).symm), ((low_now hE hVB hkb lbB).trans (low_now hEs hVB hkb lbB).symm), ((low_now hE hVB hkb lbB).trans (low_now hEs hVB hkb lbB).symm), (hB3.cell 0).trans (s_hB3.cell 0).symm, (hB3.cell 1).trans (s_hB3.cell 1).symm, (hB3.cell 2).trans (s_hB3.cell 2).symm⟩
  refine ⟨.inl hS0, ?_⟩
  refine dl_c 9 (by kernel_rfl) rfl hf rfl rfl rfl (by kernel_rfl) (leadAtR (ls := (l0 :: l1 :: l2 :: l3 :: l4 :: l5 :: ms)) (j := 5) rfl (row_now hL hE hVB)) ?_
  rintro _ w60 ⟨rfl, hx59⟩
  refine ⟨_, rfl, fun a hf => ?_⟩
  replace hB3 := hB3.c0 hx59
  replace hO := hO.t0 hx59
  replace hE := hE.t0 hx59
  clear hS0
  have hS0 : w60.cell? ⟨b2, 3, none⟩ = w45.cell? ⟨b2, 3, none⟩ ∧ w60.cell? ⟨kb, ko + qs.length * 4, none⟩ = w45.cell? ⟨kb, ko + qs.length * 4, none⟩ ∧ w60.cell? ⟨kb, ko + qs.length * 4 + 1, none⟩ = w45.cell? ⟨kb, ko + qs.length * 4 + 1, none⟩ ∧ w60.cell? ⟨kb, ko + qs.length * 4 + 2, none⟩ = w45.cell? ⟨kb, ko + qs.length * 4 + 2, none⟩ ∧ w60.cell? ⟨kb, ko + qs.length * 4 + 3, none⟩ = w45.cell? ⟨kb, ko + qs.length * 4 + 3, none⟩ ∧ w60.cell? ⟨b2, 0, none⟩ = w45.cell? ⟨b2, 0, none⟩ ∧ w60.cell? ⟨b2, 1, none⟩ = w45.cell? ⟨b2, 1, none⟩ ∧ w60.cell? ⟨b2, 2, none⟩ = w45.cell? ⟨b2, 2, none⟩ := ⟨(hB3.cell 3).trans (s_hB3.cell 3).symm, ((low_now hE hVB hkb lbB).trans (low_now hEs hVB hkb lbB).symm), ((low_now hE hVB hkb lbB).trans (low_now hEs hVB hkb lbB).symm), ((low_now hE hVB hkb lbB).trans (low_now hEs hVB hkb lbB).symm), ((low_now hE hVB hkb lbB).trans (low_now hEs hVB hkb lbB).symm), (hB3.cell 0).trans (s_hB3.cell 0).symm, (hB3.cell 1).trans (s_hB3.cell 1).symm, (hB3.cell 2).trans (s_hB3.cell 2).symm⟩
  refine ⟨.inl hS0, ?_⟩
  refine dV 10 rfl rfl hsel (by kernel_rfl) hf rfl (.inl hS0) (fun x => ex_bd (ps := [(0, (.tmp 82)), (1, (.const (.string ⟨#[61]⟩)))]) (z := [.string ⟨([] : List UInt8).toArray⟩, .string ⟨([] : List UInt8).toArray⟩]) (os := [0, 1]) hf rfl (by kernel_rfl) (by kernel_rfl) (by kernel_rfl) rfl rfl) fun a hf => ?_
  obtain ⟨w61, b62, he, hB63, hx64, eb65, lb66⟩ := ef_bslice (P := Try.prog) (ps := [(0, (.tmp 83))]) (m := 1) (sz := 2) (z := [.string ⟨([] : List UInt8).toArray⟩, .string ⟨([] : List UInt8).toArray⟩]) hf rfl Try.underlying54 (by kernel_rfl) (by kernel_rfl) rfl rfl (by kernel_rfl) rfl w60 54
  refine dl_e 11 (by kernel_rfl) rfl hf rfl rfl he fun a hf => ?_
  have ne_b2_b62 : b2 ≠ b62 := ne_new hB3.lt eb65
  have ge_b62 := ge_new hE eb65
  replace hB3 := hB3.c0 hx64
  replace hO := hO.t0 hx64
  replace hE := hE.t0 hx64
  clear eb65 lb66
  clear hS0
  have hS0 : w61.cell? ⟨b2, 3, none⟩ = w45.cell? ⟨b2, 3, none⟩ ∧ w61.cell? ⟨kb, ko + qs.length * 4, none⟩ = w45.cell? ⟨kb, ko + qs.length * 4, none⟩ ∧ w61.cell? ⟨kb, ko + qs.length * 4 + 1, none⟩ = w45.cell? ⟨kb, ko + qs.length * 4 + 1, none⟩ ∧ w61.cell? ⟨kb, ko + qs.length * 4 + 2, none⟩ = w45.cell? ⟨kb, ko + qs.length * 4 + 2, none⟩ ∧ w61.cell? ⟨kb, ko + qs.length * 4 + 3, none⟩ = w45.cell? ⟨kb, ko + qs.length * 4 + 3, none⟩ ∧ w61.cell? ⟨b2, 0, none⟩ = w45.cell? ⟨b2, 0, none⟩ ∧ w61.cell? ⟨b2, 1, none⟩ = w45.cell? ⟨b2, 1, none⟩ ∧ w61.cell? ⟨b2, 2, none⟩ = w45.cell? ⟨b2, 2, none⟩ := ⟨(hB3.cell 3).trans (s_hB3.cell 3).symm, ((low_now hE hVB hkb lbB).trans (low_now hEs hVB hkb lbB).symm), ((low_now hE hVB hkb lbB).trans (low_now hEs hVB hkb lbB).symm), ((low_now hE hVB hkb lbB).trans (low_now hEs hVB hkb lbB).symm), ((low_now hE hVB hkb lbB).trans (low_now hEs hVB hkb lbB).symm), (hB3.cell 0).trans (s_hB3.cell 0).symm, (hB3.cell 1).trans (s_hB3.cell 1).symm, (hB3.cell 2).trans (s_hB3.cell 2).symm⟩
  refine ⟨.inl hS0, ?_⟩
  obtain ⟨v68, w67, he, hO69, hx70, hfr71⟩ := eP (.tmp 80) (.tmp 84) [(l5, [61])] hf rfl rfl hO hB63 rfl (by (try simp only [List.length_cons, List.length_nil]); omega) (nlt hBs hE.size) 54
  refine dl_e 12 (by kernel_rfl) rfl hf rfl rfl he fun a hf => ?_
  have hn2 := own_ne hfr71 hn hB3.lt
  have hg2 := own_from hfr71 hg hE.size
  replace hB3 := hB3.chg hx70 (nmO hn)
  replace hE := chg_own hE hx70 hg
  clear hO hn hg hfr71
  have hO := hO69; clear hO69
  have hn := hn2; clear hn2
  have hg := hg2; clear hg2
  obtain ⟨ps72, eps72⟩ : ∃ z, z = ps58 ++ [(l5, [61])] := ⟨_, rfl⟩
  rw [← eps72] at hO
  have lps72 : ps72.length = ps58.length + 1 := by rw [eps72]; simp
  clear hS0
  have hS0 : w67.cell? ⟨b2, 3, none⟩ = w45.cell? ⟨b2, 3, none⟩ ∧ w67.cell? ⟨kb, ko + qs.length * 4, none⟩ = w45.cell? ⟨kb, ko + qs.length * 4, none⟩ ∧ w67.cell? ⟨kb, ko + qs.length * 4 + 1, none⟩ = w45.cell? ⟨kb, ko + qs.length * 4 + 1, none⟩ ∧ w67.cell? ⟨kb, ko + qs.length * 4 + 2, none⟩ = w45.cell? ⟨kb, ko + qs.length * 4 + 2, none⟩ ∧ w67.cell? ⟨kb, ko + qs.length * 4 + 3, none⟩ = w45.cell? ⟨kb, ko + qs.length * 4 + 3, none⟩ ∧ w67.cell? ⟨b2, 0, none⟩ = w45.cell? ⟨b2, 0, none⟩ ∧ w67.cell? ⟨b2, 1, none⟩ = w45.cell? ⟨b2, 1, none⟩ ∧ w67.cell? ⟨b2, 2, none⟩ = w45.cell? ⟨b2, 2, none⟩ := ⟨(hB3.cell 3).trans (s_hB3.cell 3).symm, ((low_now hE hVB hkb lbB).trans (low_now hEs hVB hkb lbB).symm), ((low_now hE hVB hkb lbB).trans (low_now hEs hVB hkb lbB).symm), ((low_now hE hVB hkb lbB).trans (low_now hEs hVB hkb lbB).symm), ((low_now hE hVB hkb lbB).trans (low_now hEs hVB hkb lbB).symm), (hB3.cell 0).trans (s_hB3.cell 0).symm, (hB3.cell 1).trans (s_hB3.cell 1).symm, (hB3.cell 2).trans (s_hB3.cell 2).symm⟩
  refine ⟨.inl hS0, ?_⟩
  refine dR [13] hsel (by kernel_rfl) hf rfl rfl (.inl hS0) fun a hf => rN (by kernel_rfl) ?_
  clear hS0 hsel
  refine rR 5 hf rfl fun a hf => rV hf rfl (ex_loadB hf rfl (by kernel_rfl) hB3 rfl) fun a hf => rR 1 hf rfl fun a hf => rV hf rfl (ex_subI hf rfl rfl rfl (by simp only [List.length_append, List.length_cons, List.length_nil]; omega)) fun a hf => rV hf rfl (ex_index (sz := 4) (k := (qs.length + 1)) (r := ko + (qs.length + 1) * 4) hf Try.underlying24 (by kernel_rfl) rfl rfl (by simp only [List.length_append, List.length_cons, List.length_nil]; omega) (by simp only [List.length_append, List.length_cons, List.length_nil]; omega) rfl) fun a hf => rV hf rfl (ex_loadN (cs := [d10, d11, d12, d13]) (m := 4) hf rfl (by kernel_rfl) rfl (fun r hr => (low_now hE hVB hkb lbB).trans (hc1 r hr))) fun a hf => rC hf rfl rfl (by kernel_rfl) (ih k1 _ Bs _ ps72 _ _ _ _ (hks _ (by simp)).1 (hks _ (by simp)).2 (by omega) hO (tree_now hT1 hE hVB) (nlt hBs hE.size)) ?_
  rintro _ w77 ⟨v74, rfl, hO75, hx73, hfr76⟩
  refine ⟨_, rfl, fun a hf => ?_⟩
  have hn2 := own_ne hfr76 hn hB3.lt
  have hg2 := own_from hfr76 hg hE.size
  replace hB3 := hB3.chg hx73 (nmO hn)
  replace hE := chg_own hE hx73 hg
  clear hO hn hg hfr76
  have hO := hO75; clear hO75
  have hn := hn2; clear hn2
  have hg := hg2; clear hg2
  obtain ⟨ps78, eps78⟩ : ∃ z, z = ps72 ++ pcsT k1 := ⟨_, rfl⟩
  rw [← eps78] at hO
  have lps78 : ps78.length = ps72.length + (pcsT k1).length := by rw [eps78, List.length_append]
  refine rR 6 hf rfl fun a hf => ?_
  have eq : ps ++ pcsT (.node 2 x (l0 :: l1 :: l2 :: l3 :: l4 :: l5 :: ms) (qs ++ [k0, k1])) = ps78 := by subst eps78; subst eps72; subst eps58; subst eps50; subst eps32; subst eps26; rw [pcsT, pcsTs_app, pcsTs, pcsTs, pcsTs, nodeC2]; simp [pcsTs_length, take_left2]
  exact rT (rs := [.tmp 4]) hf rfl ⟨_, _, rfl, rfl, rfl⟩ ⟨_, rfl, eq ▸ hO, hE, fresh_all hg (.inl (own_some hO))⟩
end Go.Proofs.Ythpjpngfghcmcaa
namespace Go.Proofs.Ythpjpngfghcmcaa
open Go.RowKit Lx Sx
set_option maxRecDepth 100000
set_option maxHeartbeats 4000000
theorem kbulk_mem : ∀ {ks : List Tree} {t : Tree}, t ∈ ks → tbulk t ≤ kbulk ks
  | u :: r, t, ht => by
    simp only [kbulk]
    rcases List.mem_cons.1 ht with e | e
    · subst e; omega
    · have := kbulk_mem e; omega
theorem flat_step {ks : List Tree} {i : Nat} (h : i < ks.length) : (pcsTs (ks.take (i + 1))).flatten = (pcsTs (ks.take i)).flatten ++ pcsT ks[i] := by
  rw [List.take_succ_eq_append_getElem h, pcsTs_app, pcsTs, pcsTs, List.flatten_append]; simp
theorem flat_mono {ks : List Tree} (i : Nat) : (pcsTs (ks.take i)).flatten.length ≤ (pcsTs ks).flatten.length := by
  have e : ks = ks.take i ++ ks.drop i := (List.take_append_drop i ks).symm
  have := congrArg (fun q => (pcsTs q).flatten.length) e
  simp only [pcsTs_app, List.flatten_append, List.length_append] at this
  omega
theorem p1 {N : Nat} (ih : PiecesOk N) {w : World} {Bs : Nat} {v0 : Value} {ps : List Pc} {x : List UInt8} {l0 l1 l2 : List UInt8} {ks : List Tree} {cs : List Value} {A B : Option Addr} {m n : Nat} (hk9 : ks.length ≤ 1000000000) (hks : ∀ t, t ∈ ks → tsize t ≤ N ∧ (shapedT t && leadedT t && decide (tbulk t ≤ 1000000000)) = true)
    (hl1 : ps.length + (pcsT (.node 1 x [l0, l1, l2] ks)).length ≤ 1000000000) (hO : Ow Bs w v0 ps) (hL : RowIn (fun b => b < Bs) w 1 A [l0, l1, l2].length ([l0, l1, l2].map strV)) (hn0 : ks.length ≤ n) (hn2 : n ≤ maxLen) (hK : KidsAre (fun b => b < Bs) w ks cs) (hR : RowIn (fun b => b < Bs) w 4 B ks.length cs) (hBs : Bs ≤ w.heap.size) :
    Calls Try.prog 64 [v0, .agg #[.int .i64 1, strV x, .slice A [l0, l1, l2].length m, .slice B ks.length n]].toArray w fun e w' => ∃ v', e = .returned v' ∧ Ow Bs w' v' (ps ++ pcsT (.node 1 x [l0, l1, l2] ks)) ∧ Chg v0.ownBlock.toList w w' ∧ Fresh w v0 v' := by
  have hq : (pcsT (.node 1 x [l0, l1, l2] ks)).length = 3 + (pcsTs ks).flatten.length := by simp [pcsT, nodeC] <;> omega
  have hE := Chg.refl v0.ownBlock.toList w
  have hVB : ∀ g, g ∈ v0.ownBlock.toList → Bs ≤ g := fun g h => (hO.ge (by simpa using h)).1
  have hg : ∀ g, v0.ownBlock = some g → g ∈ v0.ownBlock.toList ∨ w.heap.size ≤ g := fun g e => .inl (by simpa using e)
  refine rE 365 Try.func64 rfl rfl rfl ?_
  intro a hf
  refine rR 2 hf rfl ?_
  clear hf a; intro a hf
  obtain ⟨w1, b2, he, hB3, hx4, eb5, lb6⟩ := ef_box (P := Try.prog) (t := 26) (x := (.tmp 1)) hf rfl rfl w 0
  refine rV hf rfl he ?_
  clear he hf a; intro a hf
  have ge_b2 := ge_new hE eb5
  have hn : v0.ownBlock ≠ some b2 := fun e => by have := (hO.ge e).2; omega
  replace hO := hO.t0 hx4
  replace hE := hE.t0 hx4
  clear eb5 lb6
  refine rR 6 hf rfl ?_
  clear hf a; intro a hf
  refine rV hf rfl (ex_loadB hf rfl (by kernel_rfl) hB3 rfl) ?_
  clear hf a; intro a hf
  refine rV hf rfl (ex_len hf Try.underlying24 rfl) ?_
  clear hf a; intro a hf
  refine rR 7 hf rfl ?_
  clear hf a; intro a hf
  refine rV hf rfl (ex_loadB hf rfl (by kernel_rfl) hB3 rfl) ?_
  clear hf a; intro a hf
  refine rR 11 hf rfl ?_
  clear hf a; intro a hf
  have hEs := hE
  have s_hB3 := hB3
  refine rD (fun x => x.cell? ⟨b2, 0, none⟩ = w1.cell? ⟨b2, 0, none⟩ ∧ x.cell? ⟨b2, 1, none⟩ = w1.cell? ⟨b2, 1, none⟩ ∧ x.cell? ⟨b2, 2, none⟩ = w1.cell? ⟨b2, 2, none⟩ ∧ x.cell? ⟨b2, 3, none⟩ = w1.cell? ⟨b2, 3, none⟩) 12 12 rfl (by kernel_rfl) (by kernel_rfl) ?_
  intro w7 hx8 hsel
  replace hB3 := hB3.c0 hx8
  replace hO := hO.t0 hx8
  replace hE := hE.t0 hx8
  have hS0 : w7.cell? ⟨b2, 0, none⟩ = w1.cell? ⟨b2, 0, none⟩ ∧ w7.cell? ⟨b2, 1, none⟩ = w1.cell? ⟨b2, 1, none⟩ ∧ w7.cell? ⟨b2, 2, none⟩ = w1.cell? ⟨b2, 2, none⟩ ∧ w7.cell? ⟨b2, 3, none⟩ = w1.cell? ⟨b2, 3, none⟩ := ⟨(hB3.cell 0).trans (s_hB3.cell 0).symm, (hB3.cell 1).trans (s_hB3.cell 1).symm, (hB3.cell 2).trans (s_hB3.cell 2).symm, (hB3.cell 3).trans (s_hB3.cell 3).symm⟩
  refine dR [0] hsel (by kernel_rfl) hf rfl rfl (.inl hS0) ?_
  clear hf a; intro a hf
  refine dL 1 rfl rfl hsel (by kernel_rfl) hf rfl hS0 (fun x hS => ex_loadX4 hf rfl (by kernel_rfl) s_hB3 rfl hS.1 hS.2.1 hS.2.2.1 hS.2.2.2) ?_
  clear hf a; intro a hf
  refine dL 4 rfl rfl hsel (by kernel_rfl) hf rfl hS0 (fun x hS => ex_loadX4 hf rfl (by kernel_rfl) s_hB3 rfl hS.1 hS.2.1 hS.2.2.1 hS.2.2.2) ?_
  clear hf a; intro a hf
  refine dR [6] hsel (by kernel_rfl) hf rfl rfl (.inl hS0) ?_
  clear hf a; intro a hf
  refine dL 7 rfl rfl hsel (by kernel_rfl) hf rfl hS0 (fun x hS => ex_load hf rfl (by kernel_rfl) (hS.2.1.trans ((s_hB3.cell 1).trans rfl))) ?_
  clear hf a; intro a hf
  refine dl_c 2 (by kernel_rfl) rfl hf rfl rfl rfl (by kernel_rfl) (leadAtR (ls := [l0, l1, l2]) (j := 0) rfl (row_now hL hE hVB)) ?_
  rintro _ w10 ⟨rfl, hx9⟩
  refine ⟨_, rfl, ?_⟩
  clear hf a; intro a hf
  replace hB3 := hB3.c0 hx9
  replace hO := hO.t0 hx9
  replace hE := hE.t0 hx9
  clear hS0
  have hS0 : w10.cell? ⟨b2, 0, none⟩ = w1.cell? ⟨b2, 0, none⟩ ∧ w10.cell? ⟨b2, 1, none⟩ = w1.cell? ⟨b2, 1, none⟩ ∧ w10.cell? ⟨b2, 2, none⟩ = w1.cell? ⟨b2, 2, none⟩ ∧ w10.cell? ⟨b2, 3, none⟩ = w1.cell? ⟨b2, 3, none⟩ := ⟨(hB3.cell 0).trans (s_hB3.cell 0).symm, (hB3.cell 1).trans (s_hB3.cell 1).symm, (hB3.cell 2).trans (s_hB3.cell 2).symm, (hB3.cell 3).trans (s_hB3.cell 3).symm⟩
  refine ⟨.inl hS0, ?_⟩
  refine dV 3 rfl rfl hsel (by kernel_rfl) hf rfl (.inl hS0) (fun x => ex_bd (ps := [(0, (.tmp 16)), (1, (.const (.string ⟨#[109, 111, 100, 117, 108, 101]⟩)))]) (z := [.string ⟨([] : List UInt8).toArray⟩, .string ⟨([] : List UInt8).toArray⟩]) (os := [0, 1]) hf rfl (by kernel_rfl) (by kernel_rfl) (by kernel_rfl) rfl rfl) ?_
  clear hf a; intro a hf
  refine dl_c 5 (by kernel_rfl) rfl hf rfl rfl rfl (by kernel_rfl) (leadAtR (ls := [l0, l1, l2]) (j := 1) rfl (row_now hL hE hVB)) ?_
  rintro _ w12 ⟨rfl, hx11⟩
  refine ⟨_, rfl, ?_⟩
  clear hf a; intro a hf
  replace hB3 := hB3.c0 hx11
  replace hO := hO.t0 hx11
  replace hE := hE.t0 hx11
  clear hS0
  have hS0 : w12.cell? ⟨b2, 0, none⟩ = w1.cell? ⟨b2, 0, none⟩ ∧ w12.cell? ⟨b2, 1, none⟩ = w1.cell? ⟨b2, 1, none⟩ ∧ w12.cell? ⟨b2, 2, none⟩ = w1.cell? ⟨b2, 2, none⟩ ∧ w12.cell? ⟨b2, 3, none⟩ = w1.cell? ⟨b2, 3, none⟩ := ⟨(hB3.cell 0).trans (s_hB3.cell 0).symm, (hB3.cell 1).trans (s_hB3.cell 1).symm, (hB3.cell 2).trans (s_hB3.cell 2).symm, (hB3.cell 3).trans (s_hB3.cell 3).symm⟩
  refine ⟨.inl hS0, ?_⟩
  refine dV 8 rfl rfl hsel (by kernel_rfl) hf rfl (.inl hS0) (fun x => ex_bd (ps := [(0, (.tmp 19)), (1, (.tmp 21))]) (z := [.string ⟨([] : List UInt8).toArray⟩, .string ⟨([] : List UInt8).toArray⟩]) (os := [0, 1]) hf rfl (by kernel_rfl) (by kernel_rfl) (by kernel_rfl) rfl rfl) ?_
  clear hf a; intro a hf
  obtain ⟨w13, b14, he, hB15, hx16, eb17, lb18⟩ := ef_bslice (P := Try.prog) (ps := [(0, (.tmp 17)), (1, (.tmp 22))]) (m := 2) (sz := 2) (z := [.string ⟨([] : List UInt8).toArray⟩, .string ⟨([] : List UInt8).toArray⟩]) hf rfl Try.underlying54 (by kernel_rfl) (by kernel_rfl) rfl rfl (by kernel_rfl) rfl w12 54
  refine dl_e 9 (by kernel_rfl) rfl hf rfl rfl he ?_
  clear he hf a; intro a hf
  have ne_b2_b14 : b2 ≠ b14 := ne_new hB3.lt eb17
  have ge_b14 := ge_new hE eb17
  replace hB3 := hB3.c0 hx16
  replace hO := hO.t0 hx16
  replace hE := hE.t0 hx16
  clear eb17 lb18
  clear hS0
  have hS0 : w13.cell? ⟨b2, 0, none⟩ = w1.cell? ⟨b2, 0, none⟩ ∧ w13.cell? ⟨b2, 1, none⟩ = w1.cell? ⟨b2, 1, none⟩ ∧ w13.cell? ⟨b2, 2, none⟩ = w1.cell? ⟨b2, 2, none⟩ ∧ w13.cell? ⟨b2, 3, none⟩ = w1.cell? ⟨b2, 3, none⟩ := ⟨(hB3.cell 0).trans (s_hB3.cell 0).symm, (hB3.cell 1).trans (s_hB3.cell 1).symm, (hB3.cell 2).trans (s_hB3.cell 2).symm, (hB3.cell 3).trans (s_hB3.cell 3).symm⟩
  refine ⟨.inl hS0, ?_⟩
  obtain ⟨v20, w19, he, hO21, hx22, hfr23⟩ := eP (.tmp 14) (.tmp 23) [(l0, [109, 111, 100, 117, 108, 101]), (l1, x)] hf rfl rfl hO hB15 rfl (by (try simp only [List.length_cons, List.length_nil]); omega) (nlt hBs hE.size) 54
  refine dl_e 10 (by kernel_rfl) rfl hf rfl rfl he ?_
  clear he hf a; intro a hf
  have hn2 := own_ne hfr23 hn hB3.lt
  have hg2 := own_from hfr23 hg hE.size
  replace hB3 := hB3.chg hx22 (nmO hn)
  replace hE := chg_own hE hx22 hg
  clear hO hn hg hfr23
  have hO := hO21; clear hO21
  have hn := hn2; clear hn2
  have hg := hg2; clear hg2
  obtain ⟨ps24, eps24⟩ : ∃ z, z = ps ++ [(l0, [109, 111, 100, 117, 108, 101]), (l1, x)] := ⟨_, rfl⟩
  rw [← eps24] at hO
  have lps24 : ps24.length = ps.length + 2 := by rw [eps24]; simp
  clear hS0
  have hS0 : w19.cell? ⟨b2, 0, none⟩ = w1.cell? ⟨b2, 0, none⟩ ∧ w19.cell? ⟨b2, 1, none⟩ = w1.cell? ⟨b2, 1, none⟩ ∧ w19.cell? ⟨b2, 2, none⟩ = w1.cell? ⟨b2, 2, none⟩ ∧ w19.cell? ⟨b2, 3, none⟩ = w1.cell? ⟨b2, 3, none⟩ := ⟨(hB3.cell 0).trans (s_hB3.cell 0).symm, (hB3.cell 1).trans (s_hB3.cell 1).symm, (hB3.cell 2).trans (s_hB3.cell 2).symm, (hB3.cell 3).trans (s_hB3.cell 3).symm⟩
  refine ⟨.inl hS0, ?_⟩
  refine dR [11] hsel (by kernel_rfl) hf rfl rfl (.inl hS0) ?_
  clear hf a; intro a hf
  refine rN (by kernel_rfl) ?_
  clear hS0 hsel
  refine rR 8 hf rfl ?_
  clear hf a; intro a hf
  refine rL (fun g a w' => ∃ i v1, Fr a 365 (fm [(0, v1), (3, .pointer (some ⟨b2, 0, none⟩)), (5, .int .i64 (ks.length : Nat)), (6, .int .i64 (i : Nat))]) ∧ Chg v0.ownBlock.toList w w' ∧ Blk w' b2 26 [.int .i64 1, strV x, .slice A [l0, l1, l2].length m, .slice B ks.length n] ∧ Ow Bs w' v1 (ps24 ++ (pcsTs (ks.take i)).flatten) ∧ v1.ownBlock ≠ some b2 ∧ (∀ g, v1.ownBlock = some g → g ∈ v0.ownBlock.toList ∨ w.heap.size ≤ g) ∧ i ≤ ks.length ∧ g = ks.length - i) _ ⟨0, v20, hf.pick ⟨rfl, rfl, rfl, rfl, trivial⟩, hE, hB3, by simpa [pcsTs] using hO, hn, hg, Nat.zero_le _, rfl⟩ ?_
  obtain ⟨b6, eb6⟩ : ∃ x, b2 = x := ⟨_, rfl⟩
  rw [eb6]
  have ge_b6 : w.heap.size ≤ b6 := eb6 ▸ ge_b2
  clear eb6 hf a hO hn hg
  intro g0 a w' hI
  obtain ⟨i, v1, hf, hE, hB6, hO, hn, hg, hi, rfl⟩ := hI
  by_cases hlt : i < ks.length
  obtain ⟨kb, ko, rfl, lbB, hkb, _⟩ := hR.2 (by omega)
  obtain ⟨d0, d1, d2, d3, hT, hc⟩ := kid_at hK hR rfl (List.getElem?_eq_getElem hlt)
  have on_T := hT.one
  have hmem : ks[i] ∈ ks := List.getElem_mem hlt
  have hst := flat_step hlt
  have hmo := flat_mono (ks := ks) (i + 1)
  rw [hst] at hmo
  simp only [List.length_append] at hmo
  obtain ⟨ps0, eps0⟩ : ∃ z, z = ps24 ++ (pcsTs (ks.take i)).flatten := ⟨_, rfl⟩
  rw [← eps0] at hO
  have lps0 : ps0.length = ps24.length + (pcsTs (ks.take i)).flatten.length := by rw [eps0, List.length_append]
  refine rR 5 hf rfl ?_
  clear hf a; intro a hf
  refine rV hf rfl (ex_ltI (c := true) hf rfl rfl (by simp; omega)) ?_
  clear hf a; intro a hf
  refine rR 10 hf rfl ?_
  clear hf a; intro a hf
  refine rV hf rfl (ex_loadB hf rfl (by kernel_rfl) hB6 rfl) ?_
  clear hf a; intro a hf
  refine rR 1 hf rfl ?_
  clear hf a; intro a hf
  refine rV hf rfl (ex_index (sz := 4) (k := i) (r := ko + i * 4) hf Try.underlying24 (by kernel_rfl) rfl rfl rfl hlt rfl) ?_
  clear hf a; intro a hf
  refine rV hf rfl (ex_loadN (cs := [d0, d1, d2, d3]) (m := 4) hf rfl (by kernel_rfl) rfl (fun r hr => (low_now hE hVB hkb lbB).trans (hc r hr))) ?_
  clear hf a; intro a hf
  refine rC hf rfl rfl (by kernel_rfl) (ih ks[i] _ Bs _ ps0 _ _ _ _ (hks _ hmem).1 (hks _ hmem).2 (by omega) hO (tree_now hT hE hVB) (nlt hBs hE.size)) ?_
  rintro _ w29 ⟨v26, rfl, hO27, hx25, hfr28⟩
  refine ⟨_, rfl, ?_⟩
  clear hf a; intro a hf
  have hn2 := own_ne hfr28 hn hB6.lt
  have hg2 := own_from hfr28 hg hE.size
  replace hB6 := hB6.chg hx25 (nmO hn)
  replace hE := chg_own hE hx25 hg
  clear hO hn hg hfr28
  have hO := hO27; clear hO27
  have hn := hn2; clear hn2
  have hg := hg2; clear hg2
  have hfin : ps0 ++ pcsT ks[i] = ps24 ++ (pcsTs (ks.take (i + 1))).flatten := by rw [hst, eps0, List.append_assoc]
  rw [hfin] at hO
  refine rR 6 hf rfl ?_
  clear hf a; intro a hf
  refine rV hf rfl (ex_addI hf rfl rfl rfl (by omega)) ?_
  clear hf a; intro a hf
  refine rR 2 hf rfl ?_
  clear hf a; intro a hf
  exact rX ⟨_, (by omega : ks.length - (i + 1) < ks.length - i), i + 1, v26, hf.pick ⟨rfl, rfl, rfl, rfl, trivial⟩, hE, hB6, hO, hn, hg, by omega, rfl⟩
  have hal : ks.take i = ks := List.take_of_length_le (by omega)
  rw [hal] at hO
  obtain ⟨psL, epsL⟩ : ∃ z, z = ps24 ++ (pcsTs ks).flatten := ⟨_, rfl⟩
  rw [← epsL] at hO
  have lpsL : psL.length = ps24.length + (pcsTs ks).flatten.length := by rw [epsL, List.length_append]
  refine rR 5 hf rfl ?_
  clear hf a; intro a hf
  refine rV hf rfl (ex_ltI (c := false) hf rfl rfl (by simp <;> omega)) ?_
  clear hf a; intro a hf
  refine rR 5 hf rfl ?_
  clear hf a; intro a hf
  refine rO ?_
  refine rR 5 hf rfl ?_
  clear hf a; intro a hf
  refine rV hf rfl (ex_loadBN (m := 4) hf rfl (by kernel_rfl) hB6 rfl) ?_
  clear hf a; intro a hf
  refine rC hf rfl rfl (by kernel_rfl) (leadAtR (ls := [l0, l1, l2]) (j := 2) rfl (row_now hL hE hVB)) ?_
  rintro _ w31 ⟨rfl, hx30⟩
  refine ⟨_, rfl, ?_⟩
  clear hf a; intro a hf
  replace hB6 := hB6.c0 hx30
  replace hO := hO.t0 hx30
  replace hE := hE.t0 hx30
  refine rV hf rfl (ex_bd (ps := [(0, (.tmp 39)), (1, (.const (.string ⟨#[]⟩)))]) (z := [.string ⟨([] : List UInt8).toArray⟩, .string ⟨([] : List UInt8).toArray⟩]) (os := [0, 1]) hf rfl (by kernel_rfl) (by kernel_rfl) (by kernel_rfl) rfl rfl) ?_
  clear hf a; intro a hf
  obtain ⟨w32, b33, he, hB34, hx35, eb36, lb37⟩ := ef_bslice (P := Try.prog) (ps := [(0, (.tmp 40))]) (m := 1) (sz := 2) (z := [.string ⟨([] : List UInt8).toArray⟩, .string ⟨([] : List UInt8).toArray⟩]) hf rfl Try.underlying54 (by kernel_rfl) (by kernel_rfl) rfl rfl (by kernel_rfl) rfl w31 54
  refine rV hf rfl he ?_
  clear he hf a; intro a hf
  have ne_b6_b33 : b6 ≠ b33 := ne_new hB6.lt eb36
  have ge_b33 := ge_new hE eb36
  replace hB6 := hB6.c0 hx35
  replace hO := hO.t0 hx35
  replace hE := hE.t0 hx35
  clear eb36 lb37
  obtain ⟨v39, w38, he, hO40, hx41, hfr42⟩ := eP (.tmp 37) (.tmp 41) [(l2, ([] : List UInt8))] hf rfl rfl hO hB34 rfl (by (try simp only [List.length_cons, List.length_nil]); omega) (nlt hBs hE.size) 54
  refine rV hf rfl he ?_
  clear he hf a; intro a hf
  have hn2 := own_ne hfr42 hn hB6.lt
  have hg2 := own_from hfr42 hg hE.size
  replace hB6 := hB6.chg hx41 (nmO hn)
  replace hE := chg_own hE hx41 hg
  clear hO hn hg hfr42
  have hO := hO40; clear hO40
  have hn := hn2; clear hn2
  have hg := hg2; clear hg2
  obtain ⟨ps43, eps43⟩ : ∃ z, z = psL ++ [(l2, ([] : List UInt8))] := ⟨_, rfl⟩
  rw [← eps43] at hO
  have lps43 : ps43.length = psL.length + 1 := by rw [eps43]; simp
  refine rR 6 hf rfl ?_
  clear hf a; intro a hf
  have eq : ps ++ pcsT (.node 1 x [l0, l1, l2] ks) = ps43 := by subst eps43; subst epsL; subst eps24; simp [pcsT, nodeC]
  exact rT (rs := [.tmp 4]) hf rfl ⟨_, _, rfl, rfl, rfl⟩ ⟨_, rfl, eq ▸ hO, hE, fresh_all hg (.inl (own_some hO))⟩
theorem pieces_step {N : Nat} (ih : PiecesOk N) : PiecesOk (N + 1) := by
  intro t w Bs v ps c0 c1 c2 c3 hN hs0 hl hO hT hBs
  rw [Bool.and_eq_true, Bool.and_eq_true, decide_eq_true_eq] at hs0
  obtain ⟨⟨hs, hld⟩, htb⟩ := hs0
  obtain ⟨k, x, ls, ks⟩ := t
  simp only [TreeIs] at hT
  obtain ⟨A, m, B, n, hc, _, _, hn, hn2, hL, cs, hK, hR⟩ := hT
  simp only [List.cons.injEq, and_true] at hc
  obtain ⟨rfl, rfl, rfl, rfl⟩ := hc
  simp only [tsize] at hN
  simp only [shapedT, leadedT, Bool.and_eq_true, decide_eq_true_eq] at hs hld
  have hks : ∀ t, t ∈ ks → tsize t ≤ N ∧ (shapedT t && leadedT t && decide (tbulk t ≤ 1000000000)) = true := fun t ht => ⟨by have := tsize_mem ht; omega, by rw [kids_all hs.2 t ht, leaded_of hld.2 ht]; simp only [tbulk] at htb; have := kbulk_mem ht; simp; omega⟩
  have hkk := leads_kind hs.1.1
  have hll := hld.1.1
  have hk9 : ks.length ≤ 1000000000 := by simp only [tbulk] at htb; have := kbulk_len ks; omega
  clear hs hld hN
  rcases hkk with ⟨rfl, e⟩ | ⟨rfl, h0, e⟩ | ⟨rfl, e⟩ | ⟨rfl, h0, e⟩ | ⟨rfl, h0, e⟩ | ⟨rfl, h0, e⟩ | ⟨rfl, h0, e⟩ | ⟨rfl, h0, e⟩ | ⟨rfl, h0, e⟩ | ⟨rfl, h0, e⟩ | ⟨rfl, h0, e⟩ | ⟨rfl, h0, e⟩ | ⟨hk, h0, e⟩
  · obtain ⟨l0, ls0r, rfl, qls0⟩ := lenS (n := 2) (l := ls) (by omega)
    obtain ⟨l1, ls1r, rfl, qls1⟩ := lenS (n := 1) (l := ls0r) qls0
    obtain ⟨l2, ls2r, rfl, qls2⟩ := lenS (n := 0) (l := ls1r) qls1
    obtain rfl := len0 (l := ls2r) qls2
    exact p1 ih hk9 hks hl hO hL hn hn2 hK hR hBs
  · obtain ⟨qs, k0, k1, rfl⟩ : ∃ ps k0 k1, ks = ps ++ [k0, k1] := by
      refine ⟨ks.take (ks.length - 2), ks[ks.length - 2]'(by omega), ks[ks.length - 1]'(by omega), ?_⟩
      have e1 : ks = ks.take (ks.length - 2) ++ ks.drop (ks.length - 2) := (List.take_append_drop _ _).symm
      have e2 : ks.drop (ks.length - 2) = [ks[ks.length - 2]'(by omega), ks[ks.length - 1]'(by omega)] := by
        rw [List.drop_eq_getElem_cons (by omega : ks.length - 2 < ks.length)]
        congr 1
        have e3 : ks.length - 2 + 1 = ks.length - 1 := by omega
        rw [e3, List.drop_eq_getElem_cons (by omega : ks.length - 1 < ks.length), List.drop_of_length_le (by omega)]
      rw [← e2]; exact e1
    have hpl : (qs ++ [k0, k1]).length = qs.length + 2 := by simp
    obtain ⟨q, hq⟩ : ∃ q, ls.length = q + 6 := ⟨ls.length - 6, by omega⟩
    obtain ⟨l0, ls0r, rfl, qls0⟩ := lenS (n := q + 5) (l := ls) hq
    obtain ⟨l1, ls1r, rfl, qls1⟩ := lenS (n := q + 4) (l := ls0r) qls0
    obtain ⟨l2, ls2r, rfl, qls2⟩ := lenS (n := q + 3) (l := ls1r) qls1
    obtain ⟨l3, ls3r, rfl, qls3⟩ := lenS (n := q + 2) (l := ls2r) qls2
    obtain ⟨l4, ls4r, rfl, qls4⟩ := lenS (n := q + 1) (l := ls3r) qls3
    obtain ⟨l5, ls5r, rfl, qls5⟩ := lenS (n := q + 0) (l := ls4r) qls4
    exact p2 ih hk9 hks hl hO hL hn hn2 hK hR hBs
  · obtain ⟨q, hq⟩ : ∃ q, ls.length = q + 3 := ⟨ls.length - 3, by omega⟩
    obtain ⟨l0, ls0r, rfl, qls0⟩ := lenS (n := q + 2) (l := ls) hq
    obtain ⟨l1, ls1r, rfl, qls1⟩ := lenS (n := q + 1) (l := ls0r) qls0
    obtain ⟨l2, ls2r, rfl, qls2⟩ := lenS (n := q + 0) (l := ls1r) qls1
    exact p16 ih hk9 hks hl hO hL hn hn2 hK hR hBs
  · obtain ⟨q, hq⟩ : ∃ q, ls.length = q + 2 := ⟨ls.length - 2, by omega⟩
    obtain ⟨l0, ls0r, rfl, qls0⟩ := lenS (n := q + 1) (l := ls) hq
    obtain ⟨l1, ls1r, rfl, qls1⟩ := lenS (n := q + 0) (l := ls0r) qls0
    exact p18 ih hk9 hks hl hO hL hn hn2 hK hR hBs
  · obtain ⟨l0, ls0r, rfl, qls0⟩ := lenS (n := 2) (l := ls) (by omega)
    obtain ⟨l1, ls1r, rfl, qls1⟩ := lenS (n := 1) (l := ls0r) qls0
    obtain ⟨l2, ls2r, rfl, qls2⟩ := lenS (n := 0) (l := ls1r) qls1
    obtain rfl := len0 (l := ls2r) qls2
    obtain ⟨k0, ks0r, rfl, qks0⟩ := lenS (n := 0) (l := ks) (by omega)
    obtain rfl := len0 (l := ks0r) qks0
    exact p3 ih hks hl hO hL hn hn2 hK hR hBs
  · obtain ⟨l0, ls0r, rfl, qls0⟩ := lenS (n := 1) (l := ls) (by omega)
    obtain ⟨l1, ls1r, rfl, qls1⟩ := lenS (n := 0) (l := ls0r) qls0
    obtain rfl := len0 (l := ls1r) qls1
    obtain ⟨k0, ks0r, rfl, qks0⟩ := lenS (n := 0) (l := ks) (by omega)
    obtain rfl := len0 (l := ks0r) qks0
    exact p4 ih hks hl hO hL hn hn2 hK hR hBs
  · obtain ⟨l0, ls0r, rfl, qls0⟩ := lenS (n := 1) (l := ls) (by omega)
    obtain ⟨l1, ls1r, rfl, qls1⟩ := lenS (n := 0) (l := ls0r) qls0
    obtain rfl := len0 (l := ls1r) qls1
    obtain ⟨k0, ks0r, rfl, qks0⟩ := lenS (n := 0) (l := ks) (by omega)
    obtain rfl := len0 (l := ks0r) qks0
    exact p8 ih hks hl hO hL hn hn2 hK hR hBs
  · obtain ⟨l0, ls0r, rfl, qls0⟩ := lenS (n := 1) (l := ls) (by omega)
    obtain ⟨l1, ls1r, rfl, qls1⟩ := lenS (n := 0) (l := ls0r) qls0
    obtain rfl := len0 (l := ls1r) qls1
    obtain ⟨k0, ks0r, rfl, qks0⟩ := lenS (n := 0) (l := ks) (by omega)
    obtain rfl := len0 (l := ks0r) qks0
    exact p22 ih hks hl hO hL hn hn2 hK hR hBs
  · obtain rfl := len0 (l := ls) (by omega)
    obtain ⟨k0, ks0r, rfl, qks0⟩ := lenS (n := 0) (l := ks) (by omega)
    obtain rfl := len0 (l := ks0r) qks0
    exact p17 ih hks hl hO hL hn hn2 hK hR hBs
  · obtain ⟨l0, ls0r, rfl, qls0⟩ := lenS (n := 2) (l := ls) (by omega)
    obtain ⟨l1, ls1r, rfl, qls1⟩ := lenS (n := 1) (l := ls0r) qls0
    obtain ⟨l2, ls2r, rfl, qls2⟩ := lenS (n := 0) (l := ls1r) qls1
    obtain rfl := len0 (l := ls2r) qls2
    obtain ⟨k0, ks0r, rfl, qks0⟩ := lenS (n := 2) (l := ks) (by omega)
    obtain ⟨k1, ks1r, rfl, qks1⟩ := lenS (n := 1) (l := ks0r) qks0
    obtain ⟨k2, ks2r, rfl, qks2⟩ := lenS (n := 0) (l := ks1r) qks1
    obtain rfl := len0 (l := ks2r) qks2
    exact p19 ih hks hl hO hL hn hn2 hK hR hBs
  · obtain ⟨l0, ls0r, rfl, qls0⟩ := lenS (n := 3) (l := ls) (by omega)
    obtain ⟨l1, ls1r, rfl, qls1⟩ := lenS (n := 2) (l := ls0r) qls0
    obtain ⟨l2, ls2r, rfl, qls2⟩ := lenS (n := 1) (l := ls1r) qls1
    obtain ⟨l3, ls3r, rfl, qls3⟩ := lenS (n := 0) (l := ls2r) qls2
    obtain rfl := len0 (l := ls3r) qls3
    obtain ⟨k0, ks0r, rfl, qks0⟩ := lenS (n := 1) (l := ks) (by omega)
    obtain ⟨k1, ks1r, rfl, qks1⟩ := lenS (n := 0) (l := ks0r) qks0
    obtain rfl := len0 (l := ks1r) qks1
    exact p20 ih hks hl hO hL hn hn2 hK hR hBs
  · obtain ⟨l0, ls0r, rfl, qls0⟩ := lenS (n := 0) (l := ls) (by omega)
    obtain rfl := len0 (l := ls0r) qls0
    obtain ⟨k0, ks0r, rfl, qks0⟩ := lenS (n := 1) (l := ks) (by omega)
    obtain ⟨k1, ks1r, rfl, qks1⟩ := lenS (n := 0) (l := ks0r) qks0
    obtain rfl := len0 (l := ks1r) qks1
    exact p21 ih hks hl hO hL hn hn2 hK hR hBs
  · obtain ⟨l0, ls0r, rfl, qls0⟩ := lenS (n := 0) (l := ls) (by omega)
    obtain rfl := len0 (l := ls0r) qls0
    obtain rfl := len0 (l := ks) (by omega)
    rcases hk with rfl | rfl | rfl | rfl | rfl | rfl | rfl | rfl | rfl | rfl
    · exact p5 (N := N) hks hl hO hL hn hn2 hK hR hBs
    · exact p6 (N := N) hks hl hO hL hn hn2 hK hR hBs
    · exact p7 (N := N) hks hl hO hL hn hn2 hK hR hBs
    · exact pLeaf (N := N) (by decide) hks hl hO hL hn hn2 hK hR hBs
    · exact pLeaf (N := N) (by decide) hks hl hO hL hn hn2 hK hR hBs
    · exact pLeaf (N := N) (by decide) hks hl hO hL hn hn2 hK hR hBs
    · exact pLeaf (N := N) (by decide) hks hl hO hL hn hn2 hK hR hBs
    · exact p13 (N := N) hks hl hO hL hn hn2 hK hR hBs
    · exact p14 (N := N) hks hl hO hL hn hn2 hK hR hBs
    · exact p15 (N := N) hks hl hO hL hn hn2 hK hR hBs
theorem piecesR : ∀ N, PiecesOk N
  | 0 => fun t _ _ _ _ _ _ _ _ hN => by cases t; simp only [tsize] at hN; omega
  | N + 1 => pieces_step (piecesR N)
end Go.Proofs.Ythpjpngfghcmcaa
namespace Go.Proofs.Ythpjpngfghcmcaa
open Go.RowKit Lx Sx
def putC (s : WS) (p : Pc) : WS := putP p.1 p.2 s
def runC (ps : List Pc) (s : WS) : WS := ps.foldl putC s
def refTx (ps : List Pc) : List UInt8 := (runC ps ([], [])).2
theorem runC_app (a b : List Pc) (s : WS) : runC (a ++ b) s = runC b (runC a s) := by simp [runC]
theorem runC_nil (s : WS) : runC [] s = s := rfl
theorem runC_cons (p : Pc) (r : List Pc) (s : WS) : runC (p :: r) s = runC r (putP p.1 p.2 s) := rfl
def Same2 : List Tree → Prop
  | [] => True
  | t :: r => (∀ s, treeP t s = runC (pcsT t) s) ∧ Same2 r
theorem Same2.at_ : ∀ {ks : List Tree} {t : Tree}, Same2 ks → t ∈ ks → ∀ s, treeP t s = runC (pcsT t) s
  | u :: r, t, h, ht => by
    rcases List.mem_cons.1 ht with e | e
    · exact e ▸ h.1
    · exact Same2.at_ h.2 e
theorem same_list {ls : List (List UInt8)} {c : Nat} : ∀ (ks : List Tree) (i : Nat) (s : WS), Same2 ks → listP ls c (treesP ks) i s = runC (rowC ls c (pcsTs ks) i) s
  | [], i, s, _ => rfl
  | t :: r, i, s, h => by
    simp only [treesP, pcsTs, listP, rowC, runC_app]
    rw [h.1, same_list r (i + 1) _ h.2]
    split <;> rfl
theorem same_fold : ∀ (ks : List Tree) (s : WS), Same2 ks → (treesP ks).foldl (fun s f => f s) s = runC (pcsTs ks).flatten s
  | [], s, _ => rfl
  | t :: r, s, h => by
    simp only [treesP, pcsTs, List.foldl_cons, List.flatten_cons, runC_app]
    rw [h.1, same_fold r _ h.2]
theorem suits_ne1 {k : Int} {n i : Nat} {kk : Int} (h : suitsT k n i kk = true) : kk ≠ 1 := by
  rintro rfl
  unfold suitsT at h
  revert h
  repeat' split
  all_goals (intro h; simp [isExprB, isTypeB, isUnitB] at h)
theorem kids_ne1 {k : Int} {n : Nat} : ∀ {ks : List Tree} {i : Nat}, kidsT k n ks i = true → ∀ t, t ∈ ks → t.kind ≠ 1
  | u :: r, i, h, t, ht => by
    simp only [kidsT, Bool.and_eq_true] at h
    rcases List.mem_cons.1 ht with e | e
    · exact e ▸ suits_ne1 h.1.1
    · exact kids_ne1 h.2 t e
theorem rowC_len (ls : List (List UInt8)) (c : Nat) : ∀ (fs : List (List Pc)) (i : Nat), (rowC ls c fs i).length ≤ fs.length + fs.flatten.length
  | [], i => by simp [rowC]
  | f :: r, i => by
    have := rowC_len ls c r (i + 1)
    simp only [rowC, List.length_append, List.length_cons, List.flatten_cons]
    split <;> simp only [List.length_cons, List.length_nil] <;> omega
theorem glue_nil (a b : List UInt8) : glueT a b [] = b := by
  unfold glueT
  rw [if_neg]
  rintro ⟨_, _, h⟩
  rw [fusesT_no (.inr rfl)] at h; cases h
def FineC (t : Tree) : Prop := (t.kind ≠ 1 → ∀ s, treeP t s = runC (pcsT t) s) ∧ (∀ s, (treeP t s).2 = (runC (pcsT t) s).2) ∧ (pcsT t).length ≤ 10 * tbulk t
theorem fine_of {t : Tree} (h : ∀ s, treeP t s = runC (pcsT t) s) (h2 : (pcsT t).length ≤ 10 * tbulk t) : FineC t := ⟨fun _ => h, fun s => by rw [h], h2⟩
theorem flat_bulk : ∀ {ks : List Tree}, (∀ t, t ∈ ks → (pcsT t).length ≤ 10 * tbulk t) → (pcsTs ks).flatten.length ≤ 10 * kbulk ks
  | [], _ => by simp [pcsTs]
  | t :: r, h => by
    have h1 := h t (by simp)
    have h2 := flat_bulk (ks := r) (fun u hu => h u (by simp [hu]))
    simp only [pcsTs, List.flatten_cons, List.length_append, kbulk]; omega
theorem same_of : ∀ {ks : List Tree}, (∀ t, t ∈ ks → FineC t ∧ t.kind ≠ 1) → Same2 ks
  | [], _ => trivial
  | t :: r, h => ⟨(h t (by simp)).1.1 (h t (by simp)).2, same_of (fun u hu => h u (by simp [hu]))⟩
theorem pcs_fine : ∀ (N : Nat) (t : Tree), tsize t ≤ N → shapedT t = true → leadedT t = true → FineC t
  | 0, t, hN, _, _ => by cases t; simp only [tsize] at hN; omega
  | N + 1, .node k x ls ks, hN, hs, hld => by
    simp only [tsize] at hN
    simp only [shapedT, leadedT, Bool.and_eq_true, decide_eq_true_eq] at hs hld
    have hks : ∀ t, t ∈ ks → FineC t ∧ t.kind ≠ 1 := fun t ht => ⟨pcs_fine N t (by have := tsize_mem ht; omega) (kids_all hs.2 t ht) (leaded_of hld.2 ht), kids_ne1 hs.2 t ht⟩
    have hS := same_of hks
    have hF := flat_bulk (fun t ht => (hks t ht).1.2.2)
    have hkl := kbulk_len ks
    have hpl := pcsTs_length ks
    have hlsl := lsum_len ls
    have hkk := leads_kind hs.1.1
    have hll := hld.1.1
    clear hs hld hN
    rcases hkk with ⟨rfl, e⟩ | ⟨rfl, h0, e⟩ | ⟨rfl, e⟩ | ⟨rfl, h0, e⟩ | ⟨rfl, h0, e⟩ | ⟨rfl, h0, e⟩ | ⟨rfl, h0, e⟩ | ⟨rfl, h0, e⟩ | ⟨rfl, h0, e⟩ | ⟨rfl, h0, e⟩ | ⟨rfl, h0, e⟩ | ⟨rfl, h0, e⟩ | ⟨hk, h0, e⟩
    · refine ⟨fun h => absurd rfl h, fun s => ?_, ?_⟩
      · rw [treeP, pcsT]
        simp only [nodeP, defnP, nodeC]
        simp only [true_or, if_true, runC_app, runC_cons, runC_nil, same_fold ks _ hS, putP, glue_nil, List.append_nil]
      · rw [pcsT, tbulk]; simp only [nodeC, if_true, List.length_append, List.length_cons, List.length_nil]; omega
    · obtain ⟨qs, k0, k1, rfl⟩ : ∃ ps k0 k1, ks = ps ++ [k0, k1] := by
        refine ⟨ks.take (ks.length - 2), ks[ks.length - 2]'(by omega), ks[ks.length - 1]'(by omega), ?_⟩
        have e1 : ks = ks.take (ks.length - 2) ++ ks.drop (ks.length - 2) := (List.take_append_drop _ _).symm
        have e2 : ks.drop (ks.length - 2) = [ks[ks.length - 2]'(by omega), ks[ks.length - 1]'(by omega)] := by
          rw [List.drop_eq_getElem_cons (by omega : ks.length - 2 < ks.length)]
          congr 1
          have e3 : ks.length - 2 + 1 = ks.length - 1 := by omega
          rw [e3, List.drop_eq_getElem_cons (by omega : ks.length - 1 < ks.length), List.drop_of_length_le (by omega)]
        rw [← e2]; exact e1
      have hk0 := hS.at_ (t := k0) (by simp)
      have hk1 := hS.at_ (t := k1) (by simp)
      have hSq : Same2 qs := same_of (fun t ht => hks t (by simp [ht]))
      refine fine_of (fun s => ?_) ?_
      · rw [treeP, treesP_app, treesP, treesP, treesP, node2, pcsT, pcsTs_app, pcsTs, pcsTs, pcsTs, nodeC2]
        simp only [runC_app, runC_cons, runC_nil, same_list qs 0 _ hSq, hk0, hk1]
      · rw [pcsT, tbulk, pcsTs_app, pcsTs, pcsTs, pcsTs, nodeC2]
        have := rowC_len ls 6 (pcsTs qs) 0
        have e1 := pcsTs_length qs
        have hql : (qs ++ [k0, k1]).length = qs.length + 2 := by simp
        rw [pcsTs_app, pcsTs, pcsTs, pcsTs, List.flatten_append] at hF
        simp only [List.length_append, List.flatten_cons, List.flatten_nil, List.length_nil, List.length_cons, Nat.add_zero] at hF hkl ⊢
        omega
    · refine fine_of (fun s => ?_) ?_
      · rw [treeP, pcsT]
        simp only [nodeP, nodeC]
        simp [runC_app, runC_cons, runC_nil, same_list ks 0 _ hS]
      · have := rowC_len ls 3 (pcsTs ks) 0
        rw [pcsT, tbulk]; simp [nodeC]; simp at hF this; omega
    · refine fine_of (fun s => ?_) ?_
      · rw [treeP, pcsT]
        simp only [nodeP, nodeC]
        simp [runC_app, runC_cons, runC_nil, same_list ks 0 _ hS]
      · have := rowC_len ls 2 (pcsTs ks) 0
        rw [pcsT, tbulk]; simp [nodeC]; simp at hF this; omega
    · obtain ⟨l0, ls0r, rfl, qls0⟩ := lenS (n := 2) (l := ls) (by omega)
      obtain ⟨l1, ls1r, rfl, qls1⟩ := lenS (n := 1) (l := ls0r) qls0
      obtain ⟨l2, ls2r, rfl, qls2⟩ := lenS (n := 0) (l := ls1r) qls1
      obtain rfl := len0 (l := ls2r) qls2
      obtain ⟨k0, ks0r, rfl, qks0⟩ := lenS (n := 0) (l := ks) (by omega)
      obtain rfl := len0 (l := ks0r) qks0
      have hk0 := hS.at_ (t := k0) (by simp)
      refine fine_of (fun s => ?_) ?_
      · simp [treeP, treesP, nodeP, defnP, pcsT, pcsTs, nodeC, runC_app, runC_cons, runC_nil, hk0]
      · simp only [pcsTs, List.flatten_cons, List.flatten_nil, List.append_nil, List.length_append] at hF
        simp [pcsT, pcsTs, nodeC, tbulk]; (try simp only [List.length_nil] at hF); omega
    · obtain ⟨l0, ls0r, rfl, qls0⟩ := lenS (n := 1) (l := ls) (by omega)
      obtain ⟨l1, ls1r, rfl, qls1⟩ := lenS (n := 0) (l := ls0r) qls0
      obtain rfl := len0 (l := ls1r) qls1
      obtain ⟨k0, ks0r, rfl, qks0⟩ := lenS (n := 0) (l := ks) (by omega)
      obtain rfl := len0 (l := ks0r) qks0
      have hk0 := hS.at_ (t := k0) (by simp)
      refine fine_of (fun s => ?_) ?_
      · simp [treeP, treesP, nodeP, defnP, pcsT, pcsTs, nodeC, runC_app, runC_cons, runC_nil, hk0]
      · simp only [pcsTs, List.flatten_cons, List.flatten_nil, List.append_nil, List.length_append] at hF
        simp [pcsT, pcsTs, nodeC, tbulk]; (try simp only [List.length_nil] at hF); omega
    · obtain ⟨l0, ls0r, rfl, qls0⟩ := lenS (n := 1) (l := ls) (by omega)
      obtain ⟨l1, ls1r, rfl, qls1⟩ := lenS (n := 0) (l := ls0r) qls0
      obtain rfl := len0 (l := ls1r) qls1
      obtain ⟨k0, ks0r, rfl, qks0⟩ := lenS (n := 0) (l := ks) (by omega)
      obtain rfl := len0 (l := ks0r) qks0
      have hk0 := hS.at_ (t := k0) (by simp)
      refine fine_of (fun s => ?_) ?_
      · simp [treeP, treesP, nodeP, defnP, pcsT, pcsTs, nodeC, runC_app, runC_cons, runC_nil, hk0]
      · simp only [pcsTs, List.flatten_cons, List.flatten_nil, List.append_nil, List.length_append] at hF
        simp [pcsT, pcsTs, nodeC, tbulk]; (try simp only [List.length_nil] at hF); omega
    · obtain ⟨l0, ls0r, rfl, qls0⟩ := lenS (n := 1) (l := ls) (by omega)
      obtain ⟨l1, ls1r, rfl, qls1⟩ := lenS (n := 0) (l := ls0r) qls0
      obtain rfl := len0 (l := ls1r) qls1
      obtain ⟨k0, ks0r, rfl, qks0⟩ := lenS (n := 0) (l := ks) (by omega)
      obtain rfl := len0 (l := ks0r) qks0
      have hk0 := hS.at_ (t := k0) (by simp)
      refine fine_of (fun s => ?_) ?_
      · simp [treeP, treesP, nodeP, defnP, pcsT, pcsTs, nodeC, runC_app, runC_cons, runC_nil, hk0]
      · simp only [pcsTs, List.flatten_cons, List.flatten_nil, List.append_nil, List.length_append] at hF
        simp [pcsT, pcsTs, nodeC, tbulk]; (try simp only [List.length_nil] at hF); omega
    · obtain rfl := len0 (l := ls) (by omega)
      obtain ⟨k0, ks0r, rfl, qks0⟩ := lenS (n := 0) (l := ks) (by omega)
      obtain rfl := len0 (l := ks0r) qks0
      have hk0 := hS.at_ (t := k0) (by simp)
      refine fine_of (fun s => ?_) ?_
      · simp [treeP, treesP, nodeP, defnP, pcsT, pcsTs, nodeC, runC_app, runC_cons, runC_nil, hk0]
      · simp only [pcsTs, List.flatten_cons, List.flatten_nil, List.append_nil, List.length_append] at hF
        simp [pcsT, pcsTs, nodeC, tbulk]; (try simp only [List.length_nil] at hF); omega
    · obtain ⟨l0, ls0r, rfl, qls0⟩ := lenS (n := 2) (l := ls) (by omega)
      obtain ⟨l1, ls1r, rfl, qls1⟩ := lenS (n := 1) (l := ls0r) qls0
      obtain ⟨l2, ls2r, rfl, qls2⟩ := lenS (n := 0) (l := ls1r) qls1
      obtain rfl := len0 (l := ls2r) qls2
      obtain ⟨k0, ks0r, rfl, qks0⟩ := lenS (n := 2) (l := ks) (by omega)
      obtain ⟨k1, ks1r, rfl, qks1⟩ := lenS (n := 1) (l := ks0r) qks0
      obtain ⟨k2, ks2r, rfl, qks2⟩ := lenS (n := 0) (l := ks1r) qks1
      obtain rfl := len0 (l := ks2r) qks2
      have hk0 := hS.at_ (t := k0) (by simp)
      have hk1 := hS.at_ (t := k1) (by simp)
      have hk2 := hS.at_ (t := k2) (by simp)
      refine fine_of (fun s => ?_) ?_
      · simp [treeP, treesP, nodeP, defnP, pcsT, pcsTs, nodeC, runC_app, runC_cons, runC_nil, hk0, hk1, hk2]
      · simp only [pcsTs, List.flatten_cons, List.flatten_nil, List.append_nil, List.length_append] at hF
        simp [pcsT, pcsTs, nodeC, tbulk]; (try simp only [List.length_nil] at hF); omega
    · obtain ⟨l0, ls0r, rfl, qls0⟩ := lenS (n := 3) (l := ls) (by omega)
      obtain ⟨l1, ls1r, rfl, qls1⟩ := lenS (n := 2) (l := ls0r) qls0
      obtain ⟨l2, ls2r, rfl, qls2⟩ := lenS (n := 1) (l := ls1r) qls1
      obtain ⟨l3, ls3r, rfl, qls3⟩ := lenS (n := 0) (l := ls2r) qls2
      obtain rfl := len0 (l := ls3r) qls3
      obtain ⟨k0, ks0r, rfl, qks0⟩ := lenS (n := 1) (l := ks) (by omega)
      obtain ⟨k1, ks1r, rfl, qks1⟩ := lenS (n := 0) (l := ks0r) qks0
      obtain rfl := len0 (l := ks1r) qks1
      have hk0 := hS.at_ (t := k0) (by simp)
      have hk1 := hS.at_ (t := k1) (by simp)
      refine fine_of (fun s => ?_) ?_
      · simp [treeP, treesP, nodeP, defnP, pcsT, pcsTs, nodeC, runC_app, runC_cons, runC_nil, hk0, hk1]
      · simp only [pcsTs, List.flatten_cons, List.flatten_nil, List.append_nil, List.length_append] at hF
        simp [pcsT, pcsTs, nodeC, tbulk]; (try simp only [List.length_nil] at hF); omega
    · obtain ⟨l0, ls0r, rfl, qls0⟩ := lenS (n := 0) (l := ls) (by omega)
      obtain rfl := len0 (l := ls0r) qls0
      obtain ⟨k0, ks0r, rfl, qks0⟩ := lenS (n := 1) (l := ks) (by omega)
      obtain ⟨k1, ks1r, rfl, qks1⟩ := lenS (n := 0) (l := ks0r) qks0
      obtain rfl := len0 (l := ks1r) qks1
      have hk0 := hS.at_ (t := k0) (by simp)
      have hk1 := hS.at_ (t := k1) (by simp)
      refine fine_of (fun s => ?_) ?_
      · simp [treeP, treesP, nodeP, defnP, pcsT, pcsTs, nodeC, runC_app, runC_cons, runC_nil, hk0, hk1]
      · simp only [pcsTs, List.flatten_cons, List.flatten_nil, List.append_nil, List.length_append] at hF
        simp [pcsT, pcsTs, nodeC, tbulk]; (try simp only [List.length_nil] at hF); omega
    · obtain ⟨l0, ls0r, rfl, qls0⟩ := lenS (n := 0) (l := ls) (by omega)
      obtain rfl := len0 (l := ls0r) qls0
      obtain rfl := len0 (l := ks) (by omega)
      refine fine_of (fun s => ?_) ?_
      · rcases hk with rfl | rfl | rfl | rfl | rfl | rfl | rfl | rfl | rfl | rfl <;> simp [treeP, treesP, nodeP, pcsT, pcsTs, nodeC, singleT, runC_cons, runC_nil]
      · rcases hk with rfl | rfl | rfl | rfl | rfl | rfl | rfl | rfl | rfl | rfl <;> simp [pcsT, pcsTs, nodeC, tbulk] <;> omega
theorem text_pcs {t : Tree} (hs : shapedT t = true) (hl : leadedT t = true) : textT t = refTx (pcsT t) := (pcs_fine _ t (Nat.le_refl _) hs hl).2.1 _
end Go.Proofs.Ythpjpngfghcmcaa
