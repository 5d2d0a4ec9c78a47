/- Contracts of the functions that the law reaches, part 7. -/
import Derived.Test.YtgpcdfbmbcognaaGreatTa6
set_option linter.unusedVariables false
set_option linter.unusedSimpArgs false
namespace Go.Proofs.YtgpcdfbmbcognaaGreat
open Go.RowKit Lx Sx
set_option maxRecDepth 100000
set_option maxHeartbeats 1000000
theorem Ai : qg jz (vv xl 6000 10 [.str wY]) = true := by kernel_rfl
theorem zx : tbulk jz ≤ 2000000 := by decide +kernel
theorem zO : (if (shapeK jz && leadedT jz) = true then eD jz else []) = wY := by decide +kernel
theorem ze : jz.kids.length = 1 ∧ jz.text = [77] ∧ (jz.kids.map (fun t => t.kids.length)) = [3] := by decide +kernel
theorem qU : hO true := by
 have h1 := ri jz (by have := zx; omega)
 rw [zO] at h1
 obtain ⟨h2, h3, h4⟩ := ze
 obtain ⟨k, hk⟩ : ∃ k, jz.kids = [k] := by
  match h : jz.kids, h2 with
  | [k], _ => exact ⟨k, rfl⟩
 rw [hk] at h4
 have h5 : k.kids.length = 3 := by simpa using h4
 have h6 : eM 2 4 (co 2 4) := pP (by decide) (by decide)
 have w : jK true := no 0 _ ⟨jz, 0, 0, BI Ai, fun _ => ⟨fun _ => ⟨fun _ => ⟨fun _ => ⟨k, by rw [hk]; rfl, fun _ => ⟨_, h1, fun _ => ⟨_, h6, by decide⟩, fun h => absurd rfl h⟩, fun h => absurd (by rw [h5]; rfl) h⟩, fun h => absurd h3 h⟩, fun h => absurd (by rw [h2]; rfl) h⟩, fun h => absurd rfl h⟩, fun h => absurd rfl h⟩
 exact w
theorem CO : ∀ t : Tree, tbulk t ≤ 900000000 → fD t (bareE t) := ec fun t ih ht => by
 have hk := eh t
 have hl := mQ t
 have kids : ∀ j i (us : List Tree), t.kids.length - i ≤ j → us.length ≤ i → ∃ M, dz M t us i (.node t.kind t.text (List.replicate t.leads.length []) (us ++ bareEs (t.kids.drop i))) := fun j => by
  have last : ∀ i (us : List Tree), ¬ i < t.kids.length → ∃ M, dz M t us i (.node t.kind t.text (List.replicate t.leads.length []) (us ++ bareEs (t.kids.drop i))) := fun i us hi => by
   rw [List.drop_of_length_le (by omega)]
   exact ⟨1, kh 0 _ _ _ _ ⟨fun h => absurd h hi, fun _ => by simp [bareEs]⟩⟩
  induction j with
  | zero => intro i us hi _; exact last i us (by omega)
  | succ j ihj =>
   intro i us hi hu
   obtain ⟨u, hu', hlt⟩ | hge := bd t.kids i
   ·have hub := dP hu'
    obtain ⟨M, hM⟩ := ihj (i + 1) (us ++ [bareE u]) (by omega) (by simp; omega)
    rw [dD hu', bareEs]
    refine ⟨M + 1, kh M _ _ _ _ ⟨fun _ => ⟨u, hu', _, ih i u hu' (by omega), by simp; omega, ?_⟩, fun h => absurd hlt h⟩⟩
    simpa using hM
   ·exact last i us hge
 obtain ⟨M, hM⟩ := kids t.kids.length 0 [] (by omega) (by simp)
 rw [oU]
 exact ph (M + 1) _ _ ⟨by omega, oD M _ _ (by simpa using hM)⟩
theorem uR (l : List Int) : iB l (decide (((l.length : Nat) : Int) ≤ 120)) := pe 0 _ _ rfl
theorem CA (l : List Int) : gZ l true := by
 by_cases hl : ((l.length : Nat) : Int) ≤ 120
 rotate_left
 ·exact gD 0 _ _ ⟨_, uR l, fun _ => ⟨_, qU, rfl⟩, fun h => absurd (of_decide_eq_true h) hl⟩
 obtain ⟨p, hp, hb, hm⟩ := xy l (by omega)
 have hpl := fq p
 have loop : ∀ k i, p.length - i ≤ k → ∃ M, bS M p i true := fun k => by
  have last : ∀ i, ¬ i < p.length → ∃ M, bS M p i true := fun i hi => ⟨1, gh 0 _ _ _ ⟨fun h => absurd h hi, fun _ => ⟨_, qU, rfl⟩⟩⟩
  induction k with
  | zero => intro i hi; exact last i (by omega)
  | succ k ih =>
   intro i hi
   obtain ⟨t, ht, hlt⟩ | hge := bd p i
   ·have htb := lA ht
    obtain ⟨hk, hs, hld, h4⟩ := hm t (List.mem_of_getElem? ht)
    have hkb : (bareE t).kind = 1 := by rw [oM]; exact hk
    have hsb : shapeK (bareE t) = true := by rw [shape_bare]; exact hs
    have hlb := leaded_bare t hld
    have h4b : (eD (bareE t)).length ≤ 4096 := Nat.le_trans (zg hk hs) h4
    have hbb := bulk_bare t
    have e1 := ri t (by omega)
    rw [hs, hld] at e1
    have e2 := yL (eD t) (by omega)
    rw [tr hk hs hld h4] at e2
    have e3 := CO t (by omega)
    have e4 := ri (bareE t) (by omega)
    rw [hsb, hlb] at e4
    have e5 := yL (eD (bareE t)) (by omega)
    rw [tr hkb hsb hlb h4b, uq] at e5
    obtain ⟨M, hM⟩ := ih (i + 1) (by omega)
    obtain ⟨A, hA⟩ : ∃ A, A = (tkA [] (pcM t)).map gTk := ⟨_, rfl⟩
    obtain ⟨B, hB⟩ : ∃ B, B = (tkA [] ((pcM t).map stP)).map gTk := ⟨_, rfl⟩
    have hAl : A.length = (pcM t).length := by rw [hA, List.length_map, sw]
    have hBl : B.length = (pcM t).length := by rw [hB, List.length_map, sw, List.length_map]
    have hsame : ∀ (j : Nat) (x y : GToken), A[j]? = some x → B[j]? = some y → x.Kind = y.Kind ∧ x.Text = y.Text := fun j x y hx hy => by
     rw [hA, List.getElem?_map] at hx
     rw [hB, List.getElem?_map] at hy
     obtain ⟨a, ha, rfl⟩ := Option.map_eq_some_iff.1 hx
     obtain ⟨b, hb', rfl⟩ := Option.map_eq_some_iff.1 hy
     obtain ⟨q, hq, a1, a2⟩ := sJ ha
     obtain ⟨q', hq', b1, b2⟩ := sJ hb'
     rw [List.getElem?_map, hq] at hq'
     simp only [Option.map_some, Option.some.injEq] at hq'
     subst hq'
     exact ⟨by simp only [gTk]; rw [a1, b1]; rfl, by simp only [gTk]; rw [a2, b2]; rfl⟩
    have inner : ∀ n j, A.length - j ≤ n → ∃ M, bR M p A B j i true := fun n => by
     have last' : ∀ j, ¬ j < A.length → ∃ M, bR M p A B j i true := fun j hj => ⟨M + 1, gj M _ _ _ _ _ _ ⟨fun h => absurd h hj, fun _ => ⟨by omega, hM⟩⟩⟩
     induction n with
     | zero => intro j hj; exact last' j (by omega)
     | succ n ihn =>
      intro j hj
      obtain ⟨x, hx, hxl⟩ | hge := bd A j
      ·obtain ⟨y, hy, _⟩ | h' := bd B j
       ·obtain ⟨M', hM'⟩ := ihn (j + 1) (by omega)
        obtain ⟨q1, q2⟩ := hsame j x y hx hy
        exact ⟨M' + 1, gj M' _ _ _ _ _ _ ⟨fun _ => ⟨x, hx, y, hy, fun h => absurd q1 h, fun _ => ⟨x, hx, y, hy, fun h => absurd q2 h, fun _ => hM'⟩⟩, fun h => absurd hxl h⟩⟩
       ·omega
      ·exact last' j hge
    obtain ⟨M1, hM1⟩ := inner A.length 0 (by omega)
    rw [← hA] at e2
    rw [← hB] at e5
    exact ⟨M1 + 1, gh M1 _ _ _ ⟨fun _ => ⟨t, ht, _, e1, _, _, _, _, e2, t, ht, _, e3, _, e4, _, _, _, _, e5, fun h => absurd rfl h, fun _ => ⟨fun h => absurd rfl h, fun _ => ⟨fun h => absurd (by rw [hAl, hBl]) h, fun _ => hM1⟩⟩⟩, fun h => absurd hlt h⟩⟩
   ·exact last i hge
 obtain ⟨M, hM⟩ := loop p.length 0 (by omega)
 exact gD M _ _ ⟨_, uR l, fun _ => ⟨_, qU, rfl⟩, fun _ => ⟨p, hp, hM⟩⟩
end Go.Proofs.YtgpcdfbmbcognaaGreat
namespace Go.Proofs.YtgpcdfbmbcognaaGreat
open Go.RowKit Go.ChangeShapes Go.WideShapes Go.Deep
theorem zm : Tryz.prog.cellsOf 3 = 1 := by kernel_rfl
theorem DW {H : Type} {enc : TypeId × Value → H} {W : World} {a0 : Option Addr} {len cap : Nat} {d : DataW H} {p : List MemPlace} (h : DataW.Trod enc Tryz.prog W 0 (fun _ => true) true 22 (.slice a0 len cap) d p) :
  ∃ zs : List Int, len = zs.length ∧ len ≤ cap ∧ cap ≤ maxLen ∧ RowIn Any W 1 a0 zs.length (zs.map fun z => .int .i64 z) := by
 obtain ⟨fuel, hf⟩ := h
 rcases open_ints Tryz.underlying22 Tryz.underlying3 zm hf with ⟨hcs, hx⟩ | ⟨a, len', cap', zs, hcs, hb, hl, hm, hlen, hx, hcell, hwf⟩
 ·simp [Value.cells] at hcs
  obtain ⟨rfl, rfl, rfl⟩ := hcs
  exact ⟨[], rfl, Nat.le_refl _, Nat.zero_le _, RowIn.none_⟩
 ·simp [Value.cells] at hcs
  obtain ⟨rfl, rfl, rfl⟩ := hcs
  simp only [if_true] at hlen
  have hlt : (zs.take len).length = len := by simp; omega
  refine ⟨zs.take len, hlt.symm, hl, hm, by simp, fun h0 => ?_⟩
  rw [hlt] at h0 ⊢
  have hs : a.spot = none := World.cell?_spot (a := a) (by have := hcell 0 (by omega); simpa [Addr.add] using this)
  obtain ⟨b, off, spot⟩ := a
  simp only at hs
  subst hs
  have hadd : ∀ k, (⟨b, off, none⟩ : Addr).add k = ⟨b, off + k, none⟩ := fun k => by unfold Addr.add; split <;> simp_all
  refine ⟨b, off, rfl, trivial, ?_, fun j hj => ?_⟩
  ·have := hcell 0 (by omega)
   exact World.block_lt_of_cell? W ⟨b, off, none⟩ (by simpa [Addr.add] using this)
  ·have hj' : j < len := by omega
   have := hcell j (by omega)
   rw [hadd] at this
   rw [this]
   simp [hj', List.getD_eq_getElem?_getD, show j < zs.length from by omega]
end Go.Proofs.YtgpcdfbmbcognaaGreat
