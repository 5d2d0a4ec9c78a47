/- Contracts of the functions that the law reaches, part 2. -/
import Derived.Test.YthpjpngfghcmcaaSh1
set_option linter.unusedVariables false
set_option linter.unusedSimpArgs false
namespace Go.Proofs.Ythpjpngfghcmcaa
open Go.RowKit Lx Sx
set_option maxRecDepth 100000
set_option maxHeartbeats 4000000
mutual
def tsize : Tree → Nat
  | .node _ _ _ ks => tsizes ks + 1
def tsizes : List Tree → Nat
  | [] => 0
  | t :: r => tsize t + tsizes r
end
theorem tsize_at : ∀ {ks : List Tree} {i : Nat} (h : i < ks.length), tsize ks[i] ≤ tsizes ks
  | t :: r, 0, _ => by simp only [tsizes, List.getElem_cons_zero]; omega
  | t :: r, i + 1, h => by have := tsize_at (ks := r) (i := i) (by simpa using h); simp only [tsizes, List.getElem_cons_succ]; omega
theorem depths_drop {ks : List Tree} {i : Nat} (h : i < ks.length) : depthsT (ks.drop i) = max (depthT ks[i]) (depthsT (ks.drop (i + 1))) := by rw [List.drop_eq_getElem_cons h, depthsT]
theorem depth_at : ∀ {ks : List Tree} {i : Nat} (h : i < ks.length), depthT ks[i] ≤ depthsT ks
  | t :: r, 0, _ => by simp only [depthsT, List.getElem_cons_zero]; omega
  | t :: r, i + 1, h => by have := depth_at (ks := r) (i := i) (by simpa using h); simp only [depthsT, List.getElem_cons_succ]; omega
theorem kid_cells {S : Nat → Prop} {w w' : World} {ks : List Tree} {cs : List Value} {kb ko i : Nat} (hK : KidsAre S w ks cs) (hlt : kb < w.heap.size) (hc : ∀ j, j < ks.length * 4 → w.cell? ⟨kb, ko + j, none⟩ = cs[j]?) (hi : i < ks.length) (he : Chg [] w w') :
    ∃ c0 c1 c2 c3, TreeIs S w' ks[i] [c0, c1, c2, c3] ∧ ∀ j, j < 4 → w'.cell? ⟨kb, ko + i * 4 + j, none⟩ = ([c0, c1, c2, c3] : List Value)[j]? := by
  obtain ⟨c0, c1, c2, c3, hT, h0, h1, h2, h3⟩ := hK.at_ hi
  refine ⟨c0, c1, c2, c3, hT.chg he (fun _ _ _ => nm0), fun j hj => ?_⟩
  rw [he.cell hlt nm0, Nat.add_assoc, hc _ (by omega)]
  rcases (by omega : j = 0 ∨ j = 1 ∨ j = 2 ∨ j = 3) with rfl | rfl | rfl | rfl
  · exact h0
  · exact h1
  · exact h2
  · exact h3
theorem max_cast {m l : Nat} : some (Value.int .i64 (max (m : Int) (l : Int))) = some (Value.int .i64 ((max m l : Nat) : Int)) := by congr 2; omega
def DepthOk (N : Nat) : Prop := ∀ (t : Tree) (S : Nat → Prop) (w : World) (c0 c1 c2 c3 : Value), tsize t ≤ N → depthT t ≤ 1000000000000000 → TreeIs S w t [c0, c1, c2, c3] → Calls Try.prog 28 [.agg #[c0, c1, c2, c3]].toArray w fun e w' => e = .returned (.int .i64 (depthT t : Nat)) ∧ Chg [] w w'
theorem depth_step {N : Nat} (ih : DepthOk N) : DepthOk (N + 1) := by
  intro t S w c0 c1 c2 c3 hN hd hT
  obtain ⟨k, tx, ls, ks⟩ := t
  simp only [TreeIs] at hT
  obtain ⟨A, m0, B, n, hc, _, _, hb1, hb2, _, cs, hkids, hrow⟩ := hT
  simp only [List.cons.injEq, and_true] at hc
  obtain ⟨rfl, rfl, rfl, rfl⟩ := hc
  simp only [tsize] at hN
  simp only [depthT] at hd
  have hcap : ks.length ≤ 9223372036854775807 := by simp only [maxLen] at hb2; omega
  refine rE 20 Try.func28 rfl rfl rfl ?_
  intro a hf
  have hE := Chg.refl [] w
  refine rR 2 hf rfl ?_
  clear hf a; intro a hf
  obtain ⟨w1, b2, he, hB3, hx4, eb5, lb6⟩ := ef_box (P := Try.prog) (t := 26) (x := (.tmp 0)) hf rfl rfl w 0
  refine rV hf rfl he ?_
  clear he hf a; intro a hf
  have ge_b2 := ge_new hE eb5
  replace hE := hE.t0 hx4
  clear eb5 lb6
  refine rR 12 hf rfl ?_
  clear hf a; intro a hf
  refine rV hf rfl (ex_loadB hf rfl (by kernel_rfl) hB3 rfl) ?_
  clear hf a; intro a hf
  refine rV hf rfl (ex_len hf Try.underlying24 rfl) ?_
  clear hf a; intro a hf
  refine rR 4 hf rfl ?_
  clear hf a; intro a hf
  refine rL (fun g a w' => ∃ i m, Fr a 20 (fm [(3, .int .i64 (m : Nat)), (7, .slice B ks.length n), (8, .int .i64 (ks.length : Nat)), (9, .int .i64 (i : Nat))]) ∧ Chg [] w w' ∧ i ≤ ks.length ∧ g = ks.length - i ∧ max m (depthsT (ks.drop i)) = depthsT ks) _ ⟨0, 0, hf.pick ⟨rfl, rfl, rfl, rfl, trivial⟩, hE, Nat.zero_le _, rfl, by simp⟩ ?_
  clear hf a; intro g0 a w' hI
  obtain ⟨i, m, hf, hE, hi, rfl, hm⟩ := hI
  by_cases hlt : i < ks.length
  obtain ⟨kb, ko, rfl, _, hkb, hcell⟩ := hrow.2 (by omega)
  obtain ⟨d0, d1, d2, d3, hT, hK⟩ := kid_cells hkids hkb hcell hlt hE
  have on_T := hT.one
  have hdd := depth_at hlt
  have htt := tsize_at hlt
  have hmm := depths_drop hlt
  have lt_kb := hE.lt hkb
  obtain ⟨hi0, ehi0⟩ : ∃ x, x = w'.heap.size := ⟨_, rfl⟩
  replace hT := hT.keepB (S' := fun b => b < hi0) (fun b _ hb => by omega) (fun _ _ _ => rfl)
  refine rR 2 hf rfl ?_
  clear hf a; intro a hf
  refine rV hf rfl (ex_ltI (c := true) hf rfl rfl (by simp; omega)) ?_
  clear hf a; intro a hf
  refine rR 10 hf rfl ?_
  clear hf a; intro a hf
  refine rV hf rfl (ex_index (sz := 4) (k := i) (r := ko + i * 4) hf Try.underlying24 (by kernel_rfl) rfl rfl rfl hlt rfl) ?_
  clear hf a; intro a hf
  refine rV hf rfl (ex_loadN (cs := [d0, d1, d2, d3]) (m := 4) hf rfl (by kernel_rfl) rfl hK) ?_
  clear hf a; intro a hf
  obtain ⟨w7, b8, he, hB9, hx10, eb11, lb12⟩ := eT a w' 0
  refine rV hf rfl he ?_
  clear he hf a; intro a hf
  have ge_b8 := ge_new hE eb11
  have tb_b8 : hi0 ≤ b8 := by omega
  replace hT := hT.t0 hx10
  replace hE := hE.t0 hx10
  clear eb11 lb12
  obtain ⟨w13, he, hB14, hx15⟩ := eN (.tmp 5) (.tmp 12) hf rfl rfl rfl on_T hB9 rfl 0
  refine rS hf rfl he ?_
  clear he hf a; intro a hf
  replace hT := hT.chg hx15 (fun b hb hlt2 => (nmc (by omega) nm0))
  replace hE := hE.n1 hx15 ge_b8
  clear hB9
  refine rR 4 hf rfl ?_
  clear hf a; intro a hf
  refine rV hf rfl (ex_loadBN (m := 4) hf rfl (by kernel_rfl) hB14 rfl) ?_
  clear hf a; intro a hf
  refine rC hf rfl rfl (by kernel_rfl) (ih _ _ _ _ _ _ _ (by omega) (by omega) hT) ?_
  rintro _ w17 ⟨rfl, hx16⟩
  refine ⟨_, rfl, ?_⟩
  clear hf a; intro a hf
  replace hB14 := hB14.c0 hx16
  replace hT := hT.t0 hx16
  replace hE := hE.t0 hx16
  refine rV hf rfl (ex_maxI hf rfl rfl) ?_
  clear hf a; intro a hf
  refine rR 5 hf rfl ?_
  clear hf a; intro a hf
  refine rV hf rfl (ex_addI hf rfl rfl rfl (by omega)) ?_
  clear hf a; intro a hf
  refine rR 2 hf rfl ?_
  clear hf a; intro a hf
  exact rX ⟨_, (by omega : ks.length - (i + 1) < ks.length - i), i + 1, max m (depthT ks[i]), hf.pick ⟨max_cast, rfl, rfl, rfl, trivial⟩, hE, by omega, rfl, by rw [← hm, hmm]; omega⟩
  have hz : ks.drop i = [] := List.drop_of_length_le (by omega)
  rw [hz, depthsT] at hm
  refine rR 2 hf rfl ?_
  clear hf a; intro a hf
  refine rV hf rfl (ex_ltI (c := false) hf rfl rfl (by simp; omega)) ?_
  clear hf a; intro a hf
  refine rR 6 hf rfl ?_
  clear hf a; intro a hf
  refine rO ?_
  refine rR 5 hf rfl ?_
  clear hf a; intro a hf
  refine rV hf rfl (ex_addI hf rfl rfl rfl (by omega)) ?_
  clear hf a; intro a hf
  refine rR 4 hf rfl ?_
  clear hf a; intro a hf
  exact rT (rs := [.tmp 2]) hf rfl ⟨_, _, rfl, rfl, rfl⟩ ⟨by rw [show depthT (.node k tx ls ks) = m + 1 from by rw [depthT]; omega]; rfl, hE⟩
theorem depthL : ∀ N, DepthOk N
  | 0 => fun t _ _ _ _ _ _ hN => by cases t; simp only [tsize] at hN; omega
  | N + 1 => depth_step (depthL N)
end Go.Proofs.Ythpjpngfghcmcaa
namespace Go.Proofs.Ythpjpngfghcmcaa.Lx
def wordLen (l : List UInt8) : Nat := if letterB (l.getD 0 0) = true then spanN wordB l else 0
def signLen (l : List UInt8) : Nat :=
  if (l.getD 0 0).toNat = 61 then (if 1 < l.length ∧ (l.getD 1 0).toNat = 61 then 2 else 1)
  else if ([40, 41, 91, 93, 58, 44, 43, 45, 42, 60, 63] : List Nat).contains (l.getD 0 0).toNat = true then 1 else 0
theorem getD_drop (l : List UInt8) (k : Nat) : (l.drop k).getD 0 0 = l.getD k 0 := by simp [List.getD]
theorem getD_drop1 (l : List UInt8) (k : Nat) : (l.drop k).getD 1 0 = l.getD (k + 1) 0 := by simp [List.getD]
theorem signLen_eq {l : List UInt8} {k : Nat} {c : UInt8} (h : k < l.length) (hc : l[k] = c) :
    signLen (l.drop k) = if c.toNat = 61 then (if k + 1 < l.length ∧ (l.getD (k + 1) 0).toNat = 61 then 2 else 1)
      else if ([40, 41, 91, 93, 58, 44, 43, 45, 42, 60, 63] : List Nat).contains c.toNat = true then 1 else 0 := by
  unfold signLen
  rw [getD_drop, getD_drop1, getD_of_lt h hc, List.length_drop]
  by_cases h2 : k + 1 < l.length
  · have h1 : 1 < l.length - k := by omega
    simp only [h1, h2]
  · have h1 : ¬ 1 < l.length - k := by omega
    simp only [h1, h2]
theorem lower_of {c : UInt8} (h : letterB c = true) (hu : upperB c = false) : lowerB c = true := by simpa [letterB, hu] using h
theorem not_lower {c : UInt8} (hu : upperB c = true) : lowerB c = false := by simp [upperB, lowerB] at *; omega
theorem quotedT_at {l : List UInt8} {k j : Nat} {c : UInt8} (h : k < l.length) (hc : l[k] = c) :
    quotedT (l.drop k) j = if allowedB c = false then (j, 1) else if c.toNat = 34 then (j + 1, 0) else if c.toNat = 92 ∨ c.toNat < 32 then (0, 2) else quotedT (l.drop (k + 1)) (j + 1) := by
  rw [List.drop_eq_getElem_cons h, hc]; rfl
theorem quotedT_at_end {l : List UInt8} {k j : Nat} (h : l.length ≤ k) : quotedT (l.drop k) j = (0, 2) := by
  rw [List.drop_of_length_le h]; rfl
theorem printed_lt {c : UInt8} (ha : allowedB c = true) (hp : printedB c = false) : c.toNat < 32 := by
  simp [allowedB, hp, whiteB] at ha
  simp [printedB] at hp
  omega
theorem printed_ge {c : UInt8} (hp : printedB c = true) : ¬ c.toNat < 32 := by
  simp [printedB] at hp; omega
theorem allowed_quote {c : UInt8} (h : c.toNat = 34) : allowedB c = true := by simp [allowedB, printedB, h]
theorem sign_same (l : List UInt8) : (if (l.getD 0 0).toNat = 61 ∧ 1 < l.length ∧ (l.getD 1 0).toNat = 61 then ((8, 2, 0) : Nat × Nat × Nat) else if signs.contains (l.getD 0 0) = true then (8, 1, 0) else (0, 0, 2)) =
    if signLen l = 0 then (0, 0, 2) else (8, signLen l, 0) := by
  unfold signLen
  generalize l.getD 0 0 = c
  generalize l.getD 1 0 = d
  by_cases h61 : c.toNat = 61
  · have hc : c = 61 := by apply UInt8.toNat_inj.1; simpa using h61
    subst hc
    by_cases h2 : 1 < l.length ∧ d.toNat = 61
    · simp [h2]
    · simp [h2, signs]
  · have : signs.contains c = ([40, 41, 91, 93, 58, 44, 43, 45, 42, 60, 63] : List Nat).contains c.toNat := by
      simp only [signs, List.contains_cons, List.contains_nil, Bool.or_false]
      have h : ∀ n : UInt8, (c == n) = (c.toNat == n.toNat) := fun n => by rw [Bool.eq_iff_iff]; simp [UInt8.toNat_inj]
      simp only [h]
      have : (c.toNat == (61 : UInt8).toNat) = false := by simpa using h61
      rw [this]
      rfl
    rw [this]
    simp only [h61, false_and, if_false]
    split <;> simp_all
end Go.Proofs.Ythpjpngfghcmcaa.Lx
namespace Go.Proofs.Ythpjpngfghcmcaa
open Go.RowKit Lx
set_option maxRecDepth 100000
set_option maxHeartbeats 1000000 in
theorem wordR (l : List UInt8) (x : Int) (k : Nat) (hx : x = k) (w : World) (hk : k ≤ l.length) (hl : l.length ≤ 281474976710656) : Calls Try.prog 119 #[.string ⟨l.toArray⟩, .int .i64 x] w fun e w' => e = .returned (.int .i64 (wordLen (l.drop k) : Nat)) ∧ w = w' := by
  subst hx
  by_cases hlt : k < l.length
  rotate_left
  · have HR := Lib.hid (show wordLen (l.drop k) = 0 from by rw [List.drop_of_length_le (by omega)]; rfl)
    have hge : (l.length : Int) ≤ k := by omega
    go_enter Try.func119, Try.ntmps119
    go_wp2_with (first | (go_at_call 108; refine (lowerR _ _).mono ?_; rintro e w' ⟨rfl, rfl⟩) | (go_at_call 109; refine (upperR _ _).mono ?_; rintro e w' ⟨rfl, rfl⟩) | (go_at_call 125; refine (inWordR _ _).mono ?_; rintro e w' ⟨rfl, rfl⟩))
    go_ret
    exact ⟨ret_int (by rw [HR.out]; rfl), rfl⟩
  obtain ⟨c, hc⟩ : ∃ c, ({ data := l.toArray } : ByteArray)[k]'hlt = c := ⟨_, rfl⟩
  have HC := Lib.hid (show l[k] = c from hc)
  have hge : decide (l.length ≤ k) = false := by simp; omega
  have HG := Lib.hid (show (l.drop k).getD 0 0 = c from by rw [getD_drop]; exact getD_of_lt hlt HC.out)
  cases hlo : lowerB c <;> cases hup : upperB c
  · have HR := Lib.hid (show wordLen (l.drop k) = 0 from by rw [wordLen, HG.out]; simp [letterB, hlo, hup])
    go_enter Try.func119, Try.ntmps119
    go_wp2_with (first | (go_at_call 108; refine (lowerR _ _).mono ?_; rintro e w' ⟨rfl, rfl⟩) | (go_at_call 109; refine (upperR _ _).mono ?_; rintro e w' ⟨rfl, rfl⟩) | (go_at_call 125; refine (inWordR _ _).mono ?_; rintro e w' ⟨rfl, rfl⟩))
    go_ret
    exact ⟨ret_int (by rw [HR.out]; rfl), rfl⟩
  all_goals
    have HR := Lib.hid (show wordLen (l.drop k) = spanN wordB (l.drop k) from by rw [wordLen, HG.out]; simp [letterB, hlo, hup])
    rw [HR.out]
    clear HR
    go_enter Try.func119, Try.ntmps119
    go_wp2_with (first | (go_at_call 108; refine (lowerR _ _).mono ?_; rintro e w' ⟨rfl, rfl⟩) | (go_at_call 109; refine (upperR _ _).mono ?_; rintro e w' ⟨rfl, rfl⟩) | (go_at_call 125; refine (inWordR _ _).mono ?_; rintro e w' ⟨rfl, rfl⟩))
    go_loopg [5] (l.length - k) (fun g n wx => ∃ i : Nat, g = l.length - i ∧ wx = w ∧ k ≤ i ∧ i ≤ l.length ∧ n = .int .i64 i ∧ Hid (spanN wordB (l.drop k) = i - k + spanN wordB (l.drop i)))
    case atStart => exact ⟨k, rfl, rfl, Nat.le_refl _, hk, rfl, Lib.hid (by omega)⟩
    case round =>
      obtain ⟨i, rfl, rfl, hki, hil, rfl, hrel⟩ := hrel
      by_cases hit : i < l.length
      · skip
        obtain ⟨d, hd⟩ : ∃ c, ({ data := l.toArray } : ByteArray)[i]'hit = c := ⟨_, rfl⟩
        have HD := Lib.hid (show l[i] = d from hd)
        cases hwd : wordB d
        · go_wp2_with (first | (go_at_call 108; refine (lowerR _ _).mono ?_; rintro e w' ⟨rfl, rfl⟩) | (go_at_call 109; refine (upperR _ _).mono ?_; rintro e w' ⟨rfl, rfl⟩) | (go_at_call 125; refine (inWordR _ _).mono ?_; rintro e w' ⟨rfl, rfl⟩))
          go_ret
          exact ⟨ret_int (by rw [hrel.out, spanN_stop hit HD.out hwd]; omega), rfl⟩
        · go_wp2_with (first | (go_at_call 108; refine (lowerR _ _).mono ?_; rintro e w' ⟨rfl, rfl⟩) | (go_at_call 109; refine (upperR _ _).mono ?_; rintro e w' ⟨rfl, rfl⟩) | (go_at_call 125; refine (inWordR _ _).mono ?_; rintro e w' ⟨rfl, rfl⟩))
          go_roundg (l.length - (i + 1))
          case measure => omega
          case rel => exact ⟨i + 1, rfl, rfl, by omega, by omega, by go_num, Lib.hid (by rw [hrel.out, spanN_step hit HD.out hwd]; omega)⟩
      · go_wp2_with (first | (go_at_call 108; refine (lowerR _ _).mono ?_; rintro e w' ⟨rfl, rfl⟩) | (go_at_call 109; refine (upperR _ _).mono ?_; rintro e w' ⟨rfl, rfl⟩) | (go_at_call 125; refine (inWordR _ _).mono ?_; rintro e w' ⟨rfl, rfl⟩))
        go_ret
        exact ⟨ret_int (by rw [hrel.out, spanN_end (by omega)]; omega), rfl⟩
set_option maxHeartbeats 2000000 in
theorem signR (l : List UInt8) (x : Int) (k : Nat) (hx : x = k) (w : World) (hlt : k < l.length) (hl : l.length ≤ 281474976710656) : Calls Try.prog 111 #[.string ⟨l.toArray⟩, .int .i64 x] w fun e w' => e = .returned (.int .i64 (signLen (l.drop k) : Nat)) ∧ w = w' := by
  subst hx
  obtain ⟨c, hc⟩ : ∃ c, ({ data := l.toArray } : ByteArray)[k]'hlt = c := ⟨_, rfl⟩
  have HC := Lib.hid (show l[k] = c from hc)
  have HS := Lib.hid (signLen_eq hlt HC.out)
  cases h61 : ((c.toNat : Int) == 61)
  rotate_left
  · by_cases h1 : k + 1 < l.length
    · have h1' : (k : Int) + 1 < l.length := by omega
      obtain ⟨d, hd⟩ : ∃ c, ({ data := l.toArray } : ByteArray)[k + 1]'h1 = c := ⟨_, rfl⟩
      have HD := Lib.hid (show l[k + 1] = d from hd)
      cases h62 : ((d.toNat : Int) == 61)
      · go_enter Try.func111, Try.ntmps111
        go_wp2
        go_ret
        exact ⟨ret_int (by rw [HS.out, if_pos (beqI (m := 61) h61), if_neg (fun h => bneI (m := 61) h62 (by rw [← getD_of_lt h1 HD.out]; exact h.2))]; rfl), rfl⟩
      · go_enter Try.func111, Try.ntmps111
        go_wp2
        go_ret
        exact ⟨ret_int (by rw [HS.out, if_pos (beqI (m := 61) h61), if_pos ⟨h1, by rw [getD_of_lt h1 HD.out]; exact beqI (m := 61) h62⟩]; rfl), rfl⟩
    · have h1' : ¬ ((k : Int) + 1 < l.length) := by omega
      go_enter Try.func111, Try.ntmps111
      go_wp2
      go_ret
      exact ⟨ret_int (by rw [HS.out, if_pos (beqI (m := 61) h61), if_neg (fun h => h1 h.1)]; rfl), rfl⟩
  cases h40 : ((c.toNat : Int) == 40)
  rotate_left
  · go_enter Try.func111, Try.ntmps111
    go_wp2
    go_ret
    exact ⟨ret_int (by rw [HS.out, if_neg (bneI (m := 61) h61), if_pos (by simp [beqI (m := 40) h40])]; rfl), rfl⟩
  cases h41 : ((c.toNat : Int) == 41)
  rotate_left
  · go_enter Try.func111, Try.ntmps111
    go_wp2
    go_ret
    exact ⟨ret_int (by rw [HS.out, if_neg (bneI (m := 61) h61), if_pos (by simp [beqI (m := 41) h41])]; rfl), rfl⟩
  cases h91 : ((c.toNat : Int) == 91)
  rotate_left
  · go_enter Try.func111, Try.ntmps111
    go_wp2
    go_ret
    exact ⟨ret_int (by rw [HS.out, if_neg (bneI (m := 61) h61), if_pos (by simp [beqI (m := 91) h91])]; rfl), rfl⟩
  cases h93 : ((c.toNat : Int) == 93)
  rotate_left
  · go_enter Try.func111, Try.ntmps111
    go_wp2
    go_ret
    exact ⟨ret_int (by rw [HS.out, if_neg (bneI (m := 61) h61), if_pos (by simp [beqI (m := 93) h93])]; rfl), rfl⟩
  cases h58 : ((c.toNat : Int) == 58)
  rotate_left
  · go_enter Try.func111, Try.ntmps111
    go_wp2
    go_ret
    exact ⟨ret_int (by rw [HS.out, if_neg (bneI (m := 61) h61), if_pos (by simp [beqI (m := 58) h58])]; rfl), rfl⟩
  cases h44 : ((c.toNat : Int) == 44)
  rotate_left
  · go_enter Try.func111, Try.ntmps111
    go_wp2
    go_ret
    exact ⟨ret_int (by rw [HS.out, if_neg (bneI (m := 61) h61), if_pos (by simp [beqI (m := 44) h44])]; rfl), rfl⟩
  cases h43 : ((c.toNat : Int) == 43)
  rotate_left
  · go_enter Try.func111, Try.ntmps111
    go_wp2
    go_ret
    exact ⟨ret_int (by rw [HS.out, if_neg (bneI (m := 61) h61), if_pos (by simp [beqI (m := 43) h43])]; rfl), rfl⟩
  cases h45 : ((c.toNat : Int) == 45)
  rotate_left
  · go_enter Try.func111, Try.ntmps111
    go_wp2
    go_ret
    exact ⟨ret_int (by rw [HS.out, if_neg (bneI (m := 61) h61), if_pos (by simp [beqI (m := 45) h45])]; rfl), rfl⟩
  cases h42 : ((c.toNat : Int) == 42)
  rotate_left
  · go_enter Try.func111, Try.ntmps111
    go_wp2
    go_ret
    exact ⟨ret_int (by rw [HS.out, if_neg (bneI (m := 61) h61), if_pos (by simp [beqI (m := 42) h42])]; rfl), rfl⟩
  cases h60 : ((c.toNat : Int) == 60)
  rotate_left
  · go_enter Try.func111, Try.ntmps111
    go_wp2
    go_ret
    exact ⟨ret_int (by rw [HS.out, if_neg (bneI (m := 61) h61), if_pos (by simp [beqI (m := 60) h60])]; rfl), rfl⟩
  cases h63 : ((c.toNat : Int) == 63)
  rotate_left
  · go_enter Try.func111, Try.ntmps111
    go_wp2
    go_ret
    exact ⟨ret_int (by rw [HS.out, if_neg (bneI (m := 61) h61), if_pos (by simp [beqI (m := 63) h63])]; rfl), rfl⟩
  go_enter Try.func111, Try.ntmps111
  go_wp2
  go_ret
  exact ⟨ret_int (by rw [HS.out, if_neg (bneI (m := 61) h61), if_neg (by simp [bneI (m := 40) h40, bneI (m := 41) h41, bneI (m := 91) h91, bneI (m := 93) h93, bneI (m := 58) h58, bneI (m := 44) h44, bneI (m := 43) h43, bneI (m := 45) h45, bneI (m := 42) h42, bneI (m := 60) h60, bneI (m := 63) h63])]; rfl), rfl⟩
end Go.Proofs.Ythpjpngfghcmcaa
namespace Go.Proofs.Ythpjpngfghcmcaa
open Go.RowKit Lx
set_option maxRecDepth 100000
def itemV (at0 : Nat) (t : Nat × Nat × Nat) : Value :=
  if t.2.2 = 0 then .agg #[.int .i64 (t.2.1 : Nat), .int .i64 (t.1 : Nat), .int .i64 0, .int .i64 0] else .agg #[.int .i64 0, .int .i64 0, .int .i64 (t.2.2 : Nat), .int .i64 ((at0 + t.2.1 : Nat) : Int)]
def ItemPost (at0 : Nat) (t : Nat × Nat × Nat) (w : World) (e : Ending) (w' : World) : Prop := e = .returned (itemV at0 t) ∧ Ext w w'
theorem item_ok {at0 n k : Nat} {t : Nat × Nat × Nat} {w w' : World} {x y : Int} (h : t = (k, n, 0)) (hx : x = n) (hy : y = k) (he : Ext w w') : ItemPost at0 t w (.returned (.agg #[.int .i64 x, .int .i64 y, .int .i64 0, .int .i64 0])) w' := by
  subst h; subst hx; subst hy; exact ⟨rfl, he⟩
theorem item_err {at0 n k e : Nat} {t : Nat × Nat × Nat} {w w' : World} {x y : Int} (h : t = (k, n, e)) (h0 : ¬ e = 0) (hx : x = e) (hy : y = ((at0 + n : Nat) : Int)) (he : Ext w w') : ItemPost at0 t w (.returned (.agg #[.int .i64 0, .int .i64 0, .int .i64 x, .int .i64 y])) w' := by
  subst h; subst hx; subst hy; exact ⟨by simp only [itemV, if_neg h0], he⟩
set_option maxHeartbeats 4000000 in
theorem wordsR (l : List UInt8) (x : Int) (k : Nat) (hxk : x = k) (w : World) (hlt : k < l.length) (hle : letterB (l[k]'hlt) = true) (hl : l.length ≤ 281474976710656) : Calls Try.prog 110 #[.string ⟨l.toArray⟩, .int .i64 x] w (ItemPost k (wordT (l.drop k)) w) := by
  subst hxk
  obtain ⟨T, hT⟩ : ∃ T, wordT (l.drop k) = T := ⟨_, rfl⟩
  rw [hT]
  have h0 : 0 < (l.drop k).length := by simp; omega
  obtain ⟨c0, hc0⟩ : ∃ c, ({ data := l.toArray } : ByteArray)[k]'hlt = c := ⟨_, rfl⟩
  have HCk := Lib.hid (show l[k] = c0 from hc0)
  have HC0 := Lib.hid (show (l.drop k)[0] = c0 from by rw [List.getElem_drop]; exact hc0)
  have HL0 := Lib.hid (show letterB c0 = true from hc0 ▸ hle)
  obtain ⟨n, hn⟩ : ∃ n, spanN wordB (l.drop k) = n := ⟨_, rfl⟩
  have hnl : k + n ≤ l.length := by have := spanN_le wordB (l.drop k); simp at this; omega
  have HN := Lib.hid hn
  have HW0 := Lib.hid (show wordLen (l.drop k) = n from by rw [wordLen, getD_of_lt h0 HC0.out, if_pos HL0.out]; exact hn)
  clear hn hle
  obtain ⟨E, hE⟩ : ∃ E, k + n = E := ⟨_, rfl⟩
  have hE1 : (k : Int) + n = (E : Nat) := by omega
  have hE2 : E - k = n := by omega
  have hE3 : E ≤ l.length := by omega
  have hkE : k ≤ E := by omega
  have HE := Lib.hid hE
  clear hE
  have hx := ext_list; have hx2 := take_drop_all
  go_enter Try.func110, Try.ntmps110
  go_wp2_with fail
  refine (wordR _ _ k rfl _ (by omega) hl).mono ?_
  rintro e w' ⟨rfl, rfl⟩
  rw [HW0.out]
  cases hr : resvB ((l.drop k).take n)
  rotate_left
  · cases hu : upperB c0
    all_goals
      have HQ := Lib.hid (wordT_no HN.out (cond_r HN.out hr))
      by_cases h24 : 24 < n
      · skip
        have HW := Lib.hid (show T = (0, 0, 3) from by rw [← hT, HQ.out, wordNoT, if_pos h24])
        go_wp2_with (first | (go_at_call 109; refine (upperR _ _).mono ?_; rintro e w' ⟨rfl, rfl⟩) | (go_at_call 120; refine (reservedR _ _).mono ?_; rintro e w' ⟨rfl, rfl⟩) | (go_at_call 119; refine (wordR _ _ (E + 1) (by omega) _ (by omega) hl).mono ?_; rintro e w' ⟨rfl, rfl⟩))
        exact bodyPost_ret (v := .agg #[.int .i64 0, .int .i64 0, .int .i64 3, .int .i64 k]) (by simp [results, Try.results110, go_sem]) rfl (item_err HW.out (by omega) (by omega) (by omega) (by repeat (first | exact Ext.refl _ | apply Ext.alloc | (refine Ext.setCell ?_ (Nat.le_refl _) _))))
      · skip
        have HW := Lib.hid (show T = (7, n, 0) from by rw [← hT, HQ.out, wordNoT, if_neg h24, if_pos hr])
        go_wp2_with (first | (go_at_call 109; refine (upperR _ _).mono ?_; rintro e w' ⟨rfl, rfl⟩) | (go_at_call 120; refine (reservedR _ _).mono ?_; rintro e w' ⟨rfl, rfl⟩) | (go_at_call 119; refine (wordR _ _ (E + 1) (by omega) _ (by omega) hl).mono ?_; rintro e w' ⟨rfl, rfl⟩))
        exact bodyPost_ret (v := .agg #[.int .i64 n, .int .i64 7, .int .i64 0, .int .i64 0]) (by simp [results, Try.results110, go_sem]) rfl (item_ok HW.out (by omega) (by omega) (by repeat (first | exact Ext.refl _ | apply Ext.alloc | (refine Ext.setCell ?_ (Nat.le_refl _) _))))
  cases hu : upperB c0
  · skip
    have HQ := Lib.hid (wordT_no HN.out (cond_u h0 HC0.out hu))
    by_cases h24 : 24 < n
    · skip
      have HW := Lib.hid (show T = (0, 0, 3) from by rw [← hT, HQ.out, wordNoT, if_pos h24])
      go_wp2_with (first | (go_at_call 109; refine (upperR _ _).mono ?_; rintro e w' ⟨rfl, rfl⟩) | (go_at_call 120; refine (reservedR _ _).mono ?_; rintro e w' ⟨rfl, rfl⟩) | (go_at_call 119; refine (wordR _ _ (E + 1) (by omega) _ (by omega) hl).mono ?_; rintro e w' ⟨rfl, rfl⟩))
      exact bodyPost_ret (v := .agg #[.int .i64 0, .int .i64 0, .int .i64 3, .int .i64 k]) (by simp [results, Try.results110, go_sem]) rfl (item_err HW.out (by omega) (by omega) (by omega) (by repeat (first | exact Ext.refl _ | apply Ext.alloc | (refine Ext.setCell ?_ (Nat.le_refl _) _))))
    · skip
      have HW := Lib.hid (show T = (1, n, 0) from by rw [← hT, HQ.out, wordNoT, if_neg h24, if_neg (by simp [hr]), if_pos (by rw [getD_of_lt h0 HC0.out]; exact lower_of HL0.out hu)])
      go_wp2_with (first | (go_at_call 109; refine (upperR _ _).mono ?_; rintro e w' ⟨rfl, rfl⟩) | (go_at_call 120; refine (reservedR _ _).mono ?_; rintro e w' ⟨rfl, rfl⟩) | (go_at_call 119; refine (wordR _ _ (E + 1) (by omega) _ (by omega) hl).mono ?_; rintro e w' ⟨rfl, rfl⟩))
      exact bodyPost_ret (v := .agg #[.int .i64 n, .int .i64 1, .int .i64 0, .int .i64 0]) (by simp [results, Try.results110, go_sem]) rfl (item_ok HW.out (by omega) (by omega) (by repeat (first | exact Ext.refl _ | apply Ext.alloc | (refine Ext.setCell ?_ (Nat.le_refl _) _))))
  by_cases h2 : E + 1 < l.length
  rotate_left
  · have h2' : ¬ ((E : Int) + 1 < l.length) := by omega
    have HQ := Lib.hid (wordT_no HN.out (cond_l HN.out (by have := HE.out; simp; omega)))
    by_cases h24 : 24 < n
    · skip
      have HW := Lib.hid (show T = (0, 0, 3) from by rw [← hT, HQ.out, wordNoT, if_pos h24])
      go_wp2_with (first | (go_at_call 109; refine (upperR _ _).mono ?_; rintro e w' ⟨rfl, rfl⟩) | (go_at_call 120; refine (reservedR _ _).mono ?_; rintro e w' ⟨rfl, rfl⟩) | (go_at_call 119; refine (wordR _ _ (E + 1) (by omega) _ (by omega) hl).mono ?_; rintro e w' ⟨rfl, rfl⟩))
      exact bodyPost_ret (v := .agg #[.int .i64 0, .int .i64 0, .int .i64 3, .int .i64 k]) (by simp [results, Try.results110, go_sem]) rfl (item_err HW.out (by omega) (by omega) (by omega) (by repeat (first | exact Ext.refl _ | apply Ext.alloc | (refine Ext.setCell ?_ (Nat.le_refl _) _))))
    · skip
      have HW := Lib.hid (show T = (2, n, 0) from by rw [← hT, HQ.out, wordNoT, if_neg h24, if_neg (by simp [hr]), if_neg (by rw [getD_of_lt h0 HC0.out]; simp [not_lower hu])])
      go_wp2_with (first | (go_at_call 109; refine (upperR _ _).mono ?_; rintro e w' ⟨rfl, rfl⟩) | (go_at_call 120; refine (reservedR _ _).mono ?_; rintro e w' ⟨rfl, rfl⟩) | (go_at_call 119; refine (wordR _ _ (E + 1) (by omega) _ (by omega) hl).mono ?_; rintro e w' ⟨rfl, rfl⟩))
      exact bodyPost_ret (v := .agg #[.int .i64 n, .int .i64 2, .int .i64 0, .int .i64 0]) (by simp [results, Try.results110, go_sem]) rfl (item_ok HW.out (by omega) (by omega) (by repeat (first | exact Ext.refl _ | apply Ext.alloc | (refine Ext.setCell ?_ (Nat.le_refl _) _))))
  have hn1 : E < l.length := by omega
  obtain ⟨c1, hc1⟩ : ∃ c, ({ data := l.toArray } : ByteArray)[E]'hn1 = c := ⟨_, rfl⟩
  have HC1a := Lib.hid (show l[E] = c1 from hc1)
  obtain ⟨c2, hc2⟩ : ∃ c, ({ data := l.toArray } : ByteArray)[E + 1]'h2 = c := ⟨_, rfl⟩
  have HC2a := Lib.hid (show l[E + 1] = c2 from hc2)
  have hnl1 : n < (l.drop k).length := by have := HE.out; simp; omega
  have hnl2 : n + 1 < (l.drop k).length := by have := HE.out; simp; omega
  have HC1 := Lib.hid (show (l.drop k)[n] = c1 from by rw [List.getElem_drop]; simp only [HE.out]; exact hc1)
  have HC2 := Lib.hid (show (l.drop k)[n + 1] = c2 from by rw [List.getElem_drop]; simp only [← Nat.add_assoc, HE.out]; exact hc2)
  have HGE := Lib.hid (show (l.drop (E + 1)).getD 0 0 = c2 from by rw [getD_drop]; exact getD_of_lt h2 HC2a.out)
  cases h46 : ((c1.toNat : Int) == 46)
  · skip
    have HQ := Lib.hid (wordT_no HN.out (cond_d HN.out hnl1 HC1.out h46))
    by_cases h24 : 24 < n
    · skip
      have HW := Lib.hid (show T = (0, 0, 3) from by rw [← hT, HQ.out, wordNoT, if_pos h24])
      go_wp2_with (first | (go_at_call 109; refine (upperR _ _).mono ?_; rintro e w' ⟨rfl, rfl⟩) | (go_at_call 120; refine (reservedR _ _).mono ?_; rintro e w' ⟨rfl, rfl⟩) | (go_at_call 119; refine (wordR _ _ (E + 1) (by omega) _ (by omega) hl).mono ?_; rintro e w' ⟨rfl, rfl⟩))
      exact bodyPost_ret (v := .agg #[.int .i64 0, .int .i64 0, .int .i64 3, .int .i64 k]) (by simp [results, Try.results110, go_sem]) rfl (item_err HW.out (by omega) (by omega) (by omega) (by repeat (first | exact Ext.refl _ | apply Ext.alloc | (refine Ext.setCell ?_ (Nat.le_refl _) _))))
    · skip
      have HW := Lib.hid (show T = (2, n, 0) from by rw [← hT, HQ.out, wordNoT, if_neg h24, if_neg (by simp [hr]), if_neg (by rw [getD_of_lt h0 HC0.out]; simp [not_lower hu])])
      go_wp2_with (first | (go_at_call 109; refine (upperR _ _).mono ?_; rintro e w' ⟨rfl, rfl⟩) | (go_at_call 120; refine (reservedR _ _).mono ?_; rintro e w' ⟨rfl, rfl⟩) | (go_at_call 119; refine (wordR _ _ (E + 1) (by omega) _ (by omega) hl).mono ?_; rintro e w' ⟨rfl, rfl⟩))
      exact bodyPost_ret (v := .agg #[.int .i64 n, .int .i64 2, .int .i64 0, .int .i64 0]) (by simp [results, Try.results110, go_sem]) rfl (item_ok HW.out (by omega) (by omega) (by repeat (first | exact Ext.refl _ | apply Ext.alloc | (refine Ext.setCell ?_ (Nat.le_refl _) _))))
  cases h3 : letterB c2
  · have hm : wordLen (l.drop (E + 1)) = 0 := by rw [wordLen, HGE.out]; simp [h3]
    have HQ := Lib.hid (wordT_no HN.out (cond_t HN.out hnl2 HC2.out h3))
    by_cases h24 : 24 < n
    · skip
      have HW := Lib.hid (show T = (0, 0, 3) from by rw [← hT, HQ.out, wordNoT, if_pos h24])
      go_wp2_with (first | (go_at_call 109; refine (upperR _ _).mono ?_; rintro e w' ⟨rfl, rfl⟩) | (go_at_call 120; refine (reservedR _ _).mono ?_; rintro e w' ⟨rfl, rfl⟩) | (go_at_call 119; refine (wordR _ _ (E + 1) (by omega) _ (by omega) hl).mono ?_; rintro e w' ⟨rfl, rfl⟩))
      exact bodyPost_ret (v := .agg #[.int .i64 0, .int .i64 0, .int .i64 3, .int .i64 k]) (by simp [results, Try.results110, go_sem]) rfl (item_err HW.out (by omega) (by omega) (by omega) (by repeat (first | exact Ext.refl _ | apply Ext.alloc | (refine Ext.setCell ?_ (Nat.le_refl _) _))))
    · skip
      have HW := Lib.hid (show T = (2, n, 0) from by rw [← hT, HQ.out, wordNoT, if_neg h24, if_neg (by simp [hr]), if_neg (by rw [getD_of_lt h0 HC0.out]; simp [not_lower hu])])
      go_wp2_with (first | (go_at_call 109; refine (upperR _ _).mono ?_; rintro e w' ⟨rfl, rfl⟩) | (go_at_call 120; refine (reservedR _ _).mono ?_; rintro e w' ⟨rfl, rfl⟩) | (go_at_call 119; refine (wordR _ _ (E + 1) (by omega) _ (by omega) hl).mono ?_; rintro e w' ⟨rfl, rfl⟩))
      exact bodyPost_ret (v := .agg #[.int .i64 n, .int .i64 2, .int .i64 0, .int .i64 0]) (by simp [results, Try.results110, go_sem]) rfl (item_ok HW.out (by omega) (by omega) (by repeat (first | exact Ext.refl _ | apply Ext.alloc | (refine Ext.setCell ?_ (Nat.le_refl _) _))))
  obtain ⟨m, hm⟩ : ∃ m, wordLen (l.drop (E + 1)) = m := ⟨_, rfl⟩
  have HM := Lib.hid (show spanN wordB (l.drop (E + 1)) = m from by rw [← hm, wordLen, HGE.out, if_pos h3])
  have hm0 : 0 < m := by have h := spanN_pos (p := wordB) (l := l.drop (E + 1)) (by simp; omega) (by rw [HGE.out]; simp [wordB, h3]); rw [HM.out] at h; exact h
  have hml : E + 1 + m ≤ l.length := by have h := spanN_le wordB (l.drop (E + 1)); rw [HM.out] at h; simp at h; omega
  have he : E + 1 + m - (E + 1) = m := by omega
  have hsl : 0 < ((l.drop (E + 1)).take m).length := by simp; omega
  have hs0 : ({ data := ((l.drop (E + 1)).take m).toArray } : ByteArray)[0]'hsl = c2 := by
    show ((l.drop (E + 1)).take m)[0] = c2
    rw [List.getElem_take, List.getElem_drop]; exact hc2
  have HQ := Lib.hid (wordT_yes (m := m) HN.out (by have h := HM.out; rw [← HE.out] at h; rw [List.drop_drop]; exact h) (cond_yes HN.out h0 HC0.out hu hr hnl2 hnl1 HC1.out h46 HC2.out h3))
  have HDD := Lib.hid (show ((l.drop k).drop (n + 1)).take m = (l.drop (E + 1)).take m from by rw [List.drop_drop, ← HE.out, Nat.add_assoc])
  cases hu2 : upperB c2
  all_goals
    by_cases h24 : 24 < n
    · skip
      have HW := Lib.hid (show T = (0, 0, 3) from by rw [← hT, HQ.out, wordYesT, if_pos (.inl h24)])
      go_wp2_with (first | (go_at_call 109; refine (upperR _ _).mono ?_; rintro e w' ⟨rfl, rfl⟩) | (go_at_call 120; refine (reservedR _ _).mono ?_; rintro e w' ⟨rfl, rfl⟩) | (go_at_call 119; refine (wordR _ _ (E + 1) (by omega) _ (by omega) hl).mono ?_; rintro e w' ⟨rfl, rfl⟩))
      exact bodyPost_ret (v := .agg #[.int .i64 0, .int .i64 0, .int .i64 3, .int .i64 k]) (by simp [results, Try.results110, go_sem]) rfl (item_err HW.out (by omega) (by omega) (by omega) (by repeat (first | exact Ext.refl _ | apply Ext.alloc | (refine Ext.setCell ?_ (Nat.le_refl _) _))))
    by_cases h24m : 24 < m
    · skip
      have HW := Lib.hid (show T = (0, 0, 3) from by rw [← hT, HQ.out, wordYesT, if_pos (.inr h24m)])
      go_wp2_with (first | (go_at_call 109; refine (upperR _ _).mono ?_; rintro e w' ⟨rfl, rfl⟩) | (go_at_call 120; refine (reservedR _ _).mono ?_; rintro e w' ⟨rfl, rfl⟩) | (go_at_call 119; refine (wordR _ _ (E + 1) (by omega) _ (by omega) hl).mono ?_; rintro e w' ⟨rfl, rfl⟩))
      exact bodyPost_ret (v := .agg #[.int .i64 0, .int .i64 0, .int .i64 3, .int .i64 k]) (by simp [results, Try.results110, go_sem]) rfl (item_err HW.out (by omega) (by omega) (by omega) (by repeat (first | exact Ext.refl _ | apply Ext.alloc | (refine Ext.setCell ?_ (Nat.le_refl _) _))))
    cases hr2 : resvB ((l.drop (E + 1)).take m)
    rotate_left
    · skip
      have HW := Lib.hid (show T = (0, 0, 2) from by rw [← hT, HQ.out, wordYesT, if_neg (by omega), if_pos (by rw [HDD.out]; exact hr2)])
      go_wp2_with (first | (go_at_call 109; refine (upperR _ _).mono ?_; rintro e w' ⟨rfl, rfl⟩) | (go_at_call 120; refine (reservedR _ _).mono ?_; rintro e w' ⟨rfl, rfl⟩) | (go_at_call 119; refine (wordR _ _ (E + 1) (by omega) _ (by omega) hl).mono ?_; rintro e w' ⟨rfl, rfl⟩))
      exact bodyPost_ret (v := .agg #[.int .i64 0, .int .i64 0, .int .i64 2, .int .i64 k]) (by simp [results, Try.results110, go_sem]) rfl (item_err HW.out (by omega) (by omega) (by omega) (by repeat (first | exact Ext.refl _ | apply Ext.alloc | (refine Ext.setCell ?_ (Nat.le_refl _) _))))
    first
    | have HW := Lib.hid (show T = (3, n + 1 + m, 0) from by rw [← hT, HQ.out, wordYesT, if_neg (by omega), if_neg (by rw [HDD.out]; simp [hr2]), if_pos (by rw [getD_of_lt hnl2 HC2.out]; exact lower_of h3 hu2)])
      go_wp2_with (first | (go_at_call 109; refine (upperR _ _).mono ?_; rintro e w' ⟨rfl, rfl⟩) | (go_at_call 120; refine (reservedR _ _).mono ?_; rintro e w' ⟨rfl, rfl⟩) | (go_at_call 119; refine (wordR _ _ (E + 1) (by omega) _ (by omega) hl).mono ?_; rintro e w' ⟨rfl, rfl⟩))
      exact bodyPost_ret (v := .agg #[.int .i64 (n + 1 + m), .int .i64 3, .int .i64 0, .int .i64 0]) (by simp [results, Try.results110, go_sem]) rfl (item_ok HW.out (by omega) (by omega) (by repeat (first | exact Ext.refl _ | apply Ext.alloc | (refine Ext.setCell ?_ (Nat.le_refl _) _))))
    | have HW := Lib.hid (show T = (4, n + 1 + m, 0) from by rw [← hT, HQ.out, wordYesT, if_neg (by omega), if_neg (by rw [HDD.out]; simp [hr2]), if_neg (by rw [getD_of_lt hnl2 HC2.out]; simp [not_lower hu2])])
      go_wp2_with (first | (go_at_call 109; refine (upperR _ _).mono ?_; rintro e w' ⟨rfl, rfl⟩) | (go_at_call 120; refine (reservedR _ _).mono ?_; rintro e w' ⟨rfl, rfl⟩) | (go_at_call 119; refine (wordR _ _ (E + 1) (by omega) _ (by omega) hl).mono ?_; rintro e w' ⟨rfl, rfl⟩))
      exact bodyPost_ret (v := .agg #[.int .i64 (n + 1 + m), .int .i64 4, .int .i64 0, .int .i64 0]) (by simp [results, Try.results110, go_sem]) rfl (item_ok HW.out (by omega) (by omega) (by repeat (first | exact Ext.refl _ | apply Ext.alloc | (refine Ext.setCell ?_ (Nat.le_refl _) _))))
end Go.Proofs.Ythpjpngfghcmcaa
namespace Go.Proofs.Ythpjpngfghcmcaa
open Go.RowKit Lx
set_option maxRecDepth 100000
theorem itemV_form (at0 : Nat) (t : Nat × Nat × Nat) : ∃ a b c d : Int, itemV at0 t = .agg #[.int .i64 a, .int .i64 b, .int .i64 c, .int .i64 d] := by
  unfold itemV; split <;> exact ⟨_, _, _, _, rfl⟩
abbrev itemBlock : Obj := .cells #[.int .i64 0, .int .i64 0, .int .i64 0, .int .i64 0] 91
set_option maxHeartbeats 4000000 in
theorem nextR (l : List UInt8) (x : Int) (k : Nat) (hxk : x = k) (w : World) (hlt : k < l.length) (hl : l.length ≤ 281474976710656) : Calls Try.prog 86 #[.string ⟨l.toArray⟩, .int .i64 x] w (ItemPost k (tokenT (l.drop k)) w) := by
  subst hxk
  obtain ⟨T, hT⟩ : ∃ T, tokenT (l.drop k) = T := ⟨_, rfl⟩
  rw [hT]
  have h0 : 0 < (l.drop k).length := by simp; omega
  obtain ⟨c, hc⟩ : ∃ c, ({ data := l.toArray } : ByteArray)[k]'hlt = c := ⟨_, rfl⟩
  have HC := Lib.hid (show l[k] = c from hc)
  have HC0 := Lib.hid (show (l.drop k)[0] = c from by rw [List.getElem_drop]; exact hc)
  have HT := Lib.hid ((tokenT_eq h0 HC0.out).symm.trans hT)
  clear hT
  go_enter Try.func86, Try.ntmps86
  cases ha : allowedB c
  · skip
    have HW := Lib.hid (show T = (0, 0, 1) from by rw [← HT.out, if_pos ha])
    go_wp2_with (first | (go_at_call 105; refine (allowedR _ _).mono ?_; rintro e w' ⟨rfl, rfl⟩) | (go_at_call 106; refine (printedR _ _).mono ?_; rintro e w' ⟨rfl, rfl⟩) | (go_at_call 107; refine (digitR _ _).mono ?_; rintro e w' ⟨rfl, rfl⟩) | (go_at_call 108; refine (lowerR _ _).mono ?_; rintro e w' ⟨rfl, rfl⟩) | (go_at_call 109; refine (upperR _ _).mono ?_; rintro e w' ⟨rfl, rfl⟩) | (go_at_call 111; refine (signR _ _ k rfl _ hlt hl).mono ?_; rintro e w' ⟨rfl, rfl⟩))
    exact bodyPost_ret (v := .agg #[.int .i64 0, .int .i64 0, .int .i64 1, .int .i64 k]) (by simp [results, Try.results86, go_sem]) rfl (item_err HW.out (by omega) (by omega) (by omega) (by repeat (first | exact Ext.refl _ | apply Ext.alloc | (refine Ext.setCell ?_ (Nat.le_refl _) _))))
  have HA := Lib.hid (show ¬ allowedB c = false from by simp [ha])
  cases h34 : ((c.toNat : Int) == 34)
  rotate_left
  · have h34' := beqI (m := 34) h34
    have HT2 := Lib.hid (show T = (6, quotedT (l.drop (k + 1)) 1) from by
      rw [← HT.out, if_neg HA.out, if_neg (by simp [letterB, lowerB, upperB, h34']), if_neg (by simp [digitB, h34']), if_pos h34', List.tail_drop])
    clear h34'
    go_wp2_with (first | (go_at_call 105; refine (allowedR _ _).mono ?_; rintro e w' ⟨rfl, rfl⟩) | (go_at_call 106; refine (printedR _ _).mono ?_; rintro e w' ⟨rfl, rfl⟩) | (go_at_call 107; refine (digitR _ _).mono ?_; rintro e w' ⟨rfl, rfl⟩) | (go_at_call 108; refine (lowerR _ _).mono ?_; rintro e w' ⟨rfl, rfl⟩) | (go_at_call 109; refine (upperR _ _).mono ?_; rintro e w' ⟨rfl, rfl⟩) | (go_at_call 111; refine (signR _ _ k rfl _ hlt hl).mono ?_; rintro e w' ⟨rfl, rfl⟩))
    go_loopg [6] (l.length - (k + 1)) (fun g n wx => ∃ i : Nat, g = l.length - i ∧ wx = w.alloc itemBlock ∧ k + 1 ≤ i ∧ i ≤ l.length ∧ n = .int .i64 i ∧ Hid (quotedT (l.drop (k + 1)) 1 = quotedT (l.drop i) (i - k)))
    case atStart => exact ⟨k + 1, rfl, rfl, Nat.le_refl _, by omega, by go_num, Lib.hid (by congr 1; omega)⟩
    case round =>
      obtain ⟨i, rfl, rfl, hki, hil, rfl, hrel⟩ := hrel
      by_cases hit : i < l.length
      · skip
        obtain ⟨d, hd⟩ : ∃ c, ({ data := l.toArray } : ByteArray)[i]'hit = c := ⟨_, rfl⟩
        have HD := Lib.hid (show l[i] = d from hd)
        have HS := Lib.hid (quotedT_at (j := i - k) hit HD.out)
        cases hq : ((d.toNat : Int) == 34)
        rotate_left
        · have HW := Lib.hid (show T = (6, i - k + 1, 0) from by rw [HT2.out, hrel.out, HS.out, if_neg (by simp [allowed_quote (beqI (m := 34) hq)]), if_pos (beqI (m := 34) hq)])
          go_wp2_with (first | (go_at_call 105; refine (allowedR _ _).mono ?_; rintro e w' ⟨rfl, rfl⟩) | (go_at_call 106; refine (printedR _ _).mono ?_; rintro e w' ⟨rfl, rfl⟩) | (go_at_call 107; refine (digitR _ _).mono ?_; rintro e w' ⟨rfl, rfl⟩) | (go_at_call 108; refine (lowerR _ _).mono ?_; rintro e w' ⟨rfl, rfl⟩) | (go_at_call 109; refine (upperR _ _).mono ?_; rintro e w' ⟨rfl, rfl⟩) | (go_at_call 111; refine (signR _ _ k rfl _ hlt hl).mono ?_; rintro e w' ⟨rfl, rfl⟩))
          exact bodyPost_ret (v := .agg #[.int .i64 ((i : Int) + 1 - k), .int .i64 6, .int .i64 0, .int .i64 0]) (by simp [results, Try.results86, go_sem]) rfl (item_ok HW.out (by omega) (by omega) (by repeat (first | exact Ext.refl _ | apply Ext.alloc | (refine Ext.setCell ?_ (Nat.le_refl _) _))))
        cases had : allowedB d
        · have HW := Lib.hid (show T = (6, i - k, 1) from by rw [HT2.out, hrel.out, HS.out, if_pos had])
          go_wp2_with (first | (go_at_call 105; refine (allowedR _ _).mono ?_; rintro e w' ⟨rfl, rfl⟩) | (go_at_call 106; refine (printedR _ _).mono ?_; rintro e w' ⟨rfl, rfl⟩) | (go_at_call 107; refine (digitR _ _).mono ?_; rintro e w' ⟨rfl, rfl⟩) | (go_at_call 108; refine (lowerR _ _).mono ?_; rintro e w' ⟨rfl, rfl⟩) | (go_at_call 109; refine (upperR _ _).mono ?_; rintro e w' ⟨rfl, rfl⟩) | (go_at_call 111; refine (signR _ _ k rfl _ hlt hl).mono ?_; rintro e w' ⟨rfl, rfl⟩))
          exact bodyPost_ret (v := .agg #[.int .i64 0, .int .i64 0, .int .i64 1, .int .i64 i]) (by simp [results, Try.results86, go_sem]) rfl (item_err HW.out (by omega) (by omega) (by omega) (by repeat (first | exact Ext.refl _ | apply Ext.alloc | (refine Ext.setCell ?_ (Nat.le_refl _) _))))
        cases hpr : printedB d
        · have HW := Lib.hid (show T = (6, 0, 2) from by rw [HT2.out, hrel.out, HS.out, if_neg (by simp [had]), if_neg (bneI (m := 34) hq), if_pos (.inr (printed_lt had hpr))])
          go_wp2_with (first | (go_at_call 105; refine (allowedR _ _).mono ?_; rintro e w' ⟨rfl, rfl⟩) | (go_at_call 106; refine (printedR _ _).mono ?_; rintro e w' ⟨rfl, rfl⟩) | (go_at_call 107; refine (digitR _ _).mono ?_; rintro e w' ⟨rfl, rfl⟩) | (go_at_call 108; refine (lowerR _ _).mono ?_; rintro e w' ⟨rfl, rfl⟩) | (go_at_call 109; refine (upperR _ _).mono ?_; rintro e w' ⟨rfl, rfl⟩) | (go_at_call 111; refine (signR _ _ k rfl _ hlt hl).mono ?_; rintro e w' ⟨rfl, rfl⟩))
          exact bodyPost_ret (v := .agg #[.int .i64 0, .int .i64 0, .int .i64 2, .int .i64 k]) (by simp [results, Try.results86, go_sem]) rfl (item_err HW.out (by omega) (by omega) (by omega) (by repeat (first | exact Ext.refl _ | apply Ext.alloc | (refine Ext.setCell ?_ (Nat.le_refl _) _))))
        cases h92 : ((d.toNat : Int) == 92)
        rotate_left
        · have HW := Lib.hid (show T = (6, 0, 2) from by rw [HT2.out, hrel.out, HS.out, if_neg (by simp [had]), if_neg (bneI (m := 34) hq), if_pos (.inl (beqI (m := 92) h92))])
          go_wp2_with (first | (go_at_call 105; refine (allowedR _ _).mono ?_; rintro e w' ⟨rfl, rfl⟩) | (go_at_call 106; refine (printedR _ _).mono ?_; rintro e w' ⟨rfl, rfl⟩) | (go_at_call 107; refine (digitR _ _).mono ?_; rintro e w' ⟨rfl, rfl⟩) | (go_at_call 108; refine (lowerR _ _).mono ?_; rintro e w' ⟨rfl, rfl⟩) | (go_at_call 109; refine (upperR _ _).mono ?_; rintro e w' ⟨rfl, rfl⟩) | (go_at_call 111; refine (signR _ _ k rfl _ hlt hl).mono ?_; rintro e w' ⟨rfl, rfl⟩))
          exact bodyPost_ret (v := .agg #[.int .i64 0, .int .i64 0, .int .i64 2, .int .i64 k]) (by simp [results, Try.results86, go_sem]) rfl (item_err HW.out (by omega) (by omega) (by omega) (by repeat (first | exact Ext.refl _ | apply Ext.alloc | (refine Ext.setCell ?_ (Nat.le_refl _) _))))
        · go_wp2_with (first | (go_at_call 105; refine (allowedR _ _).mono ?_; rintro e w' ⟨rfl, rfl⟩) | (go_at_call 106; refine (printedR _ _).mono ?_; rintro e w' ⟨rfl, rfl⟩) | (go_at_call 107; refine (digitR _ _).mono ?_; rintro e w' ⟨rfl, rfl⟩) | (go_at_call 108; refine (lowerR _ _).mono ?_; rintro e w' ⟨rfl, rfl⟩) | (go_at_call 109; refine (upperR _ _).mono ?_; rintro e w' ⟨rfl, rfl⟩) | (go_at_call 111; refine (signR _ _ k rfl _ hlt hl).mono ?_; rintro e w' ⟨rfl, rfl⟩))
          go_roundg (l.length - (i + 1))
          case measure => omega
          case rel => exact ⟨i + 1, rfl, rfl, by omega, by omega, by go_num, Lib.hid (by rw [hrel.out, HS.out, if_neg (by simp [had]), if_neg (bneI (m := 34) hq), if_neg (fun h => h.elim (bneI (m := 92) h92) (printed_ge hpr))]; congr 1; omega)⟩
      · have HW := Lib.hid (show T = (6, 0, 2) from by rw [HT2.out, hrel.out, quotedT_at_end (by omega)])
        go_wp2_with (first | (go_at_call 105; refine (allowedR _ _).mono ?_; rintro e w' ⟨rfl, rfl⟩) | (go_at_call 106; refine (printedR _ _).mono ?_; rintro e w' ⟨rfl, rfl⟩) | (go_at_call 107; refine (digitR _ _).mono ?_; rintro e w' ⟨rfl, rfl⟩) | (go_at_call 108; refine (lowerR _ _).mono ?_; rintro e w' ⟨rfl, rfl⟩) | (go_at_call 109; refine (upperR _ _).mono ?_; rintro e w' ⟨rfl, rfl⟩) | (go_at_call 111; refine (signR _ _ k rfl _ hlt hl).mono ?_; rintro e w' ⟨rfl, rfl⟩))
        exact bodyPost_ret (v := .agg #[.int .i64 0, .int .i64 0, .int .i64 2, .int .i64 k]) (by simp [results, Try.results86, go_sem]) rfl (item_err HW.out (by omega) (by omega) (by omega) (by repeat (first | exact Ext.refl _ | apply Ext.alloc | (refine Ext.setCell ?_ (Nat.le_refl _) _))))
  cases hdg : digitB c
  rotate_left
  · have HT2 := Lib.hid (show T = (5, numberT (l.drop k)) from by
      rw [← HT.out, if_neg HA.out, if_neg (by simp [letterB, lowerB, upperB, digitB] at hdg ⊢; omega), if_pos hdg])
    go_wp2_with (first | (go_at_call 105; refine (allowedR _ _).mono ?_; rintro e w' ⟨rfl, rfl⟩) | (go_at_call 106; refine (printedR _ _).mono ?_; rintro e w' ⟨rfl, rfl⟩) | (go_at_call 107; refine (digitR _ _).mono ?_; rintro e w' ⟨rfl, rfl⟩) | (go_at_call 108; refine (lowerR _ _).mono ?_; rintro e w' ⟨rfl, rfl⟩) | (go_at_call 109; refine (upperR _ _).mono ?_; rintro e w' ⟨rfl, rfl⟩) | (go_at_call 111; refine (signR _ _ k rfl _ hlt hl).mono ?_; rintro e w' ⟨rfl, rfl⟩))
    go_loopg [7] (l.length - k) (fun g n wx => ∃ i : Nat, g = l.length - i ∧ wx = w.alloc itemBlock ∧ k ≤ i ∧ i ≤ l.length ∧ n = .int .i64 i ∧ Hid (spanN digitB (l.drop k) = i - k + spanN digitB (l.drop i)))
    case atStart => exact ⟨k, rfl, rfl, Nat.le_refl _, by omega, rfl, Lib.hid (by omega)⟩
    case round =>
      obtain ⟨i, rfl, rfl, hki, hil, rfl, hrel⟩ := hrel
      by_cases hit : i < l.length
      · skip
        obtain ⟨d, hd⟩ : ∃ c, ({ data := l.toArray } : ByteArray)[i]'hit = c := ⟨_, rfl⟩
        have HD := Lib.hid (show l[i] = d from hd)
        cases hdd : digitB d
        · skip
          have HN := Lib.hid (show spanN digitB (l.drop k) = i - k from by rw [hrel.out, spanN_stop hit HD.out hdd]; omega)
          by_cases h1 : 1 < i - k
          · have h1' : (1 : Int) < i - k := by omega
            cases h48 : ((c.toNat : Int) == 48)
            · have HG := Lib.hid (show 1 < i - k → ¬ ((l.drop k).getD 0 0).toNat = 48 from fun _ => by rw [getD_of_lt h0 HC0.out]; exact bneI (m := 48) h48)
              by_cases h15 : 15 < i - k
              · have h15' : (15 : Int) < i - k := by omega
                have HW := Lib.hid (show T = (5, 0, 3) from by rw [HT2.out, numberT_long HN.out HG.out h15])
                go_wp2_with (first | (go_at_call 105; refine (allowedR _ _).mono ?_; rintro e w' ⟨rfl, rfl⟩) | (go_at_call 106; refine (printedR _ _).mono ?_; rintro e w' ⟨rfl, rfl⟩) | (go_at_call 107; refine (digitR _ _).mono ?_; rintro e w' ⟨rfl, rfl⟩) | (go_at_call 108; refine (lowerR _ _).mono ?_; rintro e w' ⟨rfl, rfl⟩) | (go_at_call 109; refine (upperR _ _).mono ?_; rintro e w' ⟨rfl, rfl⟩) | (go_at_call 111; refine (signR _ _ k rfl _ hlt hl).mono ?_; rintro e w' ⟨rfl, rfl⟩))
                exact bodyPost_ret (v := .agg #[.int .i64 0, .int .i64 0, .int .i64 3, .int .i64 k]) (by simp [results, Try.results86, go_sem]) rfl (item_err HW.out (by omega) (by omega) (by omega) (by repeat (first | exact Ext.refl _ | apply Ext.alloc | (refine Ext.setCell ?_ (Nat.le_refl _) _))))
              · have h15' : ¬ ((15 : Int) < i - k) := by omega
                have HW := Lib.hid (show T = (5, i - k, 0) from by rw [HT2.out, numberT_ok HN.out HG.out h15])
                go_wp2_with (first | (go_at_call 105; refine (allowedR _ _).mono ?_; rintro e w' ⟨rfl, rfl⟩) | (go_at_call 106; refine (printedR _ _).mono ?_; rintro e w' ⟨rfl, rfl⟩) | (go_at_call 107; refine (digitR _ _).mono ?_; rintro e w' ⟨rfl, rfl⟩) | (go_at_call 108; refine (lowerR _ _).mono ?_; rintro e w' ⟨rfl, rfl⟩) | (go_at_call 109; refine (upperR _ _).mono ?_; rintro e w' ⟨rfl, rfl⟩) | (go_at_call 111; refine (signR _ _ k rfl _ hlt hl).mono ?_; rintro e w' ⟨rfl, rfl⟩))
                exact bodyPost_ret (v := .agg #[.int .i64 ((i : Int) - k), .int .i64 5, .int .i64 0, .int .i64 0]) (by simp [results, Try.results86, go_sem]) rfl (item_ok HW.out (by omega) (by omega) (by repeat (first | exact Ext.refl _ | apply Ext.alloc | (refine Ext.setCell ?_ (Nat.le_refl _) _))))
            · skip
              have HW := Lib.hid (show T = (5, 0, 2) from by rw [HT2.out, numberT_zero HN.out h1 h0 HC0.out h48])
              go_wp2_with (first | (go_at_call 105; refine (allowedR _ _).mono ?_; rintro e w' ⟨rfl, rfl⟩) | (go_at_call 106; refine (printedR _ _).mono ?_; rintro e w' ⟨rfl, rfl⟩) | (go_at_call 107; refine (digitR _ _).mono ?_; rintro e w' ⟨rfl, rfl⟩) | (go_at_call 108; refine (lowerR _ _).mono ?_; rintro e w' ⟨rfl, rfl⟩) | (go_at_call 109; refine (upperR _ _).mono ?_; rintro e w' ⟨rfl, rfl⟩) | (go_at_call 111; refine (signR _ _ k rfl _ hlt hl).mono ?_; rintro e w' ⟨rfl, rfl⟩))
              exact bodyPost_ret (v := .agg #[.int .i64 0, .int .i64 0, .int .i64 2, .int .i64 k]) (by simp [results, Try.results86, go_sem]) rfl (item_err HW.out (by omega) (by omega) (by omega) (by repeat (first | exact Ext.refl _ | apply Ext.alloc | (refine Ext.setCell ?_ (Nat.le_refl _) _))))
          · have h1' : ¬ ((1 : Int) < i - k) := by omega
            have h15' : ¬ ((15 : Int) < i - k) := by omega
            have HW := Lib.hid (show T = (5, i - k, 0) from by rw [HT2.out, numberT_ok HN.out (fun h => absurd h h1) (by omega)])
            go_wp2_with (first | (go_at_call 105; refine (allowedR _ _).mono ?_; rintro e w' ⟨rfl, rfl⟩) | (go_at_call 106; refine (printedR _ _).mono ?_; rintro e w' ⟨rfl, rfl⟩) | (go_at_call 107; refine (digitR _ _).mono ?_; rintro e w' ⟨rfl, rfl⟩) | (go_at_call 108; refine (lowerR _ _).mono ?_; rintro e w' ⟨rfl, rfl⟩) | (go_at_call 109; refine (upperR _ _).mono ?_; rintro e w' ⟨rfl, rfl⟩) | (go_at_call 111; refine (signR _ _ k rfl _ hlt hl).mono ?_; rintro e w' ⟨rfl, rfl⟩))
            exact bodyPost_ret (v := .agg #[.int .i64 ((i : Int) - k), .int .i64 5, .int .i64 0, .int .i64 0]) (by simp [results, Try.results86, go_sem]) rfl (item_ok HW.out (by omega) (by omega) (by repeat (first | exact Ext.refl _ | apply Ext.alloc | (refine Ext.setCell ?_ (Nat.le_refl _) _))))
        · go_wp2_with (first | (go_at_call 105; refine (allowedR _ _).mono ?_; rintro e w' ⟨rfl, rfl⟩) | (go_at_call 106; refine (printedR _ _).mono ?_; rintro e w' ⟨rfl, rfl⟩) | (go_at_call 107; refine (digitR _ _).mono ?_; rintro e w' ⟨rfl, rfl⟩) | (go_at_call 108; refine (lowerR _ _).mono ?_; rintro e w' ⟨rfl, rfl⟩) | (go_at_call 109; refine (upperR _ _).mono ?_; rintro e w' ⟨rfl, rfl⟩) | (go_at_call 111; refine (signR _ _ k rfl _ hlt hl).mono ?_; rintro e w' ⟨rfl, rfl⟩))
          go_roundg (l.length - (i + 1))
          case measure => omega
          case rel => exact ⟨i + 1, rfl, rfl, by omega, by omega, by go_num, Lib.hid (by rw [hrel.out, spanN_step hit HD.out hdd]; omega)⟩
      · skip
        have HN := Lib.hid (show spanN digitB (l.drop k) = i - k from by rw [hrel.out, spanN_end (by omega)]; omega)
        by_cases h1 : 1 < i - k
        · have h1' : (1 : Int) < i - k := by omega
          cases h48 : ((c.toNat : Int) == 48)
          · have HG := Lib.hid (show 1 < i - k → ¬ ((l.drop k).getD 0 0).toNat = 48 from fun _ => by rw [getD_of_lt h0 HC0.out]; exact bneI (m := 48) h48)
            by_cases h15 : 15 < i - k
            · have h15' : (15 : Int) < i - k := by omega
              have HW := Lib.hid (show T = (5, 0, 3) from by rw [HT2.out, numberT_long HN.out HG.out h15])
              go_wp2_with (first | (go_at_call 105; refine (allowedR _ _).mono ?_; rintro e w' ⟨rfl, rfl⟩) | (go_at_call 106; refine (printedR _ _).mono ?_; rintro e w' ⟨rfl, rfl⟩) | (go_at_call 107; refine (digitR _ _).mono ?_; rintro e w' ⟨rfl, rfl⟩) | (go_at_call 108; refine (lowerR _ _).mono ?_; rintro e w' ⟨rfl, rfl⟩) | (go_at_call 109; refine (upperR _ _).mono ?_; rintro e w' ⟨rfl, rfl⟩) | (go_at_call 111; refine (signR _ _ k rfl _ hlt hl).mono ?_; rintro e w' ⟨rfl, rfl⟩))
              exact bodyPost_ret (v := .agg #[.int .i64 0, .int .i64 0, .int .i64 3, .int .i64 k]) (by simp [results, Try.results86, go_sem]) rfl (item_err HW.out (by omega) (by omega) (by omega) (by repeat (first | exact Ext.refl _ | apply Ext.alloc | (refine Ext.setCell ?_ (Nat.le_refl _) _))))
            · have h15' : ¬ ((15 : Int) < i - k) := by omega
              have HW := Lib.hid (show T = (5, i - k, 0) from by rw [HT2.out, numberT_ok HN.out HG.out h15])
              go_wp2_with (first | (go_at_call 105; refine (allowedR _ _).mono ?_; rintro e w' ⟨rfl, rfl⟩) | (go_at_call 106; refine (printedR _ _).mono ?_; rintro e w' ⟨rfl, rfl⟩) | (go_at_call 107; refine (digitR _ _).mono ?_; rintro e w' ⟨rfl, rfl⟩) | (go_at_call 108; refine (lowerR _ _).mono ?_; rintro e w' ⟨rfl, rfl⟩) | (go_at_call 109; refine (upperR _ _).mono ?_; rintro e w' ⟨rfl, rfl⟩) | (go_at_call 111; refine (signR _ _ k rfl _ hlt hl).mono ?_; rintro e w' ⟨rfl, rfl⟩))
              exact bodyPost_ret (v := .agg #[.int .i64 ((i : Int) - k), .int .i64 5, .int .i64 0, .int .i64 0]) (by simp [results, Try.results86, go_sem]) rfl (item_ok HW.out (by omega) (by omega) (by repeat (first | exact Ext.refl _ | apply Ext.alloc | (refine Ext.setCell ?_ (Nat.le_refl _) _))))
          · skip
            have HW := Lib.hid (show T = (5, 0, 2) from by rw [HT2.out, numberT_zero HN.out h1 h0 HC0.out h48])
            go_wp2_with (first | (go_at_call 105; refine (allowedR _ _).mono ?_; rintro e w' ⟨rfl, rfl⟩) | (go_at_call 106; refine (printedR _ _).mono ?_; rintro e w' ⟨rfl, rfl⟩) | (go_at_call 107; refine (digitR _ _).mono ?_; rintro e w' ⟨rfl, rfl⟩) | (go_at_call 108; refine (lowerR _ _).mono ?_; rintro e w' ⟨rfl, rfl⟩) | (go_at_call 109; refine (upperR _ _).mono ?_; rintro e w' ⟨rfl, rfl⟩) | (go_at_call 111; refine (signR _ _ k rfl _ hlt hl).mono ?_; rintro e w' ⟨rfl, rfl⟩))
            exact bodyPost_ret (v := .agg #[.int .i64 0, .int .i64 0, .int .i64 2, .int .i64 k]) (by simp [results, Try.results86, go_sem]) rfl (item_err HW.out (by omega) (by omega) (by omega) (by repeat (first | exact Ext.refl _ | apply Ext.alloc | (refine Ext.setCell ?_ (Nat.le_refl _) _))))
        · have h1' : ¬ ((1 : Int) < i - k) := by omega
          have h15' : ¬ ((15 : Int) < i - k) := by omega
          have HW := Lib.hid (show T = (5, i - k, 0) from by rw [HT2.out, numberT_ok HN.out (fun h => absurd h h1) (by omega)])
          go_wp2_with (first | (go_at_call 105; refine (allowedR _ _).mono ?_; rintro e w' ⟨rfl, rfl⟩) | (go_at_call 106; refine (printedR _ _).mono ?_; rintro e w' ⟨rfl, rfl⟩) | (go_at_call 107; refine (digitR _ _).mono ?_; rintro e w' ⟨rfl, rfl⟩) | (go_at_call 108; refine (lowerR _ _).mono ?_; rintro e w' ⟨rfl, rfl⟩) | (go_at_call 109; refine (upperR _ _).mono ?_; rintro e w' ⟨rfl, rfl⟩) | (go_at_call 111; refine (signR _ _ k rfl _ hlt hl).mono ?_; rintro e w' ⟨rfl, rfl⟩))
          exact bodyPost_ret (v := .agg #[.int .i64 ((i : Int) - k), .int .i64 5, .int .i64 0, .int .i64 0]) (by simp [results, Try.results86, go_sem]) rfl (item_ok HW.out (by omega) (by omega) (by repeat (first | exact Ext.refl _ | apply Ext.alloc | (refine Ext.setCell ?_ (Nat.le_refl _) _))))
  have HDg := Lib.hid (show ¬ digitB c = true from by simp [hdg])
  have HQt := Lib.hid (bneI (m := 34) h34)
  cases hle : letterB c
  rotate_left
  · have HT2 := Lib.hid (show wordT (l.drop k) = T from by rw [← HT.out, if_neg HA.out, if_pos hle])
    obtain ⟨a0, a1, a2, a3, hform⟩ := itemV_form k T
    have HF := Lib.hid hform
    have CW := Lib.hid (fun w => wordsR l k k rfl w hlt (by rw [HC.out]; exact hle) hl)
    clear hform
    have hbe : lowerB c = true ∨ (lowerB c = false ∧ upperB c = true) := by cases h : lowerB c <;> simp_all [letterB]
    rcases hbe with hlo | ⟨hlo, hup⟩
    all_goals
      go_wp2_with (first | (go_at_call 105; refine (allowedR _ _).mono ?_; rintro e w' ⟨rfl, rfl⟩) | (go_at_call 106; refine (printedR _ _).mono ?_; rintro e w' ⟨rfl, rfl⟩) | (go_at_call 107; refine (digitR _ _).mono ?_; rintro e w' ⟨rfl, rfl⟩) | (go_at_call 108; refine (lowerR _ _).mono ?_; rintro e w' ⟨rfl, rfl⟩) | (go_at_call 109; refine (upperR _ _).mono ?_; rintro e w' ⟨rfl, rfl⟩) | (go_at_call 111; refine (signR _ _ k rfl _ hlt hl).mono ?_; rintro e w' ⟨rfl, rfl⟩))
      refine (CW.out _).mono ?_
      rintro e w1 ⟨rfl, hext⟩
      rw [HT2.out, HF.out]
      have hsz := hext.size
      have hc0 := hext.cell (p := ⟨w.heap.size, 0, none⟩) (by simp)
      have hc1 := hext.cell (p := ⟨w.heap.size, 1, none⟩) (by simp)
      have hc2 := hext.cell (p := ⟨w.heap.size, 2, none⟩) (by simp)
      have hc3 := hext.cell (p := ⟨w.heap.size, 3, none⟩) (by simp)
      have hf0 := hext.frozen (p := ⟨w.heap.size, 0, none⟩) (by simp)
      have hf1 := hext.frozen (p := ⟨w.heap.size, 1, none⟩) (by simp)
      have hf2 := hext.frozen (p := ⟨w.heap.size, 2, none⟩) (by simp)
      have hf3 := hext.frozen (p := ⟨w.heap.size, 3, none⟩) (by simp)
      have HX := Lib.hid hext
      clear hext
      simp at hsz hc0 hc1 hc2 hc3 hf0 hf1 hf2 hf3
      go_wp2_with (first | (go_at_call 105; refine (allowedR _ _).mono ?_; rintro e w' ⟨rfl, rfl⟩) | (go_at_call 106; refine (printedR _ _).mono ?_; rintro e w' ⟨rfl, rfl⟩) | (go_at_call 107; refine (digitR _ _).mono ?_; rintro e w' ⟨rfl, rfl⟩) | (go_at_call 108; refine (lowerR _ _).mono ?_; rintro e w' ⟨rfl, rfl⟩) | (go_at_call 109; refine (upperR _ _).mono ?_; rintro e w' ⟨rfl, rfl⟩) | (go_at_call 111; refine (signR _ _ k rfl _ hlt hl).mono ?_; rintro e w' ⟨rfl, rfl⟩))
      exact bodyPost_ret (v := .agg #[.int .i64 a0, .int .i64 a1, .int .i64 a2, .int .i64 a3]) (by simp [results, Try.results86, go_sem, hc0, hc1, hc2, hc3]) rfl ⟨by rw [HF.out], (((((Ext.refl w).alloc _).trans HX.out).setCell (Nat.le_refl _) _).setCell (Nat.le_refl _) _).setCell (Nat.le_refl _) _ |>.setCell (Nat.le_refl _) _⟩
  have HLt := Lib.hid (show ¬ letterB c = true from by simp [hle])
  have hlo : lowerB c = false := by cases h : lowerB c <;> simp_all [letterB]
  have hup : upperB c = false := by cases h : upperB c <;> simp_all [letterB]
  have HSg := Lib.hid (sign_same (l.drop k))
  have HG0 := Lib.hid (getD_of_lt h0 HC0.out)
  have HT2 := Lib.hid (show T = if signLen (l.drop k) = 0 then (0, 0, 2) else (8, signLen (l.drop k), 0) from by
    rw [← HSg.out, HG0.out, ← HT.out, if_neg HA.out, if_neg HLt.out, if_neg HDg.out, if_neg HQt.out])
  obtain ⟨m, hm⟩ : ∃ m, signLen (l.drop k) = m := ⟨_, rfl⟩
  have HM := Lib.hid hm
  by_cases hm0 : m = 0
  · have HW := Lib.hid (show T = (0, 0, 2) from by rw [HT2.out, HM.out, if_pos hm0])
    subst hm0
    go_wp2_with (first | (go_at_call 105; refine (allowedR _ _).mono ?_; rintro e w' ⟨rfl, rfl⟩) | (go_at_call 106; refine (printedR _ _).mono ?_; rintro e w' ⟨rfl, rfl⟩) | (go_at_call 107; refine (digitR _ _).mono ?_; rintro e w' ⟨rfl, rfl⟩) | (go_at_call 108; refine (lowerR _ _).mono ?_; rintro e w' ⟨rfl, rfl⟩) | (go_at_call 109; refine (upperR _ _).mono ?_; rintro e w' ⟨rfl, rfl⟩) | (go_at_call 111; refine (signR _ _ k rfl _ hlt hl).mono ?_; rintro e w' ⟨rfl, rfl⟩))
    exact bodyPost_ret (v := .agg #[.int .i64 0, .int .i64 0, .int .i64 2, .int .i64 k]) (by simp [results, Try.results86, go_sem]) rfl (item_err HW.out (by omega) (by omega) (by omega) (by repeat (first | exact Ext.refl _ | apply Ext.alloc | (refine Ext.setCell ?_ (Nat.le_refl _) _))))
  · have HW := Lib.hid (show T = (8, m, 0) from by rw [HT2.out, HM.out, if_neg hm0])
    have hmb : ((m : Int) == 0) = false := by simp; omega
    go_wp2_with (first | (go_at_call 105; refine (allowedR _ _).mono ?_; rintro e w' ⟨rfl, rfl⟩) | (go_at_call 106; refine (printedR _ _).mono ?_; rintro e w' ⟨rfl, rfl⟩) | (go_at_call 107; refine (digitR _ _).mono ?_; rintro e w' ⟨rfl, rfl⟩) | (go_at_call 108; refine (lowerR _ _).mono ?_; rintro e w' ⟨rfl, rfl⟩) | (go_at_call 109; refine (upperR _ _).mono ?_; rintro e w' ⟨rfl, rfl⟩) | (go_at_call 111; refine (signR _ _ k rfl _ hlt hl).mono ?_; rintro e w' ⟨rfl, rfl⟩))
    exact bodyPost_ret (v := .agg #[.int .i64 m, .int .i64 8, .int .i64 0, .int .i64 0]) (by simp [results, Try.results86, go_sem]) rfl (item_ok HW.out (by omega) (by omega) (by repeat (first | exact Ext.refl _ | apply Ext.alloc | (refine Ext.setCell ?_ (Nat.le_refl _) _))))
end Go.Proofs.Ythpjpngfghcmcaa
namespace Go.Proofs.Ythpjpngfghcmcaa
open Go.RowKit Lx
set_option maxRecDepth 100000
theorem neI {n m : Nat} (h : ((n : Int) != (m : Int)) = false) : n = m := by simp at h; omega
theorem neT {n m : Nat} (h : ((n : Int) != (m : Int)) = true) : ¬ n = m := by simp at h; omega
def badI (k : Nat) : Option Nat → Int
  | none => -1
  | some p => ((k + p : Nat) : Int)
def LeadPost (l : List UInt8) (k : Nat) (w : World) (e : Ending) (w' : World) : Prop :=
  e = .returned (.tuple #[.int .i64 ((leadT false (l.drop k) 0).1 : Nat), .int .i64 (badI k (leadT false (l.drop k) 0).2)]) ∧ w = w'
theorem lead_mk {l : List UInt8} {k n : Nat} {b : Option Nat} {w : World} {x y : Int} (h : leadT false (l.drop k) 0 = (n, b)) (hx : x = n) (hy : y = badI k b) : LeadPost l k w (.returned (.tuple #[.int .i64 x, .int .i64 y])) w := by
  subst hx; subst hy; unfold LeadPost; rw [h]; exact ⟨rfl, rfl⟩
set_option maxHeartbeats 2000000 in
theorem leadR (l : List UInt8) (x : Int) (k : Nat) (hxk : x = k) (w : World) (hk : k ≤ l.length) (hl : l.length ≤ 281474976710656) : Calls Try.prog 85 #[.string ⟨l.toArray⟩, .int .i64 x] w (LeadPost l k w) := by
  subst hxk
  go_enter Try.func85, Try.ntmps85
  go_wp2_with (first | (go_at_call 98; refine (whiteR _ _).mono ?_; rintro e w' ⟨rfl, rfl⟩) | (go_at_call 105; refine (allowedR _ _).mono ?_; rintro e w' ⟨rfl, rfl⟩))
  go_loopg [6] (l.length - k) (fun g n wx => ∃ i : Nat, g = l.length - i ∧ wx = w ∧ k ≤ i ∧ i ≤ l.length ∧ n = .int .i64 i ∧ Hid (leadT false (l.drop k) 0 = leadT false (l.drop i) (i - k)))
  case atStart => exact ⟨k, rfl, rfl, Nat.le_refl _, hk, rfl, Lib.hid (by congr 1; omega)⟩
  case round =>
    obtain ⟨i, rfl, rfl, hki, hil, rfl, HL⟩ := hrel
    by_cases hit : i < l.length
    rotate_left
    · go_wp2_with (first | (go_at_call 98; refine (whiteR _ _).mono ?_; rintro e w' ⟨rfl, rfl⟩) | (go_at_call 105; refine (allowedR _ _).mono ?_; rintro e w' ⟨rfl, rfl⟩))
      go_ret2
      exact lead_mk (n := i - k) (b := none) (by rw [HL.out, leadT_end _ (by omega)]) (by omega) rfl
    obtain ⟨c, hc⟩ : ∃ c, ({ data := l.toArray } : ByteArray)[i]'hit = c := ⟨_, rfl⟩
    have HC := Lib.hid (show l[i] = c from hc)
    cases hw : whiteB c
    rotate_left
    · go_wp2_with (first | (go_at_call 98; refine (whiteR _ _).mono ?_; rintro e w' ⟨rfl, rfl⟩) | (go_at_call 105; refine (allowedR _ _).mono ?_; rintro e w' ⟨rfl, rfl⟩))
      go_roundg (l.length - (i + 1))
      case measure => omega
      case rel => exact ⟨i + 1, rfl, rfl, by omega, by omega, by go_num, Lib.hid (by rw [HL.out, leadT_white hit HC.out hw]; congr 1; omega)⟩
    cases h35 : ((c.toNat : Int) == 35)
    · go_wp2_with (first | (go_at_call 98; refine (whiteR _ _).mono ?_; rintro e w' ⟨rfl, rfl⟩) | (go_at_call 105; refine (allowedR _ _).mono ?_; rintro e w' ⟨rfl, rfl⟩))
      go_ret2
      exact lead_mk (n := i - k) (b := none) (by rw [HL.out, leadT_other hit HC.out hw (bneI (m := 35) h35)]) (by omega) rfl
    have HL2 := Lib.hid (HL.out.trans (leadT_hash (n := i - k) hit HC.out (beqI (m := 35) h35)))
    have HCI := Lib.hid (beqI (m := 35) h35)
    go_wp2_with (first | (go_at_call 98; refine (whiteR _ _).mono ?_; rintro e w' ⟨rfl, rfl⟩) | (go_at_call 105; refine (allowedR _ _).mono ?_; rintro e w' ⟨rfl, rfl⟩))
    clear HL
    obtain ⟨wo, rfl⟩ : ∃ wo : World, wo = wr := ⟨_, rfl⟩
    go_loopg [6] (l.length - i) (fun g n wx => ∃ j : Nat, g = l.length - j ∧ wx = wo ∧ i ≤ j ∧ j ≤ l.length ∧ n = .int .i64 j ∧ Hid (leadT false (l.drop k) 0 = leadT true (l.drop j) (j - k)))
    case atStart => exact ⟨i, rfl, rfl, Nat.le_refl _, by omega, rfl, HL2⟩
    case round =>
      obtain ⟨j, rfl, rfl, hij, hjl, rfl, HL3⟩ := hrel
      by_cases hjt : j < l.length
      rotate_left
      · go_wp2_with (first | (go_at_call 98; refine (whiteR _ _).mono ?_; rintro e w' ⟨rfl, rfl⟩) | (go_at_call 105; refine (allowedR _ _).mono ?_; rintro e w' ⟨rfl, rfl⟩))
        go_roundg (l.length - j)
        case measure => omega
        case rel => exact ⟨j, rfl, rfl, by omega, by omega, rfl, Lib.hid (by rw [HL3.out, leadT_end _ (by omega), leadT_end _ (by omega)])⟩
      obtain ⟨d, hd⟩ : ∃ c, ({ data := l.toArray } : ByteArray)[j]'hjt = c := ⟨_, rfl⟩
      have HD := Lib.hid (show l[j] = d from hd)
      cases h10 : ((d.toNat : Int) != 10)
      · have hne : i < j := by
          rcases Nat.lt_or_ge i j with h | h
          · exact h
          · have : i = j := by omega
            subst this
            have h2 := HCI.out
            have h3 : c = d := by rw [← HC.out, ← HD.out]
            subst h3
            simp [h2] at h10
        go_wp2_with (first | (go_at_call 98; refine (whiteR _ _).mono ?_; rintro e w' ⟨rfl, rfl⟩) | (go_at_call 105; refine (allowedR _ _).mono ?_; rintro e w' ⟨rfl, rfl⟩))
        go_roundg (l.length - j)
        case measure => omega
        case rel => exact ⟨j, rfl, rfl, by omega, by omega, rfl, Lib.hid (by rw [HL3.out, leadT_line hjt HD.out (neI (m := 10) h10)])⟩
      cases ha : allowedB d
      · go_wp2_with (first | (go_at_call 98; refine (whiteR _ _).mono ?_; rintro e w' ⟨rfl, rfl⟩) | (go_at_call 105; refine (allowedR _ _).mono ?_; rintro e w' ⟨rfl, rfl⟩))
        go_ret2
        exact lead_mk (n := j - k) (b := some (j - k)) (by rw [HL3.out, leadT_bad hjt HD.out (neT (m := 10) h10) ha]) (by omega) (by simp [badI]; omega)
      · go_wp2_with (first | (go_at_call 98; refine (whiteR _ _).mono ?_; rintro e w' ⟨rfl, rfl⟩) | (go_at_call 105; refine (allowedR _ _).mono ?_; rintro e w' ⟨rfl, rfl⟩))
        go_roundg (l.length - (j + 1))
        case measure => omega
        case rel => exact ⟨j + 1, rfl, rfl, by omega, by omega, by go_num, Lib.hid (by rw [HL3.out, leadT_in hjt HD.out (neT (m := 10) h10) ha]; congr 1; omega)⟩
end Go.Proofs.Ythpjpngfghcmcaa
namespace Go.Proofs.Ythpjpngfghcmcaa
open Go.RowKit Lx
set_option maxRecDepth 100000
theorem leadT_le : ∀ (b : Bool) (l : List UInt8) (n : Nat), (leadT b l n).1 ≤ n + l.length
  | _, [], n => by simp [leadT]
  | false, c :: r, n => by
    have h1 := leadT_le false r (n + 1)
    have h2 := leadT_le true r (n + 1)
    unfold leadT
    simp only [List.length_cons]
    split
    · omega
    · split
      · omega
      · simp
  | true, c :: r, n => by
    have h1 := leadT_le false r (n + 1)
    have h2 := leadT_le true r (n + 1)
    unfold leadT
    simp only [List.length_cons]
    split
    · omega
    · split
      · simp
      · omega
def ScanRelR (l : List UInt8) (w : World) (Rs : Scanned) (g : Nat) (s6 s7 : Value) (wx : World) : Prop :=
  ∃ (p F : Nat) (acc : List Tok), p ≤ l.length ∧ g = l.length - p ∧ s7 = .int .i64 p ∧ acc.length ≤ p ∧ l.length - p < F ∧
    scanT F (l.drop p) p acc = Rs ∧ wx.ownsRow w.heap.size 49 3 s6 acc.length (tokCells acc) ∧ Ext w wx
def ScanPost0 (Rs : Scanned) (w : World) (e : Ending) (w' : World) : Prop :=
  ∃ v, e = .returned (.tuple #[v, .string ⟨Rs.tail.toArray⟩, .int .i64 (Rs.place : Nat), .int .i64 (Rs.err : Nat)]) ∧ TokRow w' v Rs.toks ∧ Ext w w'
theorem scanPost0_mk {Rs : Scanned} {w w' : World} {v : Value} {r : Scanned} {tail : List UInt8} {p e : Int} (h : Rs = r) (ht : r.tail = tail) (hp : (r.place : Int) = p) (he : (r.err : Int) = e) (hr : TokRow w' v r.toks) (hx : Ext w w') :
    ScanPost0 Rs w (.returned (.tuple #[v, .string ⟨tail.toArray⟩, .int .i64 p, .int .i64 e])) w' := by
  subst h; subst ht; subst hp; subst he
  exact ⟨v, rfl, hr, hx⟩
set_option maxHeartbeats 4000000 in
theorem scan0R (l : List UInt8) (w : World) (hl : l.length ≤ 4096) : Calls Try.prog 54 #[.string ⟨l.toArray⟩] w (ScanPost0 (scanT (l.length + 1) l 0 []) w) := by
  obtain ⟨Rs, hR⟩ : ∃ Rs, scanT (l.length + 1) l 0 [] = Rs := ⟨_, rfl⟩
  rw [hR]
  have H0 := Lib.hid (show scanT (l.length + 1) (l.drop 0) 0 [] = Rs from by rw [← hR]; simp)
  clear hR
  have hx := ext_list; have hx2 := take_drop_all
  go_enter Try.func54, Try.ntmps54
  go_wp2_with fail
  go_loopg [6, 7] l.length (fun g s6 s7 wx => ScanRelR l w Rs g s6 s7 wx)
  case atStart => exact ⟨0, l.length + 1, [], Nat.zero_le _, by omega, rfl, Nat.le_refl _, by omega, H0.out, World.ownsRow_nil _ _ _ _, Ext.refl _⟩
  case round =>
    obtain ⟨p, F, acc, hpl, rfl, rfl, hacc, hF, hscan, hown, hext⟩ := hrel
    have HSc := Lib.hid hscan; clear hscan
    have HO := Lib.hid hown; clear hown
    have HE := Lib.hid hext; clear hext
    obtain ⟨F', rfl⟩ : ∃ F', F = F' + 1 := ⟨F - 1, by omega⟩
    obtain ⟨n, b, hLd⟩ : ∃ n b, leadT false (l.drop p) 0 = (n, b) := ⟨_, _, rfl⟩
    have hnl : p + n ≤ l.length := by have h := leadT_le false (l.drop p) 0; rw [hLd] at h; simp at h; omega
    have HLd := Lib.hid hLd; clear hLd
    go_wp2_with fail
    refine (leadR _ _ p rfl _ hpl (by omega)).mono ?_
    rintro e w' ⟨rfl, rfl⟩
    rw [HLd.out]
    cases b with
    | some q =>
      have hq : (0 : Int) ≤ ((p + q : Nat) : Int) := by omega
      have hq2 : badI p (some q) = ((p + q : Nat) : Int) := rfl
      rw [hq2]
      generalize hz : ((p + q : Nat) : Int) = z at *
      have HZ := Lib.hid hz; clear hz hq2
      go_wp2
      exact bodyPost_ret (v := .tuple #[.slice none 0 0, .string ⟨([] : List UInt8).toArray⟩, .int .i64 z, .int .i64 1]) (by simp [results, Try.results54, go_sem]) rfl (scanPost0_mk (r := ⟨[], [], p + q, 1⟩) (HSc.out.symm.trans (scanT_bad HLd.out)) rfl (by rw [HZ.out]) rfl (tokRow_nil _) HE.out)
    | none =>
      have hq2 : badI p none = -1 := rfl
      rw [hq2]
      clear hq2
      obtain ⟨E, hE⟩ : ∃ E, p + n = E := ⟨_, rfl⟩
      have hE1 : (p : Int) + n = (E : Nat) := by omega
      have hE2 : E - p = n := by omega
      have HEE := Lib.hid hE
      have hpE : p ≤ E := by omega
      have hEl : E ≤ l.length := by omega
      clear hE hnl
      by_cases hend : E = l.length
      · have hendb : ((E : Int) == (l.length : Int)) = true := by simp; omega
        have hb0 : (0 : Int) ≤ (p : Int) := by omega
        have hb1 : (p : Int) ≤ (l.length : Int) := by omega
        have HEnd := Lib.hid hend; clear hend
        go_wp2
        go_quiet (fail)
        go_wp2
        exact bodyPost_ret (v := .tuple #[u6, .string ⟨(l.drop p).toArray⟩, .int .i64 0, .int .i64 0]) (by simp [results, Try.results54, go_sem]) rfl (scanPost0_mk (r := ⟨acc, l.drop p, 0, 0⟩) (HSc.out.symm.trans (scanT_end HLd.out (by have := HEnd.out; have := HEE.out; simp; omega))) rfl rfl rfl (tokRow_of HO.out) (Ext.drewN HE.out _))
      · have hEt : E < l.length := by omega
        have hendb : ((E : Int) == (l.length : Int)) = false := by simp; omega
        clear hend
        obtain ⟨kd, m, e, hT⟩ : ∃ kd m e, tokenT (l.drop E) = (kd, m, e) := ⟨_, _, _, rfl⟩
        have hlen := tokenT_len (l := l.drop E) (by simp; omega)
        rw [hT] at hlen
        simp only [List.length_drop] at hlen
        obtain ⟨hm1, hm2⟩ := hlen
        have HM := Lib.hid hm2; clear hm2
        have HT := Lib.hid hT; clear hT
        have HDp := Lib.hid (show (l.drop p).drop n = l.drop E from by rw [List.drop_drop, HEE.out])
        have CN := Lib.hid (fun w => nextR l (E : Nat) E rfl w hEt (by omega))
        have HnE := Lib.hid (show ¬ n = (l.drop p).length from by have := HEE.out; simp; omega)
        go_wp2_with fail
        refine (CN.out _).mono ?_
        rintro e0 w1 ⟨rfl, hext1⟩
        rw [HT.out]
        by_cases he : e = 0
        rotate_left
        · have HI := Lib.hid (show itemV E (kd, m, e) = .agg #[.int .i64 0, .int .i64 0, .int .i64 e, .int .i64 ((E + m : Nat) : Int)] from by simp [itemV, he])
          rw [HI.out]
          have heb : ((e : Int) != 0) = true := by simp; omega
          have HX1 := Lib.hid (HE.out.trans hext1); clear hext1
          generalize hz : ((E + m : Nat) : Int) = z at *
          have HZ := Lib.hid hz; clear hz
          clear HI
          go_wp2
          go_quiet (fail)
          go_wp2
          exact bodyPost_ret (v := .tuple #[.slice none 0 0, .string ⟨([] : List UInt8).toArray⟩, .int .i64 z, .int .i64 e]) (by simp [results, Try.results54, go_sem]) rfl (scanPost0_mk (r := ⟨[], [], p + n + m, e⟩) (HSc.out.symm.trans (scanT_err HLd.out HnE.out (by rw [HDp.out]; exact HT.out) he)) rfl (by rw [← HZ.out]; have := HEE.out; simp; omega) rfl (tokRow_nil _) (Ext.drewN (HX1.out.alloc _) _))
        · subst he
          have HI := Lib.hid (show itemV E (kd, m, 0) = .agg #[.int .i64 m, .int .i64 kd, .int .i64 0, .int .i64 0] from by simp [itemV])
          rw [HI.out]
          have hmp : 0 < m := HM.out rfl
          have hown := own_ext HO.out hext1
          have hx1 := hext1.size
          have hsz := HE.out.size
          have HX1 := Lib.hid (HE.out.trans hext1)
          have hne : ∀ k, u6.ownBlock = some k → k < wr.heap.size := fun k hk => (HO.out.lt k hk).2
          have hneB : u6.ownBlock ≠ some w1.heap.size := fun h => by have := hne _ h; omega
          clear hext1 HI CN HM
          go_wp2
          obtain ⟨W2, hW2⟩ : ∃ W2, w1.alloc (.cells #[.int .i64 m, .int .i64 kd, .int .i64 0, .int .i64 0] 91) = W2 := ⟨_, rfl⟩
          rw [hW2]
          have hc0 : W2.cell? ⟨w1.heap.size, 0, none⟩ = some (.int .i64 m) := by rw [← hW2]; simp
          have hc1 : W2.cell? ⟨w1.heap.size, 1, none⟩ = some (.int .i64 kd) := by rw [← hW2]; simp
          have hown2 : W2.ownsRow w.heap.size 49 3 u6 acc.length (tokCells acc) := by rw [← hW2]; exact hown.alloc _
          have hBW : w1.heap.size < W2.heap.size := by rw [← hW2]; simp
          have HX2 := Lib.hid (show Ext w W2 from by rw [← hW2]; exact HX1.out.alloc _)
          obtain ⟨B, hB⟩ : ∃ B, w1.heap.size = B := ⟨_, rfl⟩
          have hwB : w.heap.size ≤ B := by omega
          rw [hB] at hc0 hc1 hBW hneB
          rw [hB]
          clear hW2 hB hown hne hx1 hsz HX1 HE HO
          have hb0 : (0 : Int) ≤ (p : Int) := by omega
          have hb1 : (p : Int) ≤ (E : Int) := by omega
          have hb2 : (E : Int) ≤ (l.length : Int) := by omega
          have hb3 : (E : Int) + m ≤ (l.length : Int) := by omega
          have hb4 : (E : Int) ≤ (E : Int) + m := by omega
          have hwr0 : IntKind.i64.wrap (E : Int) = (E : Int) := IntWalk.i64_in _ (by omega)
          have hwr : IntKind.i64.wrap ((E : Int) + m) = (E : Int) + m := IntWalk.i64_in _ (by omega)
          have hb5 : (0 : Int) ≤ (E : Int) + m := by omega
          have hb6 : ((E : Int) + m).toNat = E + m := by omega
          have hsz2 : (acc.length + 1) * 40 ≤ 140737488355328 := by omega
          have hsz3 : acc.length + 1 ≤ maxLen := by unfold maxLen; omega
          have hbs : w.heap.size ≤ W2.heap.size := by omega
          obtain ⟨i0, hi0, hz0, hz1, hz2⟩ := info_parts' tokInfo
          go_region_held3 (fun w' => w'.cell? ⟨B, 0, none⟩ = some (.int .i64 m) ∧ w'.cell? ⟨B, 1, none⟩ = some (.int .i64 kd))
            (first | go_keep | (go_split_ands; refine ⟨?_, ?_⟩ <;> (rw [hgrow.cell_far _ (by simp; omega) (Ne.symm hneB)]; simp [*])))
            ((refine step_append_lies _ (by rfl) _ _ _ (by rfl) w.heap.size 49 i0 _ 3 40 Try.underlying42 hi0 hz0 hz1 hz2 rfl (by omega) u6 acc.length (tokCells acc) (by rfl) ((hown2.alloc _).drew) ⟨W2.heap.size, 0, none⟩ 1 1 [.int .i64 kd, .string ⟨((l.drop p).take n).toArray⟩, .string ⟨((l.drop E).take m).toArray⟩] (by rfl) (by rfl) (World.news_of_block (cs := #[.int .i64 kd, .string ⟨((l.drop p).take n).toArray⟩, .string ⟨((l.drop E).take m).toArray⟩]) (t := 49) (fr := (0, 0)) (heap_alloc_new W2 _)) (by simp [Value.oneCell']) (by omega) hsz3 hsz2 (by simp; omega) (W2.heap.size + 1) (by simp) ?_; intro gg cap w3 hown3 hgrow hat hlt3))
          have hc03 : w3.cell? ⟨B, 0, none⟩ = some (.int .i64 m) := by rename_i hh; exact hh.1
          have HX := Lib.hid (((HX2.out.alloc _).drew).grown hgrow (fun k hk => (hown2.lt k hk).1))
          have HO1 := Lib.hid (show w3.ownsRow w.heap.size 49 3 (.slice (some ⟨gg, 0, none⟩) (acc.length + 1) cap) (acc ++ [Tok.mk kd ((l.drop p).take n) ((l.drop E).take m)]).length (tokCells (acc ++ [Tok.mk kd ((l.drop p).take n) ((l.drop E).take m)])) from by
            rw [tokCells_snoc, List.length_append]; exact hown3)
          clear hown3 hgrow hat hown2 hsz2 hsz3 hi0 hz0 hz1 hz2 hwr hwr0 hb6 hc0 hc1
          go_wp2
          go_roundg (l.length - (E + m))
          case measure => omega
          case rel =>
            refine ⟨E + m, F', acc ++ [Tok.mk kd ((l.drop p).take n) ((l.drop E).take m)], by omega, rfl, by go_num, by simp; omega, by omega, ?_, HO1.out, HX.out⟩
            rw [← HSc.out, scanT_tok HLd.out HnE.out (by rw [HDp.out]; exact HT.out), HDp.out, List.drop_drop, ← HEE.out]
            congr 2 <;> omega
theorem scanR (l : List UInt8) (w : World) (hl : l.length ≤ 281474976710656) : Calls Try.prog 29 #[.string ⟨l.toArray⟩] w (ScanPost l w) := by
  by_cases h4 : 4096 < l.length
  · have HS := Lib.hid (show scan l = ⟨[], [], 4096, 3⟩ from by simp [scan, h4])
    go_enter Try.func29, Try.ntmps29
    go_wp2
    exact bodyPost_ret (v := .tuple #[.slice none 0 0, .string ⟨([] : List UInt8).toArray⟩, .int .i64 4096, .int .i64 3]) (by simp [results, Try.results29, go_sem]) rfl (scanPost_mk HS.out rfl rfl rfl (tokRow_nil _) (Ext.refl _))
  · have HS := Lib.hid (show scan l = scanT (l.length + 1) l 0 [] from by simp [scan, h4])
    go_enter Try.func29, Try.ntmps29
    go_wp2_with fail
    refine (scan0R _ _ (by omega)).mono ?_
    rintro e w' ⟨v, rfl, htr, hext⟩
    obtain ⟨A, c, rfl, hc1, hc2, hrow⟩ := htr
    have HR := Lib.hid hrow; clear hrow
    have HX := Lib.hid hext; clear hext
    rw [← HS.out] at HR hc1 ⊢
    go_wp2
    exact bodyPost_ret (v := .tuple #[.slice A (scan l).toks.length c, .string ⟨(scan l).tail.toArray⟩, .int .i64 ((scan l).place : Nat), .int .i64 ((scan l).err : Nat)]) (by simp [results, Try.results29, go_sem]) rfl ⟨_, rfl, ⟨A, c, rfl, hc1, hc2, HR.out⟩, HX.out⟩
end Go.Proofs.Ythpjpngfghcmcaa
namespace Go.Proofs.Ythpjpngfghcmcaa
open Go.RowKit Lx
set_option maxRecDepth 100000
def commentT : Bool → List UInt8 → Bool
  | c, [] => c
  | c, x :: r => commentT (if x.toNat = 10 then false else if x.toNat = 35 then true else c) r
theorem leadT_mono : ∀ (b : Bool) (l : List UInt8) (n m : Nat), leadT b l (n + m) = ((leadT b l n).1 + m, (leadT b l n).2.map (· + m))
  | b, [], n, m => by cases b <;> simp [leadT]
  | false, c :: r, n, m => by
    have h1 := leadT_mono false r (n + 1) m
    have h2 := leadT_mono true r (n + 1) m
    unfold leadT
    split
    · rw [← h1]; congr 1; omega
    · split
      · rw [← h2]; congr 1; omega
      · simp
  | true, c :: r, n, m => by
    have h1 := leadT_mono false r (n + 1) m
    have h2 := leadT_mono true r (n + 1) m
    unfold leadT
    split
    · rw [← h1]; congr 1; omega
    · split
      · simp
      · rw [← h2]; congr 1; omega
def wholeB (c : Bool) (l : List UInt8) : Bool := (leadT c l 0).2.isNone && (leadT c l 0).1 == l.length
theorem wholeB_step {c d : Bool} {x : UInt8} {r : List UInt8} (h : leadT c (x :: r) 0 = leadT d r 1) : wholeB c (x :: r) = wholeB d r := by
  unfold wholeB
  rw [h, show (1 : Nat) = 0 + 1 from rfl, leadT_mono]
  simp
theorem triviaT_eq : ∀ (l : List UInt8) (c fin : Bool), triviaT c l fin = (wholeB c l && (!commentT c l || fin))
  | [], c, fin => by cases c <;> cases fin <;> rfl
  | x :: r, c, fin => by
    have ih := triviaT_eq r
    unfold triviaT commentT
    cases c with
    | true =>
      by_cases ha : allowedB x = false
      · have h10 : ¬ x.toNat = 10 := fun h => by simp [allowedB, whiteB, h] at ha
        have : wholeB true (x :: r) = false := by simp [wholeB, leadT, h10, ha]
        rw [if_pos ha, this]; rfl
      · have ha' : allowedB x = true := by simpa using ha
        rw [if_neg ha, if_pos rfl, ih]
        by_cases h10 : x.toNat = 10
        · rw [wholeB_step (d := false) (by simp [leadT, h10])]; simp [h10]
        · have hb : (x.toNat == 10) = false := by simpa using h10
          rw [wholeB_step (d := true) (by simp [leadT, h10, ha']), hb]; simp [h10]
    | false =>
      by_cases ha : allowedB x = false
      · have hw : whiteB x = false := by cases h : whiteB x <;> simp_all [allowedB]
        have h35 : ¬ x.toNat = 35 := fun h => by simp [allowedB, printedB, h] at ha
        have : wholeB false (x :: r) = false := by simp [wholeB, leadT, hw, h35]
        rw [if_pos ha, this]; rfl
      · rw [if_neg ha, if_neg (by simp)]
        by_cases h35 : x.toNat = 35
        · have hw : whiteB x = false := by simp [whiteB, h35]
          rw [if_pos h35, ih, wholeB_step (d := true) (by simp [leadT, h35, hw])]; simp [h35]
        · rw [if_neg h35]
          by_cases hw : whiteB x = false
          · have : wholeB false (x :: r) = false := by simp [wholeB, leadT, hw, h35]
            rw [if_pos hw, this]; rfl
          · have hw' : whiteB x = true := by simpa using hw
            rw [if_neg hw, ih, wholeB_step (d := false) (by simp [leadT, hw'])]
            by_cases h10 : x.toNat = 10 <;> simp [h10, h35]
theorem triviaT_step {l : List UInt8} {k : Nat} {x : UInt8} {c fin : Bool} (h : k < l.length) (hc : l[k] = x) : triviaT c (l.drop k) fin =
    if allowedB x = false then false else if c = true then triviaT (!(x.toNat == 10)) (l.drop (k + 1)) fin else if x.toNat = 35 then triviaT true (l.drop (k + 1)) fin else if whiteB x = false then false else triviaT c (l.drop (k + 1)) fin := by
  rw [List.drop_eq_getElem_cons h, hc]; rfl
theorem triviaT_end {l : List UInt8} {k : Nat} {c fin : Bool} (h : l.length ≤ k) : triviaT c (l.drop k) fin = (!c || fin) := by
  rw [List.drop_of_length_le h]; rfl
theorem commentT_step {l : List UInt8} {k : Nat} {x : UInt8} {c : Bool} (h : k < l.length) (hc : l[k] = x) : commentT c (l.drop k) = commentT (if x.toNat = 10 then false else if x.toNat = 35 then true else c) (l.drop (k + 1)) := by
  rw [List.drop_eq_getElem_cons h, hc]; rfl
theorem commentT_end {l : List UInt8} {k : Nat} {c : Bool} (h : l.length ≤ k) : commentT c (l.drop k) = c := by
  rw [List.drop_of_length_le h]; rfl
theorem neq10 (x : UInt8) : ((x.toNat : Int) != 10) = !(x.toNat == 10) := by rw [Bool.eq_iff_iff]; simp; omega
end Go.Proofs.Ythpjpngfghcmcaa
namespace Go.Proofs.Ythpjpngfghcmcaa
open Go.RowKit Lx
set_option maxRecDepth 100000
theorem tokCells_at : ∀ (l : List Tok) (k : Nat) (h : k < l.length), (tokCells l)[k * 3]? = some (.int .i64 l[k].kind) ∧ (tokCells l)[k * 3 + 1]? = some (.string ⟨l[k].lead.toArray⟩) ∧ (tokCells l)[k * 3 + 2]? = some (.string ⟨l[k].text.toArray⟩)
  | t :: l, 0, _ => ⟨rfl, rfl, rfl⟩
  | t :: l, k + 1, h => by
    have ih := tokCells_at l k (by simpa using h)
    have e : tokCells (t :: l) = [.int .i64 t.kind, .string ⟨t.lead.toArray⟩, .string ⟨t.text.toArray⟩] ++ tokCells l := rfl
    rw [e]
    refine ⟨?_, ?_, ?_⟩
    · rw [List.getElem?_append_right (by simp; omega)]; simpa [Nat.succ_mul] using ih.1
    · rw [List.getElem?_append_right (by simp; omega)]
      have : (k + 1) * 3 + 1 - 3 = k * 3 + 1 := by omega
      simpa [this] using ih.2.1
    · rw [List.getElem?_append_right (by simp; omega)]
      have : (k + 1) * 3 + 2 - 3 = k * 3 + 2 := by omega
      simpa [this] using ih.2.2
theorem tokRow_at {w : World} {A : Option Addr} {l : List Tok} (h : Row w 3 A l.length (tokCells l)) {k : Nat} (hk : k < l.length) :
    ∃ b off, A = some ⟨b, off, none⟩ ∧ b < w.heap.size ∧ w.cell? ⟨b, off + k * 3, none⟩ = some (.int .i64 l[k].kind) ∧ w.cell? ⟨b, off + k * 3 + 1, none⟩ = some (.string ⟨l[k].lead.toArray⟩) ∧ w.cell? ⟨b, off + k * 3 + 2, none⟩ = some (.string ⟨l[k].text.toArray⟩) := by
  obtain ⟨b, off, rfl, hb, hc⟩ := h.2 (by omega)
  obtain ⟨h0, h1, h2⟩ := tokCells_at l k hk
  refine ⟨b, off, rfl, hb, ?_, ?_, ?_⟩
  · rw [hc _ (by omega), h0]
  · rw [Nat.add_assoc, hc _ (by omega), h1]
  · rw [Nat.add_assoc, hc _ (by omega), h2]
end Go.Proofs.Ythpjpngfghcmcaa
namespace Go.Proofs.Ythpjpngfghcmcaa
open Go.RowKit Lx
set_option maxRecDepth 100000
set_option maxHeartbeats 1000000 in
theorem classL (l : List UInt8) (w : World) (hl : l.length ≤ 281474976710656) : Calls Try.prog 66 #[.string ⟨l.toArray⟩] w fun e w' => e = .returned (.int .i64 (classT l : Nat)) ∧ w = w' := by
  by_cases h0 : l = []
  · subst h0
    go_enter Try.func66, Try.ntmps66
    go_wp2
    go_ret
    exact ⟨rfl, rfl⟩
  · have hb1 : (l == []) = false := by simpa using h0
    have hb2 : l.isEmpty = false := by simpa using h0
    have hpos : 0 < l.length := List.length_pos_iff.2 h0
    obtain ⟨k, n, e, hT⟩ : ∃ k n e, tokenT l = (k, n, e) := ⟨_, _, _, rfl⟩
    have HT := Lib.hid hT
    have HC := Lib.hid (show classT l = if e = 0 ∧ n = l.length then k else 0 from by simp only [classT, if_neg h0, hT])
    clear hT h0
    go_enter Try.func66, Try.ntmps66
    go_wp2_with fail
    refine (tokenL _ _ hpos hl).mono ?_
    rintro e0 w' ⟨rfl, rfl⟩
    rw [HT.out]
    by_cases he : e = 0
    · subst he
      by_cases hn : n = l.length
      · have hnb : ((n : Int) != (l.length : Int)) = false := by simp; omega
        have HR := Lib.hid (HC.out.trans (if_pos ⟨rfl, hn⟩))
        clear hn
        go_wp2
        go_ret
        exact ⟨ret_int (by rw [HR.out]), rfl⟩
      · have hnb : ((n : Int) != (l.length : Int)) = true := by simp; omega
        have HR := Lib.hid (HC.out.trans (if_neg (fun h => hn h.2)))
        clear hn
        go_wp2
        go_ret
        exact ⟨ret_int (by rw [HR.out]; rfl), rfl⟩
    · have heb : ((e : Int) != 0) = true := by simp; omega
      have HR := Lib.hid (HC.out.trans (if_neg (fun h => he h.1)))
      go_wp2
      go_ret
      exact ⟨ret_int (by rw [HR.out]; rfl), rfl⟩
theorem tokenT_white {l : List UInt8} {c : UInt8} (h0 : 0 < l.length) (hc : l[0] = c) (h : whiteB c = true ∨ c.toNat = 35) : tokenT l = (0, 0, 2) := by
  have hv : c.toNat = 9 ∨ c.toNat = 10 ∨ c.toNat = 13 ∨ c.toNat = 32 ∨ c.toNat = 35 := by
    rcases h with h | h
    · simp [whiteB] at h; omega
    · omega
  have ha : allowedB c = true := by
    rcases hv with h | h | h | h | h <;> simp [allowedB, whiteB, printedB, h]
  have hs : signs.contains c = false := by
    have h : ∀ n : UInt8, (c == n) = (c.toNat == n.toNat) := fun n => by rw [Bool.eq_iff_iff]; simp [UInt8.toNat_inj]
    simp only [signs, List.contains_cons, List.contains_nil, Bool.or_false, h]
    rcases hv with h | h | h | h | h <;> rw [h] <;> rfl
  rw [tokenT_eq h0 hc, if_neg (by simp [ha]), if_neg (by simp [letterB, lowerB, upperB]; omega), if_neg (by simp [digitB]; omega), if_neg (by omega), if_neg (by omega), if_neg (by rw [hs]; simp)]
set_option maxHeartbeats 1000000 in
theorem classR (l : List UInt8) (w : World) (hl : l.length ≤ 281474976710656) : Calls Try.prog 65 #[.string ⟨l.toArray⟩] w fun e w' => e = .returned (.int .i64 (classT l : Nat)) ∧ Ext w w' := by
  by_cases h0 : l = []
  · subst h0
    go_enter Try.func65, Try.ntmps65
    go_wp2
    go_ret
    exact ⟨rfl, Ext.refl _⟩
  · have hb1 : (l == []) = false := by simpa using h0
    have hb2 : l.isEmpty = false := by simpa using h0
    have hpos : 0 < l.length := List.length_pos_iff.2 h0
    obtain ⟨k, n, e, hT⟩ : ∃ k n e, tokenT l = (k, n, e) := ⟨_, _, _, rfl⟩
    have HT := Lib.hid hT
    have HC := Lib.hid (show classT l = if e = 0 ∧ n = l.length then k else 0 from by simp only [classT, if_neg h0, hT])
    clear hT h0
    obtain ⟨c, hc⟩ : ∃ c, ({ data := l.toArray } : ByteArray)[0]'hpos = c := ⟨_, rfl⟩
    have HC0 := Lib.hid (show l[0] = c from hc)
    cases hw : whiteB c
    rotate_left
    · have hz : (k, n, e) = (0, 0, 2) := HT.out.symm.trans (tokenT_white hpos HC0.out (.inl hw))
      have HR := Lib.hid (show classT l = 0 from by simp only [Prod.mk.injEq] at hz; rw [HC.out, if_neg (by omega)])
      clear hz
      go_enter Try.func65, Try.ntmps65
      go_wp2_with (first | (go_at_call 98; refine (whiteR _ _).mono ?_; rintro e w' ⟨rfl, rfl⟩))
      go_ret
      exact ⟨ret_int (by rw [HR.out]; rfl), Ext.refl _⟩
    cases h35 : ((c.toNat : Int) == 35)
    rotate_left
    · have hz : (k, n, e) = (0, 0, 2) := HT.out.symm.trans (tokenT_white hpos HC0.out (.inr (beqI (m := 35) h35)))
      have HR := Lib.hid (show classT l = 0 from by simp only [Prod.mk.injEq] at hz; rw [HC.out, if_neg (by omega)])
      clear hz
      go_enter Try.func65, Try.ntmps65
      go_wp2_with (first | (go_at_call 98; refine (whiteR _ _).mono ?_; rintro e w' ⟨rfl, rfl⟩))
      go_ret
      exact ⟨ret_int (by rw [HR.out]; rfl), Ext.refl _⟩
    have CN := Lib.hid (fun w => nextR l 0 0 rfl w hpos hl)
    go_enter Try.func65, Try.ntmps65
    go_wp2_with (first | (go_at_call 98; refine (whiteR _ _).mono ?_; rintro e w' ⟨rfl, rfl⟩))
    refine (CN.out _).mono ?_
    rintro e0 w1 ⟨rfl, hext⟩
    rw [List.drop_zero, HT.out]
    have HX := Lib.hid hext; clear hext CN
    by_cases he : e = 0
    · subst he
      have HI := Lib.hid (show itemV 0 (k, n, 0) = .agg #[.int .i64 n, .int .i64 k, .int .i64 0, .int .i64 0] from by simp [itemV])
      rw [HI.out]
      clear HI
      by_cases hn : n = l.length
      · have hnb : ((n : Int) != (l.length : Int)) = false := by simp; omega
        have HR := Lib.hid (HC.out.trans (if_pos ⟨rfl, hn⟩))
        clear hn
        go_wp2
        go_ret
        exact ⟨ret_int (by rw [HR.out]), HX.out.alloc _⟩
      · have hnb : ((n : Int) != (l.length : Int)) = true := by simp; omega
        have HR := Lib.hid (HC.out.trans (if_neg (fun h => hn h.2)))
        clear hn
        go_wp2
        go_ret
        exact ⟨ret_int (by rw [HR.out]; rfl), HX.out.alloc _⟩
    · have HI := Lib.hid (show itemV 0 (k, n, e) = .agg #[.int .i64 0, .int .i64 0, .int .i64 e, .int .i64 ((0 + n : Nat) : Int)] from by simp [itemV, he])
      rw [HI.out]
      clear HI
      have heb : ((e : Int) != 0) = true := by simp; omega
      have HR := Lib.hid (HC.out.trans (if_neg (fun h => he h.1)))
      go_wp2
      go_ret
      exact ⟨ret_int (by rw [HR.out]; rfl), HX.out.alloc _⟩
end Go.Proofs.Ythpjpngfghcmcaa
namespace Go.Proofs.Ythpjpngfghcmcaa
open Go.RowKit Lx
set_option maxRecDepth 100000
theorem app_list (a b : List UInt8) : (ByteArray.mk a.toArray) ++ (ByteArray.mk b.toArray) = ⟨(a ++ b).toArray⟩ := by
  apply ByteArray.ext; simp
theorem fusesT_no {a b : List UInt8} (h : classT a = 0 ∨ classT b = 0) : fusesT a b = false := by simp [fusesT, h]
theorem fusesT_other {a b : List UInt8} (h : ¬ (classT a = 0 ∨ classT b = 0)) (h2 : ¬ ((scan (a ++ b)).err = 0 ∧ (scan (a ++ b)).toks.length = 2 ∧ (scan (a ++ b)).tail = [])) : fusesT a b = true := by
  unfold fusesT; rw [if_neg h]; simp only; rw [if_neg h2]
theorem fusesT_two {a b : List UInt8} {t0 t1 : Tok} (h : ¬ (classT a = 0 ∨ classT b = 0)) (h1 : (scan (a ++ b)).err = 0) (h2 : (scan (a ++ b)).toks = [t0, t1]) (h3 : (scan (a ++ b)).tail = []) :
    fusesT a b = !(t0.lead == [] && t0.text == a && t1.lead == [] && t1.text == b) := by
  unfold fusesT; rw [if_neg h]; simp only; rw [h1, h2, h3]; simp
theorem isEmpty_of {l : List UInt8} {b : Bool} (h : (l == []) = b) : l.isEmpty = b := by rw [← h]; cases l <;> rfl
theorem list_two {l : List Tok} (h : l.length = 2) : ∃ t0 t1, l = [t0, t1] := by
  match l, h with
  | [a, b], _ => exact ⟨a, b, rfl⟩
set_option maxHeartbeats 2000000 in
theorem fusesL (a b : List UInt8) (w : World) (ha : a.length ≤ 140737488355328) (hb : b.length ≤ 140737488355328) : Calls Try.prog 115 #[.string ⟨a.toArray⟩, .string ⟨b.toArray⟩] w fun e w' => e = .returned (.bool (fusesT a b)) ∧ Ext w w' := by
  have hx := app_list
  obtain ⟨ka, hka⟩ : ∃ k, classT a = k := ⟨_, rfl⟩
  obtain ⟨kb, hkb⟩ : ∃ k, classT b = k := ⟨_, rfl⟩
  have HKa := Lib.hid hka
  have HKb := Lib.hid hkb
  clear hka hkb
  go_enter Try.func115, Try.ntmps115
  go_wp2_with fail
  refine (classL _ _ (by omega)).mono ?_
  rintro e1 w1 ⟨rfl, rfl⟩
  rw [HKa.out]

  by_cases h1 : ka = 0
  · subst h1
    go_wp2_with fail
    go_ret
    exact ⟨ret_bool (fusesT_no (.inl HKa.out)).symm, Ext.refl _⟩
  have h1b : ((ka : Int) == 0) = false := by simp; omega
  go_wp2_with fail
  refine (classL _ _ (by omega)).mono ?_
  rintro e2 w2 ⟨rfl, rfl⟩
  rw [HKb.out]

  by_cases h2 : kb = 0
  · subst h2
    go_wp2_with fail
    go_ret
    exact ⟨ret_bool (fusesT_no (.inr HKb.out)).symm, Ext.refl _⟩
  have h2b : ((kb : Int) == 0) = false := by simp; omega
  have HN := Lib.hid (show ¬ (classT a = 0 ∨ classT b = 0) from by rw [HKa.out, HKb.out]; omega)
  obtain ⟨Rs, hRs⟩ : ∃ Rs, scan (a ++ b) = Rs := ⟨_, rfl⟩
  have HRs := Lib.hid hRs
  clear hRs
  go_wp2_with fail
  refine (scanL _ _ (by simp; omega)).mono ?_
  rintro e3 w3 ⟨v, rfl, htr, hx3⟩
  rw [HRs.out] at htr ⊢
  obtain ⟨A, c, rfl, hc1, hc2, hrow⟩ := htr
  unfold maxLen at hc2
  have HX3 := Lib.hid (hx3); clear hx3
  have HRow := Lib.hid hrow; clear hrow
  obtain ⟨toks, tail, place, er⟩ := Rs
  simp only at HRow hc1 hc2 ⊢
  by_cases h3 : er = 0
  rotate_left
  · have h3b : ((er : Int) != 0) = true := by simp; omega
    have HF := Lib.hid (fusesT_other HN.out (fun h => h3 (by rw [HRs.out] at h; exact h.1)))
    go_wp2_with fail
    go_ret
    exact ⟨ret_bool HF.out.symm, HX3.out⟩
  subst h3
  by_cases h4 : toks.length = 2
  rotate_left
  · have h4b : ((toks.length : Int) != 2) = true := by simp; omega
    have HF := Lib.hid (fusesT_other HN.out (fun h => h4 (by rw [HRs.out] at h; exact h.2.1)))
    go_wp2_with fail
    go_ret
    exact ⟨ret_bool HF.out.symm, HX3.out⟩
  by_cases h5 : tail = []
  rotate_left
  · have h5b : (tail == []) = false := by simpa using h5
    have h5c : tail.isEmpty = false := by simpa using h5
    obtain ⟨t0, t1, rfl⟩ := list_two h4
    have HF := Lib.hid (fusesT_other HN.out (fun h => h5 (by rw [HRs.out] at h; exact h.2.2)))
    clear h5 h4
    go_wp2_with fail
    go_ret
    exact ⟨ret_bool HF.out.symm, HX3.out⟩
  subst h5
  obtain ⟨t0, t1, rfl⟩ := list_two h4
  clear h4
  obtain ⟨b0, off, rfl, hb0, p0, p1, p2⟩ := tokRow_at HRow.out (k := 0) (by simp)
  obtain ⟨b0', off', heq, _, q0, q1, q2⟩ := tokRow_at HRow.out (k := 1) (by simp)
  obtain ⟨rfl, rfl⟩ : b0 = b0' ∧ off = off' := by simpa using heq
  clear heq
  have HF := Lib.hid (fusesT_two HN.out (by rw [HRs.out]) (by rw [HRs.out]) (by rw [HRs.out]))
  simp only [Nat.zero_mul, Nat.one_mul, Nat.add_zero, List.getElem_cons_zero, List.getElem_cons_succ] at p0 p1 p2 q0 q1 q2
  cases g0 : (t0.lead == [])
  · skip
    have g0' : t0.lead.isEmpty = false := by simpa using g0
    go_wp2_with fail
    go_ret
    exact ⟨ret_bool (by rw [HF.out, g0]; rfl), HX3.out⟩
  have g0' : t0.lead.isEmpty = true := by simpa using g0
  cases g1 : (t0.text == a)
  · skip
    go_wp2_with fail
    go_ret
    exact ⟨ret_bool (by rw [HF.out, g0, g1]; rfl), HX3.out⟩
  cases g2 : (t1.lead == [])
  · skip
    have g2' : t1.lead.isEmpty = false := by simpa using g2
    go_wp2_with fail
    go_ret
    exact ⟨ret_bool (by rw [HF.out, g0, g1, g2]; rfl), HX3.out⟩
  have g2' : t1.lead.isEmpty = true := by simpa using g2
  cases g3 : (t1.text == b)
  all_goals
    go_wp2_with fail
    go_ret
    exact ⟨ret_bool (by rw [HF.out, g0, g1, g2, g3]; rfl), HX3.out⟩
set_option maxHeartbeats 2000000 in
theorem fusesR (a b : List UInt8) (w : World) (ha : a.length ≤ 140737488355328) (hb : b.length ≤ 140737488355328) : Calls Try.prog 36 #[.string ⟨a.toArray⟩, .string ⟨b.toArray⟩] w fun e w' => e = .returned (.bool (fusesT a b)) ∧ Ext w w' := by
  have hx := app_list
  obtain ⟨ka, hka⟩ : ∃ k, classT a = k := ⟨_, rfl⟩
  obtain ⟨kb, hkb⟩ : ∃ k, classT b = k := ⟨_, rfl⟩
  have HKa := Lib.hid hka
  have HKb := Lib.hid hkb
  clear hka hkb
  go_enter Try.func36, Try.ntmps36
  go_wp2_with fail
  refine (classR _ _ (by omega)).mono ?_
  rintro e1 w1 ⟨rfl, hx1⟩
  rw [HKa.out]
  have HX1 := Lib.hid hx1; clear hx1
  by_cases h1 : ka = 0
  · subst h1
    go_wp2_with fail
    go_ret
    exact ⟨ret_bool (fusesT_no (.inl HKa.out)).symm, HX1.out⟩
  have h1b : ((ka : Int) == 0) = false := by simp; omega
  go_wp2_with fail
  refine (classR _ _ (by omega)).mono ?_
  rintro e2 w2 ⟨rfl, hx2⟩
  rw [HKb.out]
  have HX2 := Lib.hid (HX1.out.trans hx2); clear hx2
  by_cases h2 : kb = 0
  · subst h2
    go_wp2_with fail
    go_ret
    exact ⟨ret_bool (fusesT_no (.inr HKb.out)).symm, HX2.out⟩
  have h2b : ((kb : Int) == 0) = false := by simp; omega
  have HN := Lib.hid (show ¬ (classT a = 0 ∨ classT b = 0) from by rw [HKa.out, HKb.out]; omega)
  obtain ⟨Rs, hRs⟩ : ∃ Rs, scan (a ++ b) = Rs := ⟨_, rfl⟩
  have HRs := Lib.hid hRs
  clear hRs
  go_wp2_with fail
  refine (scanR _ _ (by simp; omega)).mono ?_
  rintro e3 w3 ⟨v, rfl, htr, hx3⟩
  rw [HRs.out] at htr ⊢
  obtain ⟨A, c, rfl, hc1, hc2, hrow⟩ := htr
  unfold maxLen at hc2
  have HX3 := Lib.hid (HX2.out.trans hx3); clear hx3
  have HRow := Lib.hid hrow; clear hrow
  obtain ⟨toks, tail, place, er⟩ := Rs
  simp only at HRow hc1 hc2 ⊢
  by_cases h3 : er = 0
  rotate_left
  · have h3b : ((er : Int) != 0) = true := by simp; omega
    have HF := Lib.hid (fusesT_other HN.out (fun h => h3 (by rw [HRs.out] at h; exact h.1)))
    go_wp2_with fail
    go_ret
    exact ⟨ret_bool HF.out.symm, HX3.out⟩
  subst h3
  by_cases h4 : toks.length = 2
  rotate_left
  · have h4b : ((toks.length : Int) != 2) = true := by simp; omega
    have HF := Lib.hid (fusesT_other HN.out (fun h => h4 (by rw [HRs.out] at h; exact h.2.1)))
    go_wp2_with fail
    go_ret
    exact ⟨ret_bool HF.out.symm, HX3.out⟩
  by_cases h5 : tail = []
  rotate_left
  · have h5b : (tail == []) = false := by simpa using h5
    have h5c : tail.isEmpty = false := by simpa using h5
    obtain ⟨t0, t1, rfl⟩ := list_two h4
    have HF := Lib.hid (fusesT_other HN.out (fun h => h5 (by rw [HRs.out] at h; exact h.2.2)))
    clear h5 h4
    go_wp2_with fail
    go_ret
    exact ⟨ret_bool HF.out.symm, HX3.out⟩
  subst h5
  obtain ⟨t0, t1, rfl⟩ := list_two h4
  clear h4
  obtain ⟨b0, off, rfl, hb0, p0, p1, p2⟩ := tokRow_at HRow.out (k := 0) (by simp)
  obtain ⟨b0', off', heq, _, q0, q1, q2⟩ := tokRow_at HRow.out (k := 1) (by simp)
  obtain ⟨rfl, rfl⟩ : b0 = b0' ∧ off = off' := by simpa using heq
  clear heq
  have HF := Lib.hid (fusesT_two HN.out (by rw [HRs.out]) (by rw [HRs.out]) (by rw [HRs.out]))
  simp only [Nat.zero_mul, Nat.one_mul, Nat.add_zero, List.getElem_cons_zero, List.getElem_cons_succ] at p0 p1 p2 q0 q1 q2
  cases g1 : (t0.text == a)
  · skip
    go_wp2_with fail
    go_ret
    exact ⟨ret_bool (by rw [HF.out, g1]; simp), HX3.out⟩
  cases g0 : (t0.lead == [])
  · skip
    have g0' : t0.lead.isEmpty = false := by simpa using g0
    go_wp2_with fail
    go_ret
    exact ⟨ret_bool (by rw [HF.out, g1, g0]; simp), HX3.out⟩
  have g0' : t0.lead.isEmpty = true := by simpa using g0
  cases g3 : (t1.text == b)
  · skip
    go_wp2_with fail
    go_ret
    exact ⟨ret_bool (by rw [HF.out, g1, g0, g3]; simp), HX3.out⟩
  cases g2 : (t1.lead == [])
  all_goals
    have g2' := isEmpty_of g2
    go_wp2_with fail
    go_ret
    exact ⟨ret_bool (by rw [HF.out, g1, g0, g3, g2]; simp), HX3.out⟩
end Go.Proofs.Ythpjpngfghcmcaa
namespace Go.Proofs.Ythpjpngfghcmcaa
open Go.RowKit Lx Sx
set_option maxRecDepth 100000
set_option maxHeartbeats 4000000
def wordedT (k : Int) (s : List UInt8) : Bool :=
  if k = 1 ∨ k = 3 then classT s == 2
  else if k = 2 ∨ k = 4 ∨ k = 12 ∨ k = 20 then classT s == 1
  else if k = 9 then classT s == 2 || classT s == 4
  else if k = 16 then classT s == 1 || classT s == 3
  else if k = 10 then classT s == 5
  else if k = 11 then classT s == 6
  else if k = 21 then operB s
  else s == []
def suitsT (k : Int) (n i : Nat) (kk : Int) : Bool :=
  if k = 1 then kk == 2 || kk == 3
  else if k = 2 then (if (i : Int) = n - 1 then isExprB kk else if (i : Int) = n - 2 then isTypeB kk else kk == 4)
  else if k = 3 ∨ k = 4 ∨ k = 8 then isTypeB kk
  else if k = 16 then kk == 17
  else if k = 21 then isUnitB kk || (decide ((i : Int) = 0) && kk == 21)
  else isExprB kk
theorem calls_eq {P : Program} {f : FuncId} {args : Array Value} {w : World} {v : Ending} (h : Calls P f args w fun e w' => e = v ∧ w = w') : Calls P f args w fun e w' => e = v ∧ Chg [] w w' := h.mono fun _ _ ⟨a, b⟩ => ⟨a, b ▸ Chg.refl _ _⟩
theorem calls_ext {P : Program} {f : FuncId} {args : Array Value} {w : World} {v : Ending} (h : Calls P f args w fun e w' => e = v ∧ Ext w w') : Calls P f args w fun e w' => e = v ∧ Chg [] w w' := h.mono fun _ _ ⟨a, b⟩ => ⟨a, Chg.of_ext b []⟩
theorem operatorR {x : List UInt8} {w : World} : Calls Try.prog 71 [strV x].toArray w fun e w' => e = .returned (.bool (operB x)) ∧ Chg [] w w' := by
  refine rE 10 Try.func71 rfl rfl rfl ?_
  intro a hf
  have hE := Chg.refl [] w
  refine rR 15 hf rfl fun a hf => rB hf rfl (fun c hc => ex_eqS hf rfl rfl hc) ?_ ?_
  clear hf a; intro h5 a hf
  refine rR 15 hf rfl fun a hf => ?_
  exact rT (rs := [.tmp 2]) hf rfl ⟨_, _, rfl, rfl, rfl⟩ ⟨ret_b (by simp only [operB, h5]; rfl), hE⟩
  clear hf a; intro h5 a hf
  refine rR 6 hf rfl fun a hf => rB hf rfl (fun c hc => ex_eqS hf rfl rfl hc) ?_ ?_
  clear hf a; intro h6 a hf
  refine rR 15 hf rfl fun a hf => ?_
  exact rT (rs := [.tmp 2]) hf rfl ⟨_, _, rfl, rfl, rfl⟩ ⟨ret_b (by simp only [operB, h5, h6]; rfl), hE⟩
  clear hf a; intro h6 a hf
  refine rR 6 hf rfl fun a hf => rB hf rfl (fun c hc => ex_eqS hf rfl rfl hc) ?_ ?_
  clear hf a; intro h7 a hf
  refine rR 15 hf rfl fun a hf => ?_
  exact rT (rs := [.tmp 2]) hf rfl ⟨_, _, rfl, rfl, rfl⟩ ⟨ret_b (by simp only [operB, h5, h6, h7]; rfl), hE⟩
  clear hf a; intro h7 a hf
  refine rR 6 hf rfl fun a hf => rB hf rfl (fun c hc => ex_eqS hf rfl rfl hc) ?_ ?_
  clear hf a; intro h8 a hf
  refine rR 15 hf rfl fun a hf => ?_
  exact rT (rs := [.tmp 2]) hf rfl ⟨_, _, rfl, rfl, rfl⟩ ⟨ret_b (by simp only [operB, h5, h6, h7, h8]; rfl), hE⟩
  clear hf a; intro h8 a hf
  refine rR 5 hf rfl fun a hf => rB hf rfl (fun c hc => ex_eqS hf rfl rfl hc) ?_ ?_
  clear hf a; intro h9 a hf
  refine rR 12 hf rfl fun a hf => ?_
  exact rT (rs := [.tmp 2]) hf rfl ⟨_, _, rfl, rfl, rfl⟩ ⟨ret_b (by simp only [operB, h5, h6, h7, h8, h9]; rfl), hE⟩
  clear hf a; intro h9 a hf
  refine rR 13 hf rfl fun a hf => ?_
  exact rT (rs := [.tmp 2]) hf rfl ⟨_, _, rfl, rfl, rfl⟩ ⟨ret_b (by simp only [operB, h5, h6, h7, h8, h9]; rfl), hE⟩
theorem wordedL {k : Int} {x : List UInt8} {w : World} (hx0 : x.length ≤ 281474976710656) : Calls Try.prog 39 [.int .i64 k, strV x].toArray w fun e w' => e = .returned (.bool (wordedT k x)) ∧ Chg [] w w' := by
  refine rE 51 Try.func39 rfl rfl rfl ?_
  intro a hf
  have hE := Chg.refl [] w
  refine rR 8 hf rfl fun a hf => rC hf rfl rfl (by kernel_rfl) (calls_eq (classL x _ hx0)) ?_
  rintro _ w2 ⟨rfl, hx1⟩
  refine ⟨_, rfl, fun a hf => ?_⟩
  replace hE := hE.t0 hx1
  refine rR 13 hf rfl fun a hf => rB hf rfl (fun c hc => ex_eqI hf rfl rfl hc) ?_ ?_
  clear hf a; intro h10 a hf
  refine rR 10 hf rfl fun a hf => rB hf rfl (fun c hc => ex_eqI hf rfl rfl hc) ?_ ?_
  clear hf a; intro h13 a hf
  refine rR 6 hf rfl fun a hf => ?_
  exact rT (rs := [.tmp 4]) hf rfl ⟨_, _, rfl, rfl, rfl⟩ ⟨ret_b (by simp only [qA, qB, qC, qD, qE, qF, ne_eq, Int.not_lt, Int.not_le, Decidable.not_not] at h10 h13; simp [wordedT, h10, h13] <;> omega), hE⟩
  clear hf a; intro h13 a hf
  refine rR 6 hf rfl fun a hf => ?_
  exact rT (rs := [.tmp 4]) hf rfl ⟨_, _, rfl, rfl, rfl⟩ ⟨ret_b (by simp only [qA, qB, qC, qD, qE, qF, ne_eq, Int.not_lt, Int.not_le, Decidable.not_not] at h10 h13; simp [wordedT, h10, h13] <;> omega), hE⟩
  clear hf a; intro h10 a hf
  refine rR 5 hf rfl fun a hf => rB hf rfl (fun c hc => ex_eqI hf rfl rfl hc) ?_ ?_
  clear hf a; intro h11 a hf
  refine rR 7 hf rfl fun a hf => rB hf rfl (fun c hc => ex_eqI hf rfl rfl hc) ?_ ?_
  clear hf a; intro h13 a hf
  refine rR 6 hf rfl fun a hf => ?_
  exact rT (rs := [.tmp 4]) hf rfl ⟨_, _, rfl, rfl, rfl⟩ ⟨ret_b (by simp only [qA, qB, qC, qD, qE, qF, ne_eq, Int.not_lt, Int.not_le, Decidable.not_not] at h10 h11 h13; simp [wordedT, h10, h11, h13] <;> omega), hE⟩
  clear hf a; intro h13 a hf
  refine rR 6 hf rfl fun a hf => ?_
  exact rT (rs := [.tmp 4]) hf rfl ⟨_, _, rfl, rfl, rfl⟩ ⟨ret_b (by simp only [qA, qB, qC, qD, qE, qF, ne_eq, Int.not_lt, Int.not_le, Decidable.not_not] at h10 h11 h13; simp [wordedT, h10, h11, h13] <;> omega), hE⟩
  clear hf a; intro h11 a hf
  refine rR 7 hf rfl fun a hf => rB hf rfl (fun c hc => ex_eqI hf rfl rfl hc) ?_ ?_
  clear hf a; intro h15 a hf
  refine rR 10 hf rfl fun a hf => rB hf rfl (fun c hc => ex_eqI hf rfl rfl hc) ?_ ?_
  clear hf a; intro h20 a hf
  refine rR 6 hf rfl fun a hf => ?_
  exact rT (rs := [.tmp 4]) hf rfl ⟨_, _, rfl, rfl, rfl⟩ ⟨ret_b (by simp only [qA, qB, qC, qD, qE, qF, ne_eq, Int.not_lt, Int.not_le, Decidable.not_not] at h10 h11 h15 h20; simp [wordedT, h10, h11, h15, h20] <;> omega), hE⟩
  clear hf a; intro h20 a hf
  refine rR 6 hf rfl fun a hf => ?_
  exact rT (rs := [.tmp 4]) hf rfl ⟨_, _, rfl, rfl, rfl⟩ ⟨ret_b (by simp only [qA, qB, qC, qD, qE, qF, ne_eq, Int.not_lt, Int.not_le, Decidable.not_not] at h10 h11 h15 h20; simp [wordedT, h10, h11, h15, h20] <;> omega), hE⟩
  clear hf a; intro h15 a hf
  refine rR 6 hf rfl fun a hf => rB hf rfl (fun c hc => ex_eqI hf rfl rfl hc) ?_ ?_
  clear hf a; intro h16 a hf
  refine rR 10 hf rfl fun a hf => rB hf rfl (fun c hc => ex_eqI hf rfl rfl hc) ?_ ?_
  clear hf a; intro h20 a hf
  refine rR 6 hf rfl fun a hf => ?_
  exact rT (rs := [.tmp 4]) hf rfl ⟨_, _, rfl, rfl, rfl⟩ ⟨ret_b (by simp only [qA, qB, qC, qD, qE, qF, ne_eq, Int.not_lt, Int.not_le, Decidable.not_not] at h10 h11 h15 h16 h20; simp [wordedT, h10, h11, h15, h16, h20] <;> omega), hE⟩
  clear hf a; intro h20 a hf
  refine rR 6 hf rfl fun a hf => ?_
  exact rT (rs := [.tmp 4]) hf rfl ⟨_, _, rfl, rfl, rfl⟩ ⟨ret_b (by simp only [qA, qB, qC, qD, qE, qF, ne_eq, Int.not_lt, Int.not_le, Decidable.not_not] at h10 h11 h15 h16 h20; simp [wordedT, h10, h11, h15, h16, h20] <;> omega), hE⟩
  clear hf a; intro h16 a hf
  refine rR 6 hf rfl fun a hf => rB hf rfl (fun c hc => ex_eqI hf rfl rfl hc) ?_ ?_
  clear hf a; intro h17 a hf
  refine rR 10 hf rfl fun a hf => rB hf rfl (fun c hc => ex_eqI hf rfl rfl hc) ?_ ?_
  clear hf a; intro h20 a hf
  refine rR 6 hf rfl fun a hf => ?_
  exact rT (rs := [.tmp 4]) hf rfl ⟨_, _, rfl, rfl, rfl⟩ ⟨ret_b (by simp only [qA, qB, qC, qD, qE, qF, ne_eq, Int.not_lt, Int.not_le, Decidable.not_not] at h10 h11 h15 h16 h17 h20; simp [wordedT, h10, h11, h15, h16, h17, h20] <;> omega), hE⟩
  clear hf a; intro h20 a hf
  refine rR 6 hf rfl fun a hf => ?_
  exact rT (rs := [.tmp 4]) hf rfl ⟨_, _, rfl, rfl, rfl⟩ ⟨ret_b (by simp only [qA, qB, qC, qD, qE, qF, ne_eq, Int.not_lt, Int.not_le, Decidable.not_not] at h10 h11 h15 h16 h17 h20; simp [wordedT, h10, h11, h15, h16, h17, h20] <;> omega), hE⟩
  clear hf a; intro h17 a hf
  refine rR 5 hf rfl fun a hf => rB hf rfl (fun c hc => ex_eqI hf rfl rfl hc) ?_ ?_
  clear hf a; intro h18 a hf
  refine rR 7 hf rfl fun a hf => rB hf rfl (fun c hc => ex_eqI hf rfl rfl hc) ?_ ?_
  clear hf a; intro h20 a hf
  refine rR 6 hf rfl fun a hf => ?_
  exact rT (rs := [.tmp 4]) hf rfl ⟨_, _, rfl, rfl, rfl⟩ ⟨ret_b (by simp only [qA, qB, qC, qD, qE, qF, ne_eq, Int.not_lt, Int.not_le, Decidable.not_not] at h10 h11 h15 h16 h17 h18 h20; simp [wordedT, h10, h11, h15, h16, h17, h18, h20] <;> omega), hE⟩
  clear hf a; intro h20 a hf
  refine rR 6 hf rfl fun a hf => ?_
  exact rT (rs := [.tmp 4]) hf rfl ⟨_, _, rfl, rfl, rfl⟩ ⟨ret_b (by simp only [qA, qB, qC, qD, qE, qF, ne_eq, Int.not_lt, Int.not_le, Decidable.not_not] at h10 h11 h15 h16 h17 h18 h20; simp [wordedT, h10, h11, h15, h16, h17, h18, h20] <;> omega), hE⟩
  clear hf a; intro h18 a hf
  refine rR 6 hf rfl fun a hf => rB hf rfl (fun c hc => ex_eqI hf rfl rfl hc) ?_ ?_
  clear hf a; intro h22 a hf
  refine rR 7 hf rfl fun a hf => rB hf rfl (fun c hc => ex_eqI hf rfl rfl hc) ?_ ?_
  clear hf a; intro h24 a hf
  refine rR 10 hf rfl fun a hf => ?_
  exact rT (rs := [.tmp 4]) hf rfl ⟨_, _, rfl, rfl, rfl⟩ ⟨ret_b (by simp only [qA, qB, qC, qD, qE, qF, ne_eq, Int.not_lt, Int.not_le, Decidable.not_not] at h10 h11 h15 h16 h17 h18 h22 h24; simp [wordedT, h10, h11, h15, h16, h17, h18, h22, h24] <;> omega), hE⟩
  clear hf a; intro h24 a hf
  refine rR 2 hf rfl fun a hf => rB hf rfl (fun c hc => ex_eqI hf rfl rfl hc) ?_ ?_
  clear hf a; intro h27 a hf
  refine rR 7 hf rfl fun a hf => ?_
  exact rT (rs := [.tmp 4]) hf rfl ⟨_, _, rfl, rfl, rfl⟩ ⟨ret_b (by simp only [qA, qB, qC, qD, qE, qF, ne_eq, Int.not_lt, Int.not_le, Decidable.not_not] at h10 h11 h15 h16 h17 h18 h22 h24 h27; simp [wordedT, h10, h11, h15, h16, h17, h18, h22, h24, h27] <;> omega), hE⟩
  clear hf a; intro h27 a hf
  refine rR 7 hf rfl fun a hf => ?_
  exact rT (rs := [.tmp 4]) hf rfl ⟨_, _, rfl, rfl, rfl⟩ ⟨ret_b (by simp only [qA, qB, qC, qD, qE, qF, ne_eq, Int.not_lt, Int.not_le, Decidable.not_not] at h10 h11 h15 h16 h17 h18 h22 h24 h27; simp [wordedT, h10, h11, h15, h16, h17, h18, h22, h24, h27] <;> omega), hE⟩
  clear hf a; intro h22 a hf
  refine rR 6 hf rfl fun a hf => rB hf rfl (fun c hc => ex_eqI hf rfl rfl hc) ?_ ?_
  clear hf a; intro h30 a hf
  refine rR 7 hf rfl fun a hf => rB hf rfl (fun c hc => ex_eqI hf rfl rfl hc) ?_ ?_
  clear hf a; intro h32 a hf
  refine rR 10 hf rfl fun a hf => ?_
  exact rT (rs := [.tmp 4]) hf rfl ⟨_, _, rfl, rfl, rfl⟩ ⟨ret_b (by simp only [qA, qB, qC, qD, qE, qF, ne_eq, Int.not_lt, Int.not_le, Decidable.not_not] at h10 h11 h15 h16 h17 h18 h22 h30 h32; simp [wordedT, h10, h11, h15, h16, h17, h18, h22, h30, h32] <;> omega), hE⟩
  clear hf a; intro h32 a hf
  refine rR 2 hf rfl fun a hf => rB hf rfl (fun c hc => ex_eqI hf rfl rfl hc) ?_ ?_
  clear hf a; intro h35 a hf
  refine rR 7 hf rfl fun a hf => ?_
  exact rT (rs := [.tmp 4]) hf rfl ⟨_, _, rfl, rfl, rfl⟩ ⟨ret_b (by simp only [qA, qB, qC, qD, qE, qF, ne_eq, Int.not_lt, Int.not_le, Decidable.not_not] at h10 h11 h15 h16 h17 h18 h22 h30 h32 h35; simp [wordedT, h10, h11, h15, h16, h17, h18, h22, h30, h32, h35] <;> omega), hE⟩
  clear hf a; intro h35 a hf
  refine rR 7 hf rfl fun a hf => ?_
  exact rT (rs := [.tmp 4]) hf rfl ⟨_, _, rfl, rfl, rfl⟩ ⟨ret_b (by simp only [qA, qB, qC, qD, qE, qF, ne_eq, Int.not_lt, Int.not_le, Decidable.not_not] at h10 h11 h15 h16 h17 h18 h22 h30 h32 h35; simp [wordedT, h10, h11, h15, h16, h17, h18, h22, h30, h32, h35] <;> omega), hE⟩
  clear hf a; intro h30 a hf
  refine rR 6 hf rfl fun a hf => rB hf rfl (fun c hc => ex_eqI hf rfl rfl hc) ?_ ?_
  clear hf a; intro h38 a hf
  refine rR 7 hf rfl fun a hf => rB hf rfl (fun c hc => ex_eqI hf rfl rfl hc) ?_ ?_
  clear hf a; intro h40 a hf
  refine rR 6 hf rfl fun a hf => ?_
  exact rT (rs := [.tmp 4]) hf rfl ⟨_, _, rfl, rfl, rfl⟩ ⟨ret_b (by simp only [qA, qB, qC, qD, qE, qF, ne_eq, Int.not_lt, Int.not_le, Decidable.not_not] at h10 h11 h15 h16 h17 h18 h22 h30 h38 h40; simp [wordedT, h10, h11, h15, h16, h17, h18, h22, h30, h38, h40] <;> omega), hE⟩
  clear hf a; intro h40 a hf
  refine rR 6 hf rfl fun a hf => ?_
  exact rT (rs := [.tmp 4]) hf rfl ⟨_, _, rfl, rfl, rfl⟩ ⟨ret_b (by simp only [qA, qB, qC, qD, qE, qF, ne_eq, Int.not_lt, Int.not_le, Decidable.not_not] at h10 h11 h15 h16 h17 h18 h22 h30 h38 h40; simp [wordedT, h10, h11, h15, h16, h17, h18, h22, h30, h38, h40] <;> omega), hE⟩
  clear hf a; intro h38 a hf
  refine rR 6 hf rfl fun a hf => rB hf rfl (fun c hc => ex_eqI hf rfl rfl hc) ?_ ?_
  clear hf a; intro h42 a hf
  refine rR 7 hf rfl fun a hf => rB hf rfl (fun c hc => ex_eqI hf rfl rfl hc) ?_ ?_
  clear hf a; intro h44 a hf
  refine rR 6 hf rfl fun a hf => ?_
  exact rT (rs := [.tmp 4]) hf rfl ⟨_, _, rfl, rfl, rfl⟩ ⟨ret_b (by simp only [qA, qB, qC, qD, qE, qF, ne_eq, Int.not_lt, Int.not_le, Decidable.not_not] at h10 h11 h15 h16 h17 h18 h22 h30 h38 h42 h44; simp [wordedT, h10, h11, h15, h16, h17, h18, h22, h30, h38, h42, h44] <;> omega), hE⟩
  clear hf a; intro h44 a hf
  refine rR 6 hf rfl fun a hf => ?_
  exact rT (rs := [.tmp 4]) hf rfl ⟨_, _, rfl, rfl, rfl⟩ ⟨ret_b (by simp only [qA, qB, qC, qD, qE, qF, ne_eq, Int.not_lt, Int.not_le, Decidable.not_not] at h10 h11 h15 h16 h17 h18 h22 h30 h38 h42 h44; simp [wordedT, h10, h11, h15, h16, h17, h18, h22, h30, h38, h42, h44] <;> omega), hE⟩
  clear hf a; intro h42 a hf
  refine rR 6 hf rfl fun a hf => rB hf rfl (fun c hc => ex_eqI hf rfl rfl hc) ?_ ?_
  clear hf a; intro h46 a hf
  refine rR 7 hf rfl fun a hf => ?_
  rcases Bool.eq_false_or_eq_true (operB x) with hb | hb
  refine rC hf rfl rfl (by kernel_rfl) (bool_is (operatorL (x := x)) hb) ?_
  rintro _ w4 ⟨rfl, hx3⟩
  refine ⟨_, rfl, fun a hf => ?_⟩
  replace hE := hE.t0 hx3
  refine rR 6 hf rfl fun a hf => ?_
  exact rT (rs := [.tmp 4]) hf rfl ⟨_, _, rfl, rfl, rfl⟩ ⟨ret_b (by simp only [qA, qB, qC, qD, qE, qF, ne_eq, Int.not_lt, Int.not_le, Decidable.not_not] at h10 h11 h15 h16 h17 h18 h22 h30 h38 h42 h46; simp [wordedT, h10, h11, h15, h16, h17, h18, h22, h30, h38, h42, h46, hb] <;> omega), hE⟩
  refine rC hf rfl rfl (by kernel_rfl) (bool_is (operatorL (x := x)) hb) ?_
  rintro _ w5 ⟨rfl, hx3⟩
  refine ⟨_, rfl, fun a hf => ?_⟩
  replace hE := hE.t0 hx3
  refine rR 6 hf rfl fun a hf => ?_
  exact rT (rs := [.tmp 4]) hf rfl ⟨_, _, rfl, rfl, rfl⟩ ⟨ret_b (by simp only [qA, qB, qC, qD, qE, qF, ne_eq, Int.not_lt, Int.not_le, Decidable.not_not] at h10 h11 h15 h16 h17 h18 h22 h30 h38 h42 h46; simp [wordedT, h10, h11, h15, h16, h17, h18, h22, h30, h38, h42, h46, hb] <;> omega), hE⟩
  clear hf a; intro h46 a hf
  refine rR 10 hf rfl fun a hf => rB hf rfl (fun c hc => ex_eqS hf rfl rfl hc) ?_ ?_
  clear hf a; intro h50 a hf
  refine rR 4 hf rfl fun a hf => ?_
  exact rT (rs := [.tmp 4]) hf rfl ⟨_, _, rfl, rfl, rfl⟩ ⟨ret_b (by simp only [qA, qB, qC, qD, qE, qF, ne_eq, Int.not_lt, Int.not_le, Decidable.not_not] at h10 h11 h15 h16 h17 h18 h22 h30 h38 h42 h46 h50; simp [wordedT, h10, h11, h15, h16, h17, h18, h22, h30, h38, h42, h46, h50] <;> omega), hE⟩
  clear hf a; intro h50 a hf
  refine rR 4 hf rfl fun a hf => ?_
  exact rT (rs := [.tmp 4]) hf rfl ⟨_, _, rfl, rfl, rfl⟩ ⟨ret_b (by simp only [qA, qB, qC, qD, qE, qF, ne_eq, Int.not_lt, Int.not_le, Decidable.not_not] at h10 h11 h15 h16 h17 h18 h22 h30 h38 h42 h46 h50; simp [wordedT, h10, h11, h15, h16, h17, h18, h22, h30, h38, h42, h46, h50] <;> omega), hE⟩
theorem wordedR {k : Int} {x : List UInt8} {w : World} (hx0 : x.length ≤ 281474976710656) : Calls Try.prog 41 [.int .i64 k, strV x].toArray w fun e w' => e = .returned (.bool (wordedT k x)) ∧ Chg [] w w' := by
  refine rE 51 Try.func41 rfl rfl rfl ?_
  intro a hf
  have hE := Chg.refl [] w
  refine rR 8 hf rfl fun a hf => rC hf rfl rfl (by kernel_rfl) (calls_ext (classR x _ hx0)) ?_
  rintro _ w2 ⟨rfl, hx1⟩
  refine ⟨_, rfl, fun a hf => ?_⟩
  replace hE := hE.t0 hx1
  refine rR 13 hf rfl fun a hf => rB hf rfl (fun c hc => ex_eqI hf rfl rfl hc) ?_ ?_
  clear hf a; intro h10 a hf
  refine rR 10 hf rfl fun a hf => rB hf rfl (fun c hc => ex_eqI hf rfl rfl hc) ?_ ?_
  clear hf a; intro h13 a hf
  refine rR 6 hf rfl fun a hf => ?_
  exact rT (rs := [.tmp 4]) hf rfl ⟨_, _, rfl, rfl, rfl⟩ ⟨ret_b (by simp only [qA, qB, qC, qD, qE, qF, ne_eq, Int.not_lt, Int.not_le, Decidable.not_not] at h10 h13; simp [wordedT, h10, h13] <;> omega), hE⟩
  clear hf a; intro h13 a hf
  refine rR 6 hf rfl fun a hf => ?_
  exact rT (rs := [.tmp 4]) hf rfl ⟨_, _, rfl, rfl, rfl⟩ ⟨ret_b (by simp only [qA, qB, qC, qD, qE, qF, ne_eq, Int.not_lt, Int.not_le, Decidable.not_not] at h10 h13; simp [wordedT, h10, h13] <;> omega), hE⟩
  clear hf a; intro h10 a hf
  refine rR 5 hf rfl fun a hf => rB hf rfl (fun c hc => ex_eqI hf rfl rfl hc) ?_ ?_
  clear hf a; intro h11 a hf
  refine rR 7 hf rfl fun a hf => rB hf rfl (fun c hc => ex_eqI hf rfl rfl hc) ?_ ?_
  clear hf a; intro h13 a hf
  refine rR 6 hf rfl fun a hf => ?_
  exact rT (rs := [.tmp 4]) hf rfl ⟨_, _, rfl, rfl, rfl⟩ ⟨ret_b (by simp only [qA, qB, qC, qD, qE, qF, ne_eq, Int.not_lt, Int.not_le, Decidable.not_not] at h10 h11 h13; simp [wordedT, h10, h11, h13] <;> omega), hE⟩
  clear hf a; intro h13 a hf
  refine rR 6 hf rfl fun a hf => ?_
  exact rT (rs := [.tmp 4]) hf rfl ⟨_, _, rfl, rfl, rfl⟩ ⟨ret_b (by simp only [qA, qB, qC, qD, qE, qF, ne_eq, Int.not_lt, Int.not_le, Decidable.not_not] at h10 h11 h13; simp [wordedT, h10, h11, h13] <;> omega), hE⟩
  clear hf a; intro h11 a hf
  refine rR 7 hf rfl fun a hf => rB hf rfl (fun c hc => ex_eqI hf rfl rfl hc) ?_ ?_
  clear hf a; intro h15 a hf
  refine rR 10 hf rfl fun a hf => rB hf rfl (fun c hc => ex_eqI hf rfl rfl hc) ?_ ?_
  clear hf a; intro h20 a hf
  refine rR 6 hf rfl fun a hf => ?_
  exact rT (rs := [.tmp 4]) hf rfl ⟨_, _, rfl, rfl, rfl⟩ ⟨ret_b (by simp only [qA, qB, qC, qD, qE, qF, ne_eq, Int.not_lt, Int.not_le, Decidable.not_not] at h10 h11 h15 h20; simp [wordedT, h10, h11, h15, h20] <;> omega), hE⟩
  clear hf a; intro h20 a hf
  refine rR 6 hf rfl fun a hf => ?_
  exact rT (rs := [.tmp 4]) hf rfl ⟨_, _, rfl, rfl, rfl⟩ ⟨ret_b (by simp only [qA, qB, qC, qD, qE, qF, ne_eq, Int.not_lt, Int.not_le, Decidable.not_not] at h10 h11 h15 h20; simp [wordedT, h10, h11, h15, h20] <;> omega), hE⟩
  clear hf a; intro h15 a hf
  refine rR 6 hf rfl fun a hf => rB hf rfl (fun c hc => ex_eqI hf rfl rfl hc) ?_ ?_
  clear hf a; intro h16 a hf
  refine rR 10 hf rfl fun a hf => rB hf rfl (fun c hc => ex_eqI hf rfl rfl hc) ?_ ?_
  clear hf a; intro h20 a hf
  refine rR 6 hf rfl fun a hf => ?_
  exact rT (rs := [.tmp 4]) hf rfl ⟨_, _, rfl, rfl, rfl⟩ ⟨ret_b (by simp only [qA, qB, qC, qD, qE, qF, ne_eq, Int.not_lt, Int.not_le, Decidable.not_not] at h10 h11 h15 h16 h20; simp [wordedT, h10, h11, h15, h16, h20] <;> omega), hE⟩
  clear hf a; intro h20 a hf
  refine rR 6 hf rfl fun a hf => ?_
  exact rT (rs := [.tmp 4]) hf rfl ⟨_, _, rfl, rfl, rfl⟩ ⟨ret_b (by simp only [qA, qB, qC, qD, qE, qF, ne_eq, Int.not_lt, Int.not_le, Decidable.not_not] at h10 h11 h15 h16 h20; simp [wordedT, h10, h11, h15, h16, h20] <;> omega), hE⟩
  clear hf a; intro h16 a hf
  refine rR 6 hf rfl fun a hf => rB hf rfl (fun c hc => ex_eqI hf rfl rfl hc) ?_ ?_
  clear hf a; intro h17 a hf
  refine rR 10 hf rfl fun a hf => rB hf rfl (fun c hc => ex_eqI hf rfl rfl hc) ?_ ?_
  clear hf a; intro h20 a hf
  refine rR 6 hf rfl fun a hf => ?_
  exact rT (rs := [.tmp 4]) hf rfl ⟨_, _, rfl, rfl, rfl⟩ ⟨ret_b (by simp only [qA, qB, qC, qD, qE, qF, ne_eq, Int.not_lt, Int.not_le, Decidable.not_not] at h10 h11 h15 h16 h17 h20; simp [wordedT, h10, h11, h15, h16, h17, h20] <;> omega), hE⟩
  clear hf a; intro h20 a hf
  refine rR 6 hf rfl fun a hf => ?_
  exact rT (rs := [.tmp 4]) hf rfl ⟨_, _, rfl, rfl, rfl⟩ ⟨ret_b (by simp only [qA, qB, qC, qD, qE, qF, ne_eq, Int.not_lt, Int.not_le, Decidable.not_not] at h10 h11 h15 h16 h17 h20; simp [wordedT, h10, h11, h15, h16, h17, h20] <;> omega), hE⟩
  clear hf a; intro h17 a hf
  refine rR 5 hf rfl fun a hf => rB hf rfl (fun c hc => ex_eqI hf rfl rfl hc) ?_ ?_
  clear hf a; intro h18 a hf
  refine rR 7 hf rfl fun a hf => rB hf rfl (fun c hc => ex_eqI hf rfl rfl hc) ?_ ?_
  clear hf a; intro h20 a hf
  refine rR 6 hf rfl fun a hf => ?_
  exact rT (rs := [.tmp 4]) hf rfl ⟨_, _, rfl, rfl, rfl⟩ ⟨ret_b (by simp only [qA, qB, qC, qD, qE, qF, ne_eq, Int.not_lt, Int.not_le, Decidable.not_not] at h10 h11 h15 h16 h17 h18 h20; simp [wordedT, h10, h11, h15, h16, h17, h18, h20] <;> omega), hE⟩
  clear hf a; intro h20 a hf
  refine rR 6 hf rfl fun a hf => ?_
  exact rT (rs := [.tmp 4]) hf rfl ⟨_, _, rfl, rfl, rfl⟩ ⟨ret_b (by simp only [qA, qB, qC, qD, qE, qF, ne_eq, Int.not_lt, Int.not_le, Decidable.not_not] at h10 h11 h15 h16 h17 h18 h20; simp [wordedT, h10, h11, h15, h16, h17, h18, h20] <;> omega), hE⟩
  clear hf a; intro h18 a hf
  refine rR 6 hf rfl fun a hf => rB hf rfl (fun c hc => ex_eqI hf rfl rfl hc) ?_ ?_
  clear hf a; intro h22 a hf
  refine rR 7 hf rfl fun a hf => rB hf rfl (fun c hc => ex_eqI hf rfl rfl hc) ?_ ?_
  clear hf a; intro h24 a hf
  refine rR 10 hf rfl fun a hf => ?_
  exact rT (rs := [.tmp 4]) hf rfl ⟨_, _, rfl, rfl, rfl⟩ ⟨ret_b (by simp only [qA, qB, qC, qD, qE, qF, ne_eq, Int.not_lt, Int.not_le, Decidable.not_not] at h10 h11 h15 h16 h17 h18 h22 h24; simp [wordedT, h10, h11, h15, h16, h17, h18, h22, h24] <;> omega), hE⟩
  clear hf a; intro h24 a hf
  refine rR 2 hf rfl fun a hf => rB hf rfl (fun c hc => ex_eqI hf rfl rfl hc) ?_ ?_
  clear hf a; intro h27 a hf
  refine rR 7 hf rfl fun a hf => ?_
  exact rT (rs := [.tmp 4]) hf rfl ⟨_, _, rfl, rfl, rfl⟩ ⟨ret_b (by simp only [qA, qB, qC, qD, qE, qF, ne_eq, Int.not_lt, Int.not_le, Decidable.not_not] at h10 h11 h15 h16 h17 h18 h22 h24 h27; simp [wordedT, h10, h11, h15, h16, h17, h18, h22, h24, h27] <;> omega), hE⟩
  clear hf a; intro h27 a hf
  refine rR 7 hf rfl fun a hf => ?_
  exact rT (rs := [.tmp 4]) hf rfl ⟨_, _, rfl, rfl, rfl⟩ ⟨ret_b (by simp only [qA, qB, qC, qD, qE, qF, ne_eq, Int.not_lt, Int.not_le, Decidable.not_not] at h10 h11 h15 h16 h17 h18 h22 h24 h27; simp [wordedT, h10, h11, h15, h16, h17, h18, h22, h24, h27] <;> omega), hE⟩
  clear hf a; intro h22 a hf
  refine rR 6 hf rfl fun a hf => rB hf rfl (fun c hc => ex_eqI hf rfl rfl hc) ?_ ?_
  clear hf a; intro h30 a hf
  refine rR 7 hf rfl fun a hf => rB hf rfl (fun c hc => ex_eqI hf rfl rfl hc) ?_ ?_
  clear hf a; intro h32 a hf
  refine rR 10 hf rfl fun a hf => ?_
  exact rT (rs := [.tmp 4]) hf rfl ⟨_, _, rfl, rfl, rfl⟩ ⟨ret_b (by simp only [qA, qB, qC, qD, qE, qF, ne_eq, Int.not_lt, Int.not_le, Decidable.not_not] at h10 h11 h15 h16 h17 h18 h22 h30 h32; simp [wordedT, h10, h11, h15, h16, h17, h18, h22, h30, h32] <;> omega), hE⟩
  clear hf a; intro h32 a hf
  refine rR 2 hf rfl fun a hf => rB hf rfl (fun c hc => ex_eqI hf rfl rfl hc) ?_ ?_
  clear hf a; intro h35 a hf
  refine rR 7 hf rfl fun a hf => ?_
  exact rT (rs := [.tmp 4]) hf rfl ⟨_, _, rfl, rfl, rfl⟩ ⟨ret_b (by simp only [qA, qB, qC, qD, qE, qF, ne_eq, Int.not_lt, Int.not_le, Decidable.not_not] at h10 h11 h15 h16 h17 h18 h22 h30 h32 h35; simp [wordedT, h10, h11, h15, h16, h17, h18, h22, h30, h32, h35] <;> omega), hE⟩
  clear hf a; intro h35 a hf
  refine rR 7 hf rfl fun a hf => ?_
  exact rT (rs := [.tmp 4]) hf rfl ⟨_, _, rfl, rfl, rfl⟩ ⟨ret_b (by simp only [qA, qB, qC, qD, qE, qF, ne_eq, Int.not_lt, Int.not_le, Decidable.not_not] at h10 h11 h15 h16 h17 h18 h22 h30 h32 h35; simp [wordedT, h10, h11, h15, h16, h17, h18, h22, h30, h32, h35] <;> omega), hE⟩
  clear hf a; intro h30 a hf
  refine rR 6 hf rfl fun a hf => rB hf rfl (fun c hc => ex_eqI hf rfl rfl hc) ?_ ?_
  clear hf a; intro h38 a hf
  refine rR 7 hf rfl fun a hf => rB hf rfl (fun c hc => ex_eqI hf rfl rfl hc) ?_ ?_
  clear hf a; intro h40 a hf
  refine rR 6 hf rfl fun a hf => ?_
  exact rT (rs := [.tmp 4]) hf rfl ⟨_, _, rfl, rfl, rfl⟩ ⟨ret_b (by simp only [qA, qB, qC, qD, qE, qF, ne_eq, Int.not_lt, Int.not_le, Decidable.not_not] at h10 h11 h15 h16 h17 h18 h22 h30 h38 h40; simp [wordedT, h10, h11, h15, h16, h17, h18, h22, h30, h38, h40] <;> omega), hE⟩
  clear hf a; intro h40 a hf
  refine rR 6 hf rfl fun a hf => ?_
  exact rT (rs := [.tmp 4]) hf rfl ⟨_, _, rfl, rfl, rfl⟩ ⟨ret_b (by simp only [qA, qB, qC, qD, qE, qF, ne_eq, Int.not_lt, Int.not_le, Decidable.not_not] at h10 h11 h15 h16 h17 h18 h22 h30 h38 h40; simp [wordedT, h10, h11, h15, h16, h17, h18, h22, h30, h38, h40] <;> omega), hE⟩
  clear hf a; intro h38 a hf
  refine rR 6 hf rfl fun a hf => rB hf rfl (fun c hc => ex_eqI hf rfl rfl hc) ?_ ?_
  clear hf a; intro h42 a hf
  refine rR 7 hf rfl fun a hf => rB hf rfl (fun c hc => ex_eqI hf rfl rfl hc) ?_ ?_
  clear hf a; intro h44 a hf
  refine rR 6 hf rfl fun a hf => ?_
  exact rT (rs := [.tmp 4]) hf rfl ⟨_, _, rfl, rfl, rfl⟩ ⟨ret_b (by simp only [qA, qB, qC, qD, qE, qF, ne_eq, Int.not_lt, Int.not_le, Decidable.not_not] at h10 h11 h15 h16 h17 h18 h22 h30 h38 h42 h44; simp [wordedT, h10, h11, h15, h16, h17, h18, h22, h30, h38, h42, h44] <;> omega), hE⟩
  clear hf a; intro h44 a hf
  refine rR 6 hf rfl fun a hf => ?_
  exact rT (rs := [.tmp 4]) hf rfl ⟨_, _, rfl, rfl, rfl⟩ ⟨ret_b (by simp only [qA, qB, qC, qD, qE, qF, ne_eq, Int.not_lt, Int.not_le, Decidable.not_not] at h10 h11 h15 h16 h17 h18 h22 h30 h38 h42 h44; simp [wordedT, h10, h11, h15, h16, h17, h18, h22, h30, h38, h42, h44] <;> omega), hE⟩
  clear hf a; intro h42 a hf
  refine rR 6 hf rfl fun a hf => rB hf rfl (fun c hc => ex_eqI hf rfl rfl hc) ?_ ?_
  clear hf a; intro h46 a hf
  refine rR 7 hf rfl fun a hf => ?_
  rcases Bool.eq_false_or_eq_true (operB x) with hb | hb
  refine rC hf rfl rfl (by kernel_rfl) (bool_is (operatorR (x := x)) hb) ?_
  rintro _ w4 ⟨rfl, hx3⟩
  refine ⟨_, rfl, fun a hf => ?_⟩
  replace hE := hE.t0 hx3
  refine rR 6 hf rfl fun a hf => ?_
  exact rT (rs := [.tmp 4]) hf rfl ⟨_, _, rfl, rfl, rfl⟩ ⟨ret_b (by simp only [qA, qB, qC, qD, qE, qF, ne_eq, Int.not_lt, Int.not_le, Decidable.not_not] at h10 h11 h15 h16 h17 h18 h22 h30 h38 h42 h46; simp [wordedT, h10, h11, h15, h16, h17, h18, h22, h30, h38, h42, h46, hb] <;> omega), hE⟩
  refine rC hf rfl rfl (by kernel_rfl) (bool_is (operatorR (x := x)) hb) ?_
  rintro _ w5 ⟨rfl, hx3⟩
  refine ⟨_, rfl, fun a hf => ?_⟩
  replace hE := hE.t0 hx3
  refine rR 6 hf rfl fun a hf => ?_
  exact rT (rs := [.tmp 4]) hf rfl ⟨_, _, rfl, rfl, rfl⟩ ⟨ret_b (by simp only [qA, qB, qC, qD, qE, qF, ne_eq, Int.not_lt, Int.not_le, Decidable.not_not] at h10 h11 h15 h16 h17 h18 h22 h30 h38 h42 h46; simp [wordedT, h10, h11, h15, h16, h17, h18, h22, h30, h38, h42, h46, hb] <;> omega), hE⟩
  clear hf a; intro h46 a hf
  refine rR 10 hf rfl fun a hf => rB hf rfl (fun c hc => ex_eqS hf rfl rfl hc) ?_ ?_
  clear hf a; intro h50 a hf
  refine rR 4 hf rfl fun a hf => ?_
  exact rT (rs := [.tmp 4]) hf rfl ⟨_, _, rfl, rfl, rfl⟩ ⟨ret_b (by simp only [qA, qB, qC, qD, qE, qF, ne_eq, Int.not_lt, Int.not_le, Decidable.not_not] at h10 h11 h15 h16 h17 h18 h22 h30 h38 h42 h46 h50; simp [wordedT, h10, h11, h15, h16, h17, h18, h22, h30, h38, h42, h46, h50] <;> omega), hE⟩
  clear hf a; intro h50 a hf
  refine rR 4 hf rfl fun a hf => ?_
  exact rT (rs := [.tmp 4]) hf rfl ⟨_, _, rfl, rfl, rfl⟩ ⟨ret_b (by simp only [qA, qB, qC, qD, qE, qF, ne_eq, Int.not_lt, Int.not_le, Decidable.not_not] at h10 h11 h15 h16 h17 h18 h22 h30 h38 h42 h46 h50; simp [wordedT, h10, h11, h15, h16, h17, h18, h22, h30, h38, h42, h46, h50] <;> omega), hE⟩
theorem suitsL {k : Int} {tx : List UInt8} {A : Option Addr} {ln m kb ko n c i : Nat} {kk : Int} {w : World} (hi : i < n) (hn : n ≤ 1000000000) (lt_kb : kb < w.heap.size) (hK : w.cell? ⟨kb, ko + i * 4, none⟩ = some (.int .i64 kk)) : Calls Try.prog 40 [.agg #[.int .i64 k, strV tx, .slice A ln m, .slice (some ⟨kb, ko, none⟩) n c], .int .i64 (i : Nat)].toArray w fun e w' => e = .returned (.bool (suitsT k n i kk)) ∧ Chg [] w w' := by
  refine rE 67 Try.func40 rfl rfl rfl ?_
  intro a hf
  have hE := Chg.refl [] w
  refine rR 2 hf rfl fun a hf => ?_
  obtain ⟨w1, b2, he, hB3, hx4, eb5, lb6⟩ := ef_box (P := Try.prog) (t := 26) (x := (.tmp 0)) hf rfl rfl w 0
  refine rV hf rfl he fun a hf => ?_
  have ne_kb_b2 : kb ≠ b2 := ne_new lt_kb eb5
  have ge_b2 := ge_new hE eb5
  replace hK := (hx4.cell lt_kb nm0).trans hK
  replace lt_kb := hx4.lt lt_kb
  replace hE := hE.t0 hx4
  clear eb5 lb6
  refine rR 6 hf rfl fun a hf => rV hf rfl (ex_loadB hf rfl (by kernel_rfl) hB3 rfl) fun a hf => rR 1 hf rfl fun a hf => rV hf rfl (ex_index (sz := 4) (k := i) (r := ko + i * 4) hf Try.underlying24 (by kernel_rfl) rfl rfl rfl hi rfl) fun a hf => rR 1 hf rfl fun a hf => rV hf rfl (ex_load hf rfl (by kernel_rfl) hK) fun a hf => rR 7 hf rfl fun a hf => rV hf rfl (ex_loadB hf rfl (by kernel_rfl) hB3 rfl) fun a hf => rR 5 hf rfl fun a hf => rB hf rfl (fun c hc => ex_eqI hf rfl rfl hc) ?_ ?_
  clear hf a; intro h15 a hf
  refine rR 7 hf rfl fun a hf => rB hf rfl (fun c hc => ex_eqI hf rfl rfl hc) ?_ ?_
  clear hf a; intro h17 a hf
  refine rR 10 hf rfl fun a hf => ?_
  exact rT (rs := [.tmp 4]) hf rfl ⟨_, _, rfl, rfl, rfl⟩ ⟨ret_b (by simp only [qA, qB, qC, qD, qE, qF, ne_eq, Int.not_lt, Int.not_le, Decidable.not_not] at h15 h17; simp [suitsT, h15, h17] <;> omega), hE⟩
  clear hf a; intro h17 a hf
  refine rR 2 hf rfl fun a hf => rB hf rfl (fun c hc => ex_eqI hf rfl rfl hc) ?_ ?_
  clear hf a; intro h20 a hf
  refine rR 7 hf rfl fun a hf => ?_
  exact rT (rs := [.tmp 4]) hf rfl ⟨_, _, rfl, rfl, rfl⟩ ⟨ret_b (by simp only [qA, qB, qC, qD, qE, qF, ne_eq, Int.not_lt, Int.not_le, Decidable.not_not] at h15 h17 h20; simp [suitsT, h15, h17, h20] <;> omega), hE⟩
  clear hf a; intro h20 a hf
  refine rR 7 hf rfl fun a hf => ?_
  exact rT (rs := [.tmp 4]) hf rfl ⟨_, _, rfl, rfl, rfl⟩ ⟨ret_b (by simp only [qA, qB, qC, qD, qE, qF, ne_eq, Int.not_lt, Int.not_le, Decidable.not_not] at h15 h17 h20; simp [suitsT, h15, h17, h20] <;> omega), hE⟩
  clear hf a; intro h15 a hf
  refine rR 6 hf rfl fun a hf => rB hf rfl (fun c hc => ex_eqI hf rfl rfl hc) ?_ ?_
  clear hf a; intro h23 a hf
  refine rR 14 hf rfl fun a hf => rV hf rfl (ex_loadB hf rfl (by kernel_rfl) hB3 rfl) fun a hf => rV hf rfl (ex_len hf Try.underlying24 rfl) fun a hf => rV hf rfl (ex_subI hf rfl rfl rfl (by omega)) fun a hf => rB hf rfl (fun c hc => ex_eqI hf rfl rfl hc) ?_ ?_
  clear hf a; intro h30 a hf
  refine rR 7 hf rfl fun a hf => ?_
  rcases Bool.eq_false_or_eq_true (isExprB kk) with hbe | hbe
  refine rC hf rfl rfl (by kernel_rfl) (bool_is (isExprL (k := kk)) hbe) ?_
  rintro _ w8 ⟨rfl, hx7⟩
  refine ⟨_, rfl, fun a hf => ?_⟩
  replace hB3 := hB3.c0 hx7
  replace hK := (hx7.cell lt_kb nm0).trans hK
  replace lt_kb := hx7.lt lt_kb
  replace hE := hE.t0 hx7
  refine rR 8 hf rfl fun a hf => ?_
  exact rT (rs := [.tmp 4]) hf rfl ⟨_, _, rfl, rfl, rfl⟩ ⟨ret_b (by simp only [qA, qB, qC, qD, qE, qF, ne_eq, Int.not_lt, Int.not_le, Decidable.not_not] at h15 h23 h30; simp [suitsT, h15, h23, h30, hbe] <;> omega), hE⟩
  refine rC hf rfl rfl (by kernel_rfl) (bool_is (isExprL (k := kk)) hbe) ?_
  rintro _ w9 ⟨rfl, hx7⟩
  refine ⟨_, rfl, fun a hf => ?_⟩
  replace hB3 := hB3.c0 hx7
  replace hK := (hx7.cell lt_kb nm0).trans hK
  replace lt_kb := hx7.lt lt_kb
  replace hE := hE.t0 hx7
  refine rR 8 hf rfl fun a hf => ?_
  exact rT (rs := [.tmp 4]) hf rfl ⟨_, _, rfl, rfl, rfl⟩ ⟨ret_b (by simp only [qA, qB, qC, qD, qE, qF, ne_eq, Int.not_lt, Int.not_le, Decidable.not_not] at h15 h23 h30; simp [suitsT, h15, h23, h30, hbe] <;> omega), hE⟩
  clear hf a; intro h30 a hf
  refine rR 7 hf rfl fun a hf => rV hf rfl (ex_loadB hf rfl (by kernel_rfl) hB3 rfl) fun a hf => rV hf rfl (ex_len hf Try.underlying24 rfl) fun a hf => rV hf rfl (ex_subI hf rfl rfl rfl (by omega)) fun a hf => rB hf rfl (fun c hc => ex_eqI hf rfl rfl hc) ?_ ?_
  clear hf a; intro h38 a hf
  refine rR 7 hf rfl fun a hf => ?_
  rcases Bool.eq_false_or_eq_true (isTypeB kk) with hbt | hbt
  refine rC hf rfl rfl (by kernel_rfl) (bool_is (isTypeL (k := kk)) hbt) ?_
  rintro _ w11 ⟨rfl, hx10⟩
  refine ⟨_, rfl, fun a hf => ?_⟩
  replace hB3 := hB3.c0 hx10
  replace hK := (hx10.cell lt_kb nm0).trans hK
  replace lt_kb := hx10.lt lt_kb
  replace hE := hE.t0 hx10
  refine rR 8 hf rfl fun a hf => ?_
  exact rT (rs := [.tmp 4]) hf rfl ⟨_, _, rfl, rfl, rfl⟩ ⟨ret_b (by simp only [qA, qB, qC, qD, qE, qF, ne_eq, Int.not_lt, Int.not_le, Decidable.not_not] at h15 h23 h30 h38; simp [suitsT, h15, h23, h30, h38, hbt] <;> omega), hE⟩
  refine rC hf rfl rfl (by kernel_rfl) (bool_is (isTypeL (k := kk)) hbt) ?_
  rintro _ w12 ⟨rfl, hx10⟩
  refine ⟨_, rfl, fun a hf => ?_⟩
  replace hB3 := hB3.c0 hx10
  replace hK := (hx10.cell lt_kb nm0).trans hK
  replace lt_kb := hx10.lt lt_kb
  replace hE := hE.t0 hx10
  refine rR 8 hf rfl fun a hf => ?_
  exact rT (rs := [.tmp 4]) hf rfl ⟨_, _, rfl, rfl, rfl⟩ ⟨ret_b (by simp only [qA, qB, qC, qD, qE, qF, ne_eq, Int.not_lt, Int.not_le, Decidable.not_not] at h15 h23 h30 h38; simp [suitsT, h15, h23, h30, h38, hbt] <;> omega), hE⟩
  clear hf a; intro h38 a hf
  refine rR 10 hf rfl fun a hf => rB hf rfl (fun c hc => ex_eqI hf rfl rfl hc) ?_ ?_
  clear hf a; intro h42 a hf
  refine rR 6 hf rfl fun a hf => ?_
  exact rT (rs := [.tmp 4]) hf rfl ⟨_, _, rfl, rfl, rfl⟩ ⟨ret_b (by simp only [qA, qB, qC, qD, qE, qF, ne_eq, Int.not_lt, Int.not_le, Decidable.not_not] at h15 h23 h30 h38 h42; simp [suitsT, h15, h23, h30, h38, h42] <;> omega), hE⟩
  clear hf a; intro h42 a hf
  refine rR 6 hf rfl fun a hf => ?_
  exact rT (rs := [.tmp 4]) hf rfl ⟨_, _, rfl, rfl, rfl⟩ ⟨ret_b (by simp only [qA, qB, qC, qD, qE, qF, ne_eq, Int.not_lt, Int.not_le, Decidable.not_not] at h15 h23 h30 h38 h42; simp [suitsT, h15, h23, h30, h38, h42] <;> omega), hE⟩
  clear hf a; intro h23 a hf
  refine rR 7 hf rfl fun a hf => rB hf rfl (fun c hc => ex_eqI hf rfl rfl hc) ?_ ?_
  clear hf a; intro h44 a hf
  refine rR 10 hf rfl fun a hf => ?_
  rcases Bool.eq_false_or_eq_true (isTypeB kk) with hbt | hbt
  refine rC hf rfl rfl (by kernel_rfl) (bool_is (isTypeL (k := kk)) hbt) ?_
  rintro _ w14 ⟨rfl, hx13⟩
  refine ⟨_, rfl, fun a hf => ?_⟩
  replace hB3 := hB3.c0 hx13
  replace hK := (hx13.cell lt_kb nm0).trans hK
  replace lt_kb := hx13.lt lt_kb
  replace hE := hE.t0 hx13
  refine rR 6 hf rfl fun a hf => ?_
  exact rT (rs := [.tmp 4]) hf rfl ⟨_, _, rfl, rfl, rfl⟩ ⟨ret_b (by simp only [qA, qB, qC, qD, qE, qF, ne_eq, Int.not_lt, Int.not_le, Decidable.not_not] at h15 h23 h44; simp [suitsT, h15, h23, h44, hbt] <;> omega), hE⟩
  refine rC hf rfl rfl (by kernel_rfl) (bool_is (isTypeL (k := kk)) hbt) ?_
  rintro _ w15 ⟨rfl, hx13⟩
  refine ⟨_, rfl, fun a hf => ?_⟩
  replace hB3 := hB3.c0 hx13
  replace hK := (hx13.cell lt_kb nm0).trans hK
  replace lt_kb := hx13.lt lt_kb
  replace hE := hE.t0 hx13
  refine rR 6 hf rfl fun a hf => ?_
  exact rT (rs := [.tmp 4]) hf rfl ⟨_, _, rfl, rfl, rfl⟩ ⟨ret_b (by simp only [qA, qB, qC, qD, qE, qF, ne_eq, Int.not_lt, Int.not_le, Decidable.not_not] at h15 h23 h44; simp [suitsT, h15, h23, h44, hbt] <;> omega), hE⟩
  clear hf a; intro h44 a hf
  refine rR 6 hf rfl fun a hf => rB hf rfl (fun c hc => ex_eqI hf rfl rfl hc) ?_ ?_
  clear hf a; intro h45 a hf
  refine rR 10 hf rfl fun a hf => ?_
  rcases Bool.eq_false_or_eq_true (isTypeB kk) with hbt | hbt
  refine rC hf rfl rfl (by kernel_rfl) (bool_is (isTypeL (k := kk)) hbt) ?_
  rintro _ w17 ⟨rfl, hx16⟩
  refine ⟨_, rfl, fun a hf => ?_⟩
  replace hB3 := hB3.c0 hx16
  replace hK := (hx16.cell lt_kb nm0).trans hK
  replace lt_kb := hx16.lt lt_kb
  replace hE := hE.t0 hx16
  refine rR 6 hf rfl fun a hf => ?_
  exact rT (rs := [.tmp 4]) hf rfl ⟨_, _, rfl, rfl, rfl⟩ ⟨ret_b (by simp only [qA, qB, qC, qD, qE, qF, ne_eq, Int.not_lt, Int.not_le, Decidable.not_not] at h15 h23 h44 h45; simp [suitsT, h15, h23, h44, h45, hbt] <;> omega), hE⟩
  refine rC hf rfl rfl (by kernel_rfl) (bool_is (isTypeL (k := kk)) hbt) ?_
  rintro _ w18 ⟨rfl, hx16⟩
  refine ⟨_, rfl, fun a hf => ?_⟩
  replace hB3 := hB3.c0 hx16
  replace hK := (hx16.cell lt_kb nm0).trans hK
  replace lt_kb := hx16.lt lt_kb
  replace hE := hE.t0 hx16
  refine rR 6 hf rfl fun a hf => ?_
  exact rT (rs := [.tmp 4]) hf rfl ⟨_, _, rfl, rfl, rfl⟩ ⟨ret_b (by simp only [qA, qB, qC, qD, qE, qF, ne_eq, Int.not_lt, Int.not_le, Decidable.not_not] at h15 h23 h44 h45; simp [suitsT, h15, h23, h44, h45, hbt] <;> omega), hE⟩
  clear hf a; intro h45 a hf
  refine rR 5 hf rfl fun a hf => rB hf rfl (fun c hc => ex_eqI hf rfl rfl hc) ?_ ?_
  clear hf a; intro h46 a hf
  refine rR 7 hf rfl fun a hf => ?_
  rcases Bool.eq_false_or_eq_true (isTypeB kk) with hbt | hbt
  refine rC hf rfl rfl (by kernel_rfl) (bool_is (isTypeL (k := kk)) hbt) ?_
  rintro _ w20 ⟨rfl, hx19⟩
  refine ⟨_, rfl, fun a hf => ?_⟩
  replace hB3 := hB3.c0 hx19
  replace hK := (hx19.cell lt_kb nm0).trans hK
  replace lt_kb := hx19.lt lt_kb
  replace hE := hE.t0 hx19
  refine rR 6 hf rfl fun a hf => ?_
  exact rT (rs := [.tmp 4]) hf rfl ⟨_, _, rfl, rfl, rfl⟩ ⟨ret_b (by simp only [qA, qB, qC, qD, qE, qF, ne_eq, Int.not_lt, Int.not_le, Decidable.not_not] at h15 h23 h44 h45 h46; simp [suitsT, h15, h23, h44, h45, h46, hbt] <;> omega), hE⟩
  refine rC hf rfl rfl (by kernel_rfl) (bool_is (isTypeL (k := kk)) hbt) ?_
  rintro _ w21 ⟨rfl, hx19⟩
  refine ⟨_, rfl, fun a hf => ?_⟩
  replace hB3 := hB3.c0 hx19
  replace hK := (hx19.cell lt_kb nm0).trans hK
  replace lt_kb := hx19.lt lt_kb
  replace hE := hE.t0 hx19
  refine rR 6 hf rfl fun a hf => ?_
  exact rT (rs := [.tmp 4]) hf rfl ⟨_, _, rfl, rfl, rfl⟩ ⟨ret_b (by simp only [qA, qB, qC, qD, qE, qF, ne_eq, Int.not_lt, Int.not_le, Decidable.not_not] at h15 h23 h44 h45 h46; simp [suitsT, h15, h23, h44, h45, h46, hbt] <;> omega), hE⟩
  clear hf a; intro h46 a hf
  refine rR 6 hf rfl fun a hf => rB hf rfl (fun c hc => ex_eqI hf rfl rfl hc) ?_ ?_
  clear hf a; intro h50 a hf
  refine rR 7 hf rfl fun a hf => rB hf rfl (fun c hc => ex_eqI hf rfl rfl hc) ?_ ?_
  clear hf a; intro h52 a hf
  refine rR 6 hf rfl fun a hf => ?_
  exact rT (rs := [.tmp 4]) hf rfl ⟨_, _, rfl, rfl, rfl⟩ ⟨ret_b (by simp only [qA, qB, qC, qD, qE, qF, ne_eq, Int.not_lt, Int.not_le, Decidable.not_not] at h15 h23 h44 h45 h46 h50 h52; simp [suitsT, h15, h23, h44, h45, h46, h50, h52] <;> omega), hE⟩
  clear hf a; intro h52 a hf
  refine rR 6 hf rfl fun a hf => ?_
  exact rT (rs := [.tmp 4]) hf rfl ⟨_, _, rfl, rfl, rfl⟩ ⟨ret_b (by simp only [qA, qB, qC, qD, qE, qF, ne_eq, Int.not_lt, Int.not_le, Decidable.not_not] at h15 h23 h44 h45 h46 h50 h52; simp [suitsT, h15, h23, h44, h45, h46, h50, h52] <;> omega), hE⟩
  clear hf a; intro h50 a hf
  refine rR 6 hf rfl fun a hf => rB hf rfl (fun c hc => ex_eqI hf rfl rfl hc) ?_ ?_
  clear hf a; intro h54 a hf
  refine rR 7 hf rfl fun a hf => ?_
  rcases Bool.eq_false_or_eq_true (isUnitB kk) with hbu | hbu
  refine rC hf rfl rfl (by kernel_rfl) (bool_is (isUnitL (k := kk)) hbu) ?_
  rintro _ w23 ⟨rfl, hx22⟩
  refine ⟨_, rfl, fun a hf => ?_⟩
  replace hB3 := hB3.c0 hx22
  replace hK := (hx22.cell lt_kb nm0).trans hK
  replace lt_kb := hx22.lt lt_kb
  replace hE := hE.t0 hx22
  refine rR 14 hf rfl fun a hf => ?_
  exact rT (rs := [.tmp 4]) hf rfl ⟨_, _, rfl, rfl, rfl⟩ ⟨ret_b (by simp only [qA, qB, qC, qD, qE, qF, ne_eq, Int.not_lt, Int.not_le, Decidable.not_not] at h15 h23 h44 h45 h46 h50 h54; simp [suitsT, h15, h23, h44, h45, h46, h50, h54, hbu] <;> omega), hE⟩
  refine rC hf rfl rfl (by kernel_rfl) (bool_is (isUnitL (k := kk)) hbu) ?_
  rintro _ w24 ⟨rfl, hx22⟩
  refine ⟨_, rfl, fun a hf => ?_⟩
  replace hB3 := hB3.c0 hx22
  replace hK := (hx22.cell lt_kb nm0).trans hK
  replace lt_kb := hx22.lt lt_kb
  replace hE := hE.t0 hx22
  refine rR 2 hf rfl fun a hf => rB hf rfl (fun c hc => ex_eqI hf rfl rfl hc) ?_ ?_
  clear hf a; intro h59 a hf
  refine rR 2 hf rfl fun a hf => rB hf rfl (fun c hc => ex_eqI hf rfl rfl hc) ?_ ?_
  clear hf a; intro h62 a hf
  refine rR 8 hf rfl fun a hf => ?_
  exact rT (rs := [.tmp 4]) hf rfl ⟨_, _, rfl, rfl, rfl⟩ ⟨ret_b (by simp only [qA, qB, qC, qD, qE, qF, ne_eq, Int.not_lt, Int.not_le, Decidable.not_not] at h15 h23 h44 h45 h46 h50 h54 h59 h62; simp [suitsT, h15, h23, h44, h45, h46, h50, h54, hbu, h59, h62] <;> omega), hE⟩
  clear hf a; intro h62 a hf
  refine rR 8 hf rfl fun a hf => ?_
  exact rT (rs := [.tmp 4]) hf rfl ⟨_, _, rfl, rfl, rfl⟩ ⟨ret_b (by simp only [qA, qB, qC, qD, qE, qF, ne_eq, Int.not_lt, Int.not_le, Decidable.not_not] at h15 h23 h44 h45 h46 h50 h54 h59 h62; simp [suitsT, h15, h23, h44, h45, h46, h50, h54, hbu, h59, h62] <;> omega), hE⟩
  clear hf a; intro h59 a hf
  refine rR 11 hf rfl fun a hf => ?_
  exact rT (rs := [.tmp 4]) hf rfl ⟨_, _, rfl, rfl, rfl⟩ ⟨ret_b (by simp only [qA, qB, qC, qD, qE, qF, ne_eq, Int.not_lt, Int.not_le, Decidable.not_not] at h15 h23 h44 h45 h46 h50 h54 h59; simp [suitsT, h15, h23, h44, h45, h46, h50, h54, hbu, h59] <;> omega), hE⟩
  clear hf a; intro h54 a hf
  refine rR 10 hf rfl fun a hf => ?_
  rcases Bool.eq_false_or_eq_true (isExprB kk) with hbe | hbe
  refine rC hf rfl rfl (by kernel_rfl) (bool_is (isExprL (k := kk)) hbe) ?_
  rintro _ w26 ⟨rfl, hx25⟩
  refine ⟨_, rfl, fun a hf => ?_⟩
  replace hB3 := hB3.c0 hx25
  replace hK := (hx25.cell lt_kb nm0).trans hK
  replace lt_kb := hx25.lt lt_kb
  replace hE := hE.t0 hx25
  refine rR 4 hf rfl fun a hf => ?_
  exact rT (rs := [.tmp 4]) hf rfl ⟨_, _, rfl, rfl, rfl⟩ ⟨ret_b (by simp only [qA, qB, qC, qD, qE, qF, ne_eq, Int.not_lt, Int.not_le, Decidable.not_not] at h15 h23 h44 h45 h46 h50 h54; simp [suitsT, h15, h23, h44, h45, h46, h50, h54, hbe] <;> omega), hE⟩
  refine rC hf rfl rfl (by kernel_rfl) (bool_is (isExprL (k := kk)) hbe) ?_
  rintro _ w27 ⟨rfl, hx25⟩
  refine ⟨_, rfl, fun a hf => ?_⟩
  replace hB3 := hB3.c0 hx25
  replace hK := (hx25.cell lt_kb nm0).trans hK
  replace lt_kb := hx25.lt lt_kb
  replace hE := hE.t0 hx25
  refine rR 4 hf rfl fun a hf => ?_
  exact rT (rs := [.tmp 4]) hf rfl ⟨_, _, rfl, rfl, rfl⟩ ⟨ret_b (by simp only [qA, qB, qC, qD, qE, qF, ne_eq, Int.not_lt, Int.not_le, Decidable.not_not] at h15 h23 h44 h45 h46 h50 h54; simp [suitsT, h15, h23, h44, h45, h46, h50, h54, hbe] <;> omega), hE⟩
end Go.Proofs.Ythpjpngfghcmcaa
namespace Go.Proofs.Ythpjpngfghcmcaa
open Go.RowKit Lx Sx
set_option maxRecDepth 100000
set_option maxHeartbeats 4000000
mutual
def shapedT : Tree → Bool
  | .node k s _ ks => decide (0 ≤ leadsT k ks.length) && wordedT k s && kidsT k ks.length ks 0
def kidsT (k : Int) (n : Nat) : List Tree → Nat → Bool
  | [], _ => true
  | t :: r, i => suitsT k n i t.kind && shapedT t && kidsT k n r (i + 1)
end
def lsum : List (List UInt8) → Nat
  | [] => 0
  | l :: r => l.length + 1 + lsum r
mutual
def tbulk : Tree → Nat
  | .node _ s ls ks => s.length + lsum ls + kbulk ks + 1
def kbulk : List Tree → Nat
  | [] => 0
  | t :: r => tbulk t + kbulk r
end
theorem tbulk_pos (t : Tree) : 0 < tbulk t := by cases t; simp only [tbulk]; omega
theorem kbulk_len : ∀ (ks : List Tree), ks.length ≤ kbulk ks
  | [] => Nat.le_refl _
  | t :: r => by have := kbulk_len r; have := tbulk_pos t; simp only [kbulk, List.length_cons]; omega
theorem kbulk_at : ∀ {ks : List Tree} {i : Nat} (h : i < ks.length), tbulk ks[i] ≤ kbulk ks
  | t :: r, 0, _ => by simp only [kbulk, List.getElem_cons_zero]; omega
  | t :: r, i + 1, h => by have := kbulk_at (ks := r) (i := i) (by simpa using h); simp only [kbulk, List.getElem_cons_succ]; omega
theorem kidsT_step {k : Int} {n i : Nat} {ks : List Tree} (h : i < ks.length) : kidsT k n (ks.drop i) i = (suitsT k n i ks[i].kind && shapedT ks[i] && kidsT k n (ks.drop (i + 1)) (i + 1)) := by rw [List.drop_eq_getElem_cons h, kidsT]
theorem TreeIs.form {S : Nat → Prop} {w : World} {t : Tree} {c0 c1 c2 c3 : Value} (h : TreeIs S w t [c0, c1, c2, c3]) : c0 = .int .i64 t.kind := by
  obtain ⟨k, tx, ls, ks⟩ := t
  simp only [TreeIs] at h
  obtain ⟨A, m, B, n, e, _⟩ := h
  simp only [List.cons.injEq] at e
  exact e.1
theorem not_neg {a : Int} (h : decide (a < 0) = false) : decide (0 ≤ a) = true := by simp at *; omega
theorem is_neg {a : Int} (h : decide (a < 0) = true) : decide (0 ≤ a) = false := by simp at *; omega
def ShapedOk (N : Nat) : Prop := ∀ (t : Tree) (S : Nat → Prop) (w : World) (c0 c1 c2 c3 : Value), tsize t ≤ N → tbulk t ≤ 1000000000 → TreeIs S w t [c0, c1, c2, c3] → Calls Try.prog 22 [.agg #[c0, c1, c2, c3]].toArray w fun e w' => e = .returned (.bool (shapedT t)) ∧ Chg [] w w'
theorem shaped_step {N : Nat} (ih : ShapedOk N) : ShapedOk (N + 1) := by
  intro t S w c0 c1 c2 c3 hN hd hT
  obtain ⟨k, tx, ls, ks⟩ := t
  simp only [TreeIs] at hT
  obtain ⟨A, m0, B, n, hc, _, _, hb1, hb2, _, cs, hkids, hrow⟩ := hT
  simp only [List.cons.injEq, and_true] at hc
  obtain ⟨rfl, rfl, rfl, rfl⟩ := hc
  simp only [tsize] at hN
  simp only [tbulk] at hd
  have hkl := kbulk_len ks
  refine rE 38 Try.func22 rfl rfl rfl ?_
  intro a hf
  have hE := Chg.refl [] w
  refine rR 2 hf rfl ?_
  clear hf a; intro a hf
  obtain ⟨w1, b2, he, hB3, hx4, eb5, lb6⟩ := ef_box (P := Try.prog) (t := 26) (x := (.tmp 0)) hf rfl rfl w 0
  refine rV hf rfl he ?_
  clear he hf a; intro a hf
  have ge_b2 := ge_new hE eb5
  replace hE := hE.t0 hx4
  clear eb5 lb6
  refine rR 7 hf rfl ?_
  clear hf a; intro a hf
  refine rV hf rfl (ex_loadB hf rfl (by kernel_rfl) hB3 rfl) ?_
  clear hf a; intro a hf
  refine rR 1 hf rfl ?_
  clear hf a; intro a hf
  refine rV hf rfl (ex_loadB hf rfl (by kernel_rfl) hB3 rfl) ?_
  clear hf a; intro a hf
  refine rV hf rfl (ex_len hf Try.underlying24 rfl) ?_
  clear hf a; intro a hf
  refine rC hf rfl rfl (by kernel_rfl) (leadsL (by omega)) ?_
  rintro _ w8 ⟨rfl, hx7⟩
  refine ⟨_, rfl, ?_⟩
  clear hf a; intro a hf
  replace hB3 := hB3.c0 hx7
  replace hE := hE.t0 hx7
  refine rB hf rfl (fun c hc => ex_ltI hf rfl rfl hc) ?_ ?_
  clear hf a; intro h11 a hf
  refine rR 18 hf rfl ?_
  clear hf a; intro a hf
  exact rT (rs := [.tmp 2]) hf rfl ⟨_, _, rfl, rfl, rfl⟩ ⟨ret_b (by rw [shapedT, is_neg h11]; simp), hE⟩
  clear hf a; intro h11 a hf
  refine rR 2 hf rfl ?_
  clear hf a; intro a hf
  refine rV hf rfl (ex_loadB hf rfl (by kernel_rfl) hB3 rfl) ?_
  clear hf a; intro a hf
  refine rR 1 hf rfl ?_
  clear hf a; intro a hf
  refine rV hf rfl (ex_loadB hf rfl (by kernel_rfl) hB3 rfl) ?_
  clear hf a; intro a hf
  rcases Bool.eq_false_or_eq_true (wordedT k tx) with hbw | hbw
  refine rC hf rfl rfl (by kernel_rfl) (bool_is (wordedL (k := k) (x := tx) (by omega)) hbw) ?_
  rintro _ w10 ⟨rfl, hx9⟩
  refine ⟨_, rfl, ?_⟩
  clear hf a; intro a hf
  replace hB3 := hB3.c0 hx9
  replace hE := hE.t0 hx9
  refine rR 11 hf rfl ?_
  clear hf a; intro a hf
  refine rV hf rfl (ex_loadB hf rfl (by kernel_rfl) hB3 rfl) ?_
  clear hf a; intro a hf
  refine rV hf rfl (ex_len hf Try.underlying24 rfl) ?_
  clear hf a; intro a hf
  refine rR 4 hf rfl ?_
  clear hf a; intro a hf
  refine rL (fun g a w' => ∃ i, Fr a 38 (fm [(1, .pointer (some ⟨b2, 0, none⟩)), (21, .slice B ks.length n), (22, .int .i64 (ks.length : Nat)), (23, .int .i64 (i : Nat))]) ∧ Chg [] w w' ∧ Blk w' b2 26 [.int .i64 k, strV tx, .slice A ls.length m0, .slice B ks.length n] ∧ i ≤ ks.length ∧ g = ks.length - i ∧ kidsT k ks.length (ks.drop i) i = kidsT k ks.length ks 0) _ ⟨0, hf.pick ⟨rfl, rfl, rfl, rfl, trivial⟩, hE, hB3, Nat.zero_le _, rfl, rfl⟩ ?_
  obtain ⟨b1, eb1⟩ : ∃ x, b2 = x := ⟨_, rfl⟩
  rw [eb1]
  have ge_b1 : w.heap.size ≤ b1 := eb1 ▸ ge_b2
  clear eb1 hf a
  intro g0 a w' hI
  obtain ⟨i, hf, hE, hB1, hi, rfl, hm⟩ := hI
  by_cases hlt : i < ks.length
  obtain ⟨kb, ko, rfl, _, hkb, hcell⟩ := hrow.2 (by omega)
  obtain ⟨d0, d1, d2, d3, hT, hK⟩ := kid_cells hkids hkb hcell hlt hE
  have on_T := hT.one
  have ef := hT.form
  subst ef
  have htt := kbulk_at hlt
  have hts := tsize_at hlt
  have hmm := kidsT_step (k := k) (n := ks.length) hlt
  have lt_kb := hE.lt hkb
  have hK0 : w'.cell? ⟨kb, ko + i * 4, none⟩ = some (.int .i64 ks[i].kind) := hK 0 (by omega)
  obtain ⟨hi0, ehi0⟩ : ∃ x, x = w'.heap.size := ⟨_, rfl⟩
  replace hT := hT.keepB (S' := fun b => b < hi0) (fun b _ hb => by omega) (fun _ _ _ => rfl)
  have tb_kb : kb < hi0 := by omega
  have lt_b1 := hB1.lt
  refine rR 2 hf rfl ?_
  clear hf a; intro a hf
  refine rV hf rfl (ex_ltI (c := true) hf rfl rfl (by simp; omega)) ?_
  clear hf a; intro a hf
  refine rR 11 hf rfl ?_
  clear hf a; intro a hf
  refine rV hf rfl (ex_index (sz := 4) (k := i) (r := ko + i * 4) hf Try.underlying24 (by kernel_rfl) rfl rfl rfl hlt rfl) ?_
  clear hf a; intro a hf
  refine rV hf rfl (ex_loadN (cs := [.int .i64 ks[i].kind, d1, d2, d3]) (m := 4) hf rfl (by kernel_rfl) rfl hK) ?_
  clear hf a; intro a hf
  obtain ⟨w11, b12, he, hB13, hx14, eb15, lb16⟩ := eT a w' 0
  refine rV hf rfl he ?_
  clear he hf a; intro a hf
  have ne_b1_b12 : b1 ≠ b12 := ne_new hB1.lt eb15
  have ne_kb_b12 : kb ≠ b12 := ne_new lt_kb eb15
  have ge_b12 := ge_new hE eb15
  have tb_b12 : hi0 ≤ b12 := by omega
  replace hB1 := hB1.c0 hx14
  replace hT := hT.t0 hx14
  replace hK0 := (hx14.cell lt_kb nm0).trans hK0
  replace lt_kb := hx14.lt lt_kb
  replace hE := hE.t0 hx14
  clear eb15 lb16
  refine rR 1 hf rfl ?_
  clear hf a; intro a hf
  obtain ⟨w17, he, hB18, hx19⟩ := eN (.tmp 4) (.tmp 27) hf rfl rfl rfl on_T hB13 rfl 0
  refine rS hf rfl he ?_
  clear he hf a; intro a hf
  replace hB1 := hB1.c1 hx19 ne_b1_b12
  replace hT := hT.chg hx19 (fun b hb hlt2 => (nmc (by omega) nm0))
  replace hK0 := (hx19.cell lt_kb (nmc ne_kb_b12 nm0)).trans hK0
  replace lt_kb := hx19.lt lt_kb
  replace hE := hE.n1 hx19 ge_b12
  clear hB13
  refine rR 4 hf rfl ?_
  clear hf a; intro a hf
  refine rV hf rfl (ex_loadBN (m := 4) hf rfl (by kernel_rfl) hB1 rfl) ?_
  clear hf a; intro a hf
  refine rR 1 hf rfl ?_
  clear hf a; intro a hf
  rcases Bool.eq_false_or_eq_true (suitsT k ks.length i ks[i].kind) with hbs | hbs
  refine rC hf rfl rfl (by kernel_rfl) (bool_is (suitsL (k := k) (i := i) (kk := ks[i].kind) hlt (by omega) lt_kb hK0) hbs) ?_
  rintro _ w21 ⟨rfl, hx20⟩
  refine ⟨_, rfl, ?_⟩
  clear hf a; intro a hf
  replace hB1 := hB1.c0 hx20
  replace hB18 := hB18.c0 hx20
  replace hT := hT.t0 hx20
  replace hK0 := (hx20.cell lt_kb nm0).trans hK0
  replace lt_kb := hx20.lt lt_kb
  replace hE := hE.t0 hx20
  refine rR 2 hf rfl ?_
  clear hf a; intro a hf
  refine rV hf rfl (ex_loadBN (m := 4) hf rfl (by kernel_rfl) hB18 rfl) ?_
  clear hf a; intro a hf
  rcases Bool.eq_false_or_eq_true (shapedT ks[i]) with hbk | hbk
  refine rC hf rfl rfl (by kernel_rfl) (bool_is (ih _ _ _ _ _ _ _ (by omega) (by omega) hT) hbk) ?_
  rintro _ w23 ⟨rfl, hx22⟩
  refine ⟨_, rfl, ?_⟩
  clear hf a; intro a hf
  replace hB1 := hB1.c0 hx22
  replace hB18 := hB18.c0 hx22
  replace hT := hT.t0 hx22
  replace hK0 := (hx22.cell lt_kb nm0).trans hK0
  replace lt_kb := hx22.lt lt_kb
  replace hE := hE.t0 hx22
  refine rR 9 hf rfl ?_
  clear hf a; intro a hf
  refine rV hf rfl (ex_addI hf rfl rfl rfl (by omega)) ?_
  clear hf a; intro a hf
  refine rR 2 hf rfl ?_
  clear hf a; intro a hf
  exact rX ⟨_, (by omega : ks.length - (i + 1) < ks.length - i), i + 1, hf.pick ⟨rfl, rfl, rfl, rfl, trivial⟩, hE, hB1, by omega, rfl, by rw [← hm, hmm, hbs, hbk]; rfl⟩
  refine rC hf rfl rfl (by kernel_rfl) (bool_is (ih _ _ _ _ _ _ _ (by omega) (by omega) hT) hbk) ?_
  rintro _ w24 ⟨rfl, hx22⟩
  refine ⟨_, rfl, ?_⟩
  clear hf a; intro a hf
  replace hB1 := hB1.c0 hx22
  replace hB18 := hB18.c0 hx22
  replace hT := hT.t0 hx22
  replace hK0 := (hx22.cell lt_kb nm0).trans hK0
  replace lt_kb := hx22.lt lt_kb
  replace hE := hE.t0 hx22
  refine rR 13 hf rfl ?_
  clear hf a; intro a hf
  refine rOr ?_
  refine rR 2 hf rfl ?_
  clear hf a; intro a hf
  exact rT (rs := [.tmp 2]) hf rfl ⟨_, _, rfl, rfl, rfl⟩ ⟨ret_b (by rw [shapedT, ← hm, hmm, hbs, hbk]; simp), hE⟩
  refine rC hf rfl rfl (by kernel_rfl) (bool_is (suitsL (k := k) (i := i) (kk := ks[i].kind) hlt (by omega) lt_kb hK0) hbs) ?_
  rintro _ w25 ⟨rfl, hx20⟩
  refine ⟨_, rfl, ?_⟩
  clear hf a; intro a hf
  replace hB1 := hB1.c0 hx20
  replace hB18 := hB18.c0 hx20
  replace hT := hT.t0 hx20
  replace hK0 := (hx20.cell lt_kb nm0).trans hK0
  replace lt_kb := hx20.lt lt_kb
  replace hE := hE.t0 hx20
  refine rR 17 hf rfl ?_
  clear hf a; intro a hf
  refine rOr ?_
  refine rR 2 hf rfl ?_
  clear hf a; intro a hf
  exact rT (rs := [.tmp 2]) hf rfl ⟨_, _, rfl, rfl, rfl⟩ ⟨ret_b (by rw [shapedT, ← hm, hmm, hbs]; simp), hE⟩
  have hz : ks.drop i = [] := List.drop_of_length_le (by omega)
  rw [hz, kidsT] at hm
  refine rR 2 hf rfl ?_
  clear hf a; intro a hf
  refine rV hf rfl (ex_ltI (c := false) hf rfl rfl (by simp; omega)) ?_
  clear hf a; intro a hf
  refine rR 6 hf rfl ?_
  clear hf a; intro a hf
  refine rO ?_
  refine rR 8 hf rfl ?_
  clear hf a; intro a hf
  exact rT (rs := [.tmp 2]) hf rfl ⟨_, _, rfl, rfl, rfl⟩ ⟨ret_b (by rw [shapedT, ← hm, hbw, not_neg h11]; rfl), hE⟩
  refine rC hf rfl rfl (by kernel_rfl) (bool_is (wordedL (k := k) (x := tx) (by omega)) hbw) ?_
  rintro _ w26 ⟨rfl, hx9⟩
  refine ⟨_, rfl, ?_⟩
  clear hf a; intro a hf
  replace hB3 := hB3.c0 hx9
  replace hE := hE.t0 hx9
  refine rR 12 hf rfl ?_
  clear hf a; intro a hf
  exact rT (rs := [.tmp 2]) hf rfl ⟨_, _, rfl, rfl, rfl⟩ ⟨ret_b (by rw [shapedT, hbw]; simp), hE⟩
theorem shapedL : ∀ N, ShapedOk N
  | 0 => fun t _ _ _ _ _ _ hN => by cases t; simp only [tsize] at hN; omega
  | N + 1 => shaped_step (shapedL N)
end Go.Proofs.Ythpjpngfghcmcaa
namespace Go.Proofs.Ythpjpngfghcmcaa
open Go.RowKit Lx Sx
set_option maxRecDepth 100000
set_option maxHeartbeats 4000000
def fewT (k : Int) (n : Nat) : Bool :=
  if k = 1 then decide (n ≤ 40) else if k = 2 then decide (n ≤ 10) else if k = 16 then decide (n ≤ 8) else if k = 18 then decide (n ≤ 16) else true
mutual
def smallT : Tree → Bool
  | .node k _ _ ks => fewT k ks.length && smallsT ks
def smallsT : List Tree → Bool
  | [] => true
  | t :: r => smallT t && smallsT r
end
theorem smallsT_step {i : Nat} {ks : List Tree} (h : i < ks.length) : smallsT (ks.drop i) = (smallT ks[i] && smallsT (ks.drop (i + 1))) := by rw [List.drop_eq_getElem_cons h, smallsT]
def SmallOk (N : Nat) : Prop := ∀ (t : Tree) (S : Nat → Prop) (w : World) (c0 c1 c2 c3 : Value), tsize t ≤ N → tbulk t ≤ 1000000000 → TreeIs S w t [c0, c1, c2, c3] → Calls Try.prog 43 [.agg #[c0, c1, c2, c3]].toArray w fun e w' => e = .returned (.bool (smallT t)) ∧ Chg [] w w'
theorem small_step {N : Nat} (ih : SmallOk N) : SmallOk (N + 1) := by
  intro t S w c0 c1 c2 c3 hN hd hT
  obtain ⟨k, tx, ls, ks⟩ := t
  simp only [TreeIs] at hT
  obtain ⟨A, m0, B, n, hc, _, _, hb1, hb2, _, cs, hkids, hrow⟩ := hT
  simp only [List.cons.injEq, and_true] at hc
  obtain ⟨rfl, rfl, rfl, rfl⟩ := hc
  simp only [tsize] at hN
  simp only [tbulk] at hd
  have hkl := kbulk_len ks
  refine rE 38 Try.func43 rfl rfl rfl ?_
  intro a hf
  have hE := Chg.refl [] w
  refine rR 2 hf rfl ?_
  clear hf a; intro a hf
  obtain ⟨w1, b2, he, hB3, hx4, eb5, lb6⟩ := ef_box (P := Try.prog) (t := 26) (x := (.tmp 0)) hf rfl rfl w 0
  refine rV hf rfl he ?_
  clear he hf a; intro a hf
  have ge_b2 := ge_new hE eb5
  replace hE := hE.t0 hx4
  clear eb5 lb6
  refine rR 6 hf rfl ?_
  clear hf a; intro a hf
  refine rV hf rfl (ex_loadB hf rfl (by kernel_rfl) hB3 rfl) ?_
  clear hf a; intro a hf
  refine rV hf rfl (ex_len hf Try.underlying24 rfl) ?_
  clear hf a; intro a hf
  refine rR 7 hf rfl ?_
  clear hf a; intro a hf
  refine rV hf rfl (ex_loadB hf rfl (by kernel_rfl) hB3 rfl) ?_
  clear hf a; intro a hf
  refine rR 5 hf rfl ?_
  clear hf a; intro a hf
  refine rB hf rfl (fun c hc => ex_eqI hf rfl rfl hc) ?_ ?_
  clear hf a; intro h12 a hf
  refine rR 7 hf rfl ?_
  clear hf a; intro a hf
  refine rB hf rfl (fun c hc => ex_gtI hf rfl rfl hc) ?_ ?_
  clear hf a; intro h14 a hf
  refine rR 11 hf rfl ?_
  clear hf a; intro a hf
  exact rT (rs := [.tmp 2]) hf rfl ⟨_, _, rfl, rfl, rfl⟩ ⟨ret_b (by rw [smallT, show fewT k ks.length = false from by simp only [qA, qB, qC, qD, qE, qF, ne_eq, Int.not_lt, Int.not_le, Decidable.not_not] at h12 h14; simp [fewT, h12, h14] <;> omega]; rfl), hE⟩
  clear hf a; intro h14 a hf
  refine rR 10 hf rfl ?_
  clear hf a; intro a hf
  refine rV hf rfl (ex_loadB hf rfl (by kernel_rfl) hB3 rfl) ?_
  clear hf a; intro a hf
  refine rV hf rfl (ex_len hf Try.underlying24 rfl) ?_
  clear hf a; intro a hf
  refine rR 4 hf rfl ?_
  clear hf a; intro a hf
  have hq : fewT k ks.length = true := by simp only [qA, qB, qC, qD, qE, qF, ne_eq, Int.not_lt, Int.not_le, Decidable.not_not] at h12 h14; simp [fewT, h12, h14] <;> omega
  refine rL (fun g a w' => ∃ i, Fr a 38 (fm [(28, .slice B ks.length n), (29, .int .i64 (ks.length : Nat)), (30, .int .i64 (i : Nat))]) ∧ Chg [] w w' ∧ i ≤ ks.length ∧ g = ks.length - i ∧ smallsT (ks.drop i) = smallsT ks) _ ⟨0, hf.pick ⟨rfl, rfl, rfl, trivial⟩, hE, Nat.zero_le _, rfl, rfl⟩ ?_
  clear hf a; intro g0 a w' hI
  obtain ⟨i, hf, hE, hi, rfl, hm⟩ := hI
  by_cases hlt : i < ks.length
  obtain ⟨kb, ko, rfl, _, hkb, hcell⟩ := hrow.2 (by omega)
  obtain ⟨d0, d1, d2, d3, hT, hK⟩ := kid_cells hkids hkb hcell hlt hE
  have on_T := hT.one
  have htt := kbulk_at hlt
  have hts := tsize_at hlt
  have hmm := smallsT_step hlt
  have lt_kb := hE.lt hkb
  obtain ⟨hi0, ehi0⟩ : ∃ x, x = w'.heap.size := ⟨_, rfl⟩
  replace hT := hT.keepB (S' := fun b => b < hi0) (fun b _ hb => by omega) (fun _ _ _ => rfl)
  refine rR 2 hf rfl ?_
  clear hf a; intro a hf
  refine rV hf rfl (ex_ltI (c := true) hf rfl rfl (by simp; omega)) ?_
  clear hf a; intro a hf
  refine rR 10 hf rfl ?_
  clear hf a; intro a hf
  refine rV hf rfl (ex_index (sz := 4) (k := i) (r := ko + i * 4) hf Try.underlying24 (by kernel_rfl) rfl rfl rfl hlt rfl) ?_
  clear hf a; intro a hf
  refine rV hf rfl (ex_loadN (cs := [d0, d1, d2, d3]) (m := 4) hf rfl (by kernel_rfl) rfl hK) ?_
  clear hf a; intro a hf
  obtain ⟨w7, b8, he, hB9, hx10, eb11, lb12⟩ := eT a w' 0
  refine rV hf rfl he ?_
  clear he hf a; intro a hf
  have ge_b8 := ge_new hE eb11
  have tb_b8 : hi0 ≤ b8 := by omega
  replace hT := hT.t0 hx10
  replace hE := hE.t0 hx10
  clear eb11 lb12
  obtain ⟨w13, he, hB14, hx15⟩ := eN (.tmp 5) (.tmp 33) hf rfl rfl rfl on_T hB9 rfl 0
  refine rS hf rfl he ?_
  clear he hf a; intro a hf
  replace hT := hT.chg hx15 (fun b hb hlt2 => (nmc (by omega) nm0))
  replace hE := hE.n1 hx15 ge_b8
  clear hB9
  refine rR 4 hf rfl ?_
  clear hf a; intro a hf
  refine rV hf rfl (ex_loadBN (m := 4) hf rfl (by kernel_rfl) hB14 rfl) ?_
  clear hf a; intro a hf
  rcases Bool.eq_false_or_eq_true (smallT ks[i]) with hbk | hbk
  refine rC hf rfl rfl (by kernel_rfl) (bool_is (ih _ _ _ _ _ _ _ (by omega) (by omega) hT) hbk) ?_
  rintro _ w17 ⟨rfl, hx16⟩
  refine ⟨_, rfl, ?_⟩
  clear hf a; intro a hf
  replace hB14 := hB14.c0 hx16
  replace hT := hT.t0 hx16
  replace hE := hE.t0 hx16
  refine rR 8 hf rfl ?_
  clear hf a; intro a hf
  refine rV hf rfl (ex_addI hf rfl rfl rfl (by omega)) ?_
  clear hf a; intro a hf
  refine rR 2 hf rfl ?_
  clear hf a; intro a hf
  exact rX ⟨_, (by omega : ks.length - (i + 1) < ks.length - i), i + 1, hf.pick ⟨rfl, rfl, rfl, trivial⟩, hE, by omega, rfl, by rw [← hm, hmm, hbk]; rfl⟩
  refine rC hf rfl rfl (by kernel_rfl) (bool_is (ih _ _ _ _ _ _ _ (by omega) (by omega) hT) hbk) ?_
  rintro _ w18 ⟨rfl, hx16⟩
  refine ⟨_, rfl, ?_⟩
  clear hf a; intro a hf
  replace hB14 := hB14.c0 hx16
  replace hT := hT.t0 hx16
  replace hE := hE.t0 hx16
  refine rR 12 hf rfl ?_
  clear hf a; intro a hf
  refine rOr ?_
  refine rR 2 hf rfl ?_
  clear hf a; intro a hf
  exact rT (rs := [.tmp 2]) hf rfl ⟨_, _, rfl, rfl, rfl⟩ ⟨ret_b (by rw [smallT, ← hm, hmm, hbk]; simp), hE⟩
  have hz : ks.drop i = [] := List.drop_of_length_le (by omega)
  rw [hz, smallsT] at hm
  refine rR 2 hf rfl ?_
  clear hf a; intro a hf
  refine rV hf rfl (ex_ltI (c := false) hf rfl rfl (by simp; omega)) ?_
  clear hf a; intro a hf
  refine rR 6 hf rfl ?_
  clear hf a; intro a hf
  refine rO ?_
  refine rR 8 hf rfl ?_
  clear hf a; intro a hf
  exact rT (rs := [.tmp 2]) hf rfl ⟨_, _, rfl, rfl, rfl⟩ ⟨ret_b (by rw [smallT, ← hm, hq]; rfl), hE⟩
  clear hf a; intro h12 a hf
  refine rR 6 hf rfl ?_
  clear hf a; intro a hf
  refine rB hf rfl (fun c hc => ex_eqI hf rfl rfl hc) ?_ ?_
  clear hf a; intro h16 a hf
  refine rR 7 hf rfl ?_
  clear hf a; intro a hf
  refine rB hf rfl (fun c hc => ex_gtI hf rfl rfl hc) ?_ ?_
  clear hf a; intro h18 a hf
  refine rR 11 hf rfl ?_
  clear hf a; intro a hf
  exact rT (rs := [.tmp 2]) hf rfl ⟨_, _, rfl, rfl, rfl⟩ ⟨ret_b (by rw [smallT, show fewT k ks.length = false from by simp only [qA, qB, qC, qD, qE, qF, ne_eq, Int.not_lt, Int.not_le, Decidable.not_not] at h12 h16 h18; simp [fewT, h12, h16, h18] <;> omega]; rfl), hE⟩
  clear hf a; intro h18 a hf
  refine rR 10 hf rfl ?_
  clear hf a; intro a hf
  refine rV hf rfl (ex_loadB hf rfl (by kernel_rfl) hB3 rfl) ?_
  clear hf a; intro a hf
  refine rV hf rfl (ex_len hf Try.underlying24 rfl) ?_
  clear hf a; intro a hf
  refine rR 4 hf rfl ?_
  clear hf a; intro a hf
  have hq : fewT k ks.length = true := by simp only [qA, qB, qC, qD, qE, qF, ne_eq, Int.not_lt, Int.not_le, Decidable.not_not] at h12 h16 h18; simp [fewT, h12, h16, h18] <;> omega
  refine rL (fun g a w' => ∃ i, Fr a 38 (fm [(28, .slice B ks.length n), (29, .int .i64 (ks.length : Nat)), (30, .int .i64 (i : Nat))]) ∧ Chg [] w w' ∧ i ≤ ks.length ∧ g = ks.length - i ∧ smallsT (ks.drop i) = smallsT ks) _ ⟨0, hf.pick ⟨rfl, rfl, rfl, trivial⟩, hE, Nat.zero_le _, rfl, rfl⟩ ?_
  clear hf a; intro g0 a w' hI
  obtain ⟨i, hf, hE, hi, rfl, hm⟩ := hI
  by_cases hlt : i < ks.length
  obtain ⟨kb, ko, rfl, _, hkb, hcell⟩ := hrow.2 (by omega)
  obtain ⟨d0, d1, d2, d3, hT, hK⟩ := kid_cells hkids hkb hcell hlt hE
  have on_T := hT.one
  have htt := kbulk_at hlt
  have hts := tsize_at hlt
  have hmm := smallsT_step hlt
  have lt_kb := hE.lt hkb
  obtain ⟨hi0, ehi0⟩ : ∃ x, x = w'.heap.size := ⟨_, rfl⟩
  replace hT := hT.keepB (S' := fun b => b < hi0) (fun b _ hb => by omega) (fun _ _ _ => rfl)
  refine rR 2 hf rfl ?_
  clear hf a; intro a hf
  refine rV hf rfl (ex_ltI (c := true) hf rfl rfl (by simp; omega)) ?_
  clear hf a; intro a hf
  refine rR 10 hf rfl ?_
  clear hf a; intro a hf
  refine rV hf rfl (ex_index (sz := 4) (k := i) (r := ko + i * 4) hf Try.underlying24 (by kernel_rfl) rfl rfl rfl hlt rfl) ?_
  clear hf a; intro a hf
  refine rV hf rfl (ex_loadN (cs := [d0, d1, d2, d3]) (m := 4) hf rfl (by kernel_rfl) rfl hK) ?_
  clear hf a; intro a hf
  obtain ⟨w19, b20, he, hB21, hx22, eb23, lb24⟩ := eT a w' 0
  refine rV hf rfl he ?_
  clear he hf a; intro a hf
  have ge_b20 := ge_new hE eb23
  have tb_b20 : hi0 ≤ b20 := by omega
  replace hT := hT.t0 hx22
  replace hE := hE.t0 hx22
  clear eb23 lb24
  obtain ⟨w25, he, hB26, hx27⟩ := eN (.tmp 5) (.tmp 33) hf rfl rfl rfl on_T hB21 rfl 0
  refine rS hf rfl he ?_
  clear he hf a; intro a hf
  replace hT := hT.chg hx27 (fun b hb hlt2 => (nmc (by omega) nm0))
  replace hE := hE.n1 hx27 ge_b20
  clear hB21
  refine rR 4 hf rfl ?_
  clear hf a; intro a hf
  refine rV hf rfl (ex_loadBN (m := 4) hf rfl (by kernel_rfl) hB26 rfl) ?_
  clear hf a; intro a hf
  rcases Bool.eq_false_or_eq_true (smallT ks[i]) with hbk | hbk
  refine rC hf rfl rfl (by kernel_rfl) (bool_is (ih _ _ _ _ _ _ _ (by omega) (by omega) hT) hbk) ?_
  rintro _ w29 ⟨rfl, hx28⟩
  refine ⟨_, rfl, ?_⟩
  clear hf a; intro a hf
  replace hB26 := hB26.c0 hx28
  replace hT := hT.t0 hx28
  replace hE := hE.t0 hx28
  refine rR 8 hf rfl ?_
  clear hf a; intro a hf
  refine rV hf rfl (ex_addI hf rfl rfl rfl (by omega)) ?_
  clear hf a; intro a hf
  refine rR 2 hf rfl ?_
  clear hf a; intro a hf
  exact rX ⟨_, (by omega : ks.length - (i + 1) < ks.length - i), i + 1, hf.pick ⟨rfl, rfl, rfl, trivial⟩, hE, by omega, rfl, by rw [← hm, hmm, hbk]; rfl⟩
  refine rC hf rfl rfl (by kernel_rfl) (bool_is (ih _ _ _ _ _ _ _ (by omega) (by omega) hT) hbk) ?_
  rintro _ w30 ⟨rfl, hx28⟩
  refine ⟨_, rfl, ?_⟩
  clear hf a; intro a hf
  replace hB26 := hB26.c0 hx28
  replace hT := hT.t0 hx28
  replace hE := hE.t0 hx28
  refine rR 12 hf rfl ?_
  clear hf a; intro a hf
  refine rOr ?_
  refine rR 2 hf rfl ?_
  clear hf a; intro a hf
  exact rT (rs := [.tmp 2]) hf rfl ⟨_, _, rfl, rfl, rfl⟩ ⟨ret_b (by rw [smallT, ← hm, hmm, hbk]; simp), hE⟩
  have hz : ks.drop i = [] := List.drop_of_length_le (by omega)
  rw [hz, smallsT] at hm
  refine rR 2 hf rfl ?_
  clear hf a; intro a hf
  refine rV hf rfl (ex_ltI (c := false) hf rfl rfl (by simp; omega)) ?_
  clear hf a; intro a hf
  refine rR 6 hf rfl ?_
  clear hf a; intro a hf
  refine rO ?_
  refine rR 8 hf rfl ?_
  clear hf a; intro a hf
  exact rT (rs := [.tmp 2]) hf rfl ⟨_, _, rfl, rfl, rfl⟩ ⟨ret_b (by rw [smallT, ← hm, hq]; rfl), hE⟩
  clear hf a; intro h16 a hf
  refine rR 6 hf rfl ?_
  clear hf a; intro a hf
  refine rB hf rfl (fun c hc => ex_eqI hf rfl rfl hc) ?_ ?_
  clear hf a; intro h20 a hf
  refine rR 7 hf rfl ?_
  clear hf a; intro a hf
  refine rB hf rfl (fun c hc => ex_gtI hf rfl rfl hc) ?_ ?_
  clear hf a; intro h22 a hf
  refine rR 11 hf rfl ?_
  clear hf a; intro a hf
  exact rT (rs := [.tmp 2]) hf rfl ⟨_, _, rfl, rfl, rfl⟩ ⟨ret_b (by rw [smallT, show fewT k ks.length = false from by simp only [qA, qB, qC, qD, qE, qF, ne_eq, Int.not_lt, Int.not_le, Decidable.not_not] at h12 h16 h20 h22; simp [fewT, h12, h16, h20, h22] <;> omega]; rfl), hE⟩
  clear hf a; intro h22 a hf
  refine rR 10 hf rfl ?_
  clear hf a; intro a hf
  refine rV hf rfl (ex_loadB hf rfl (by kernel_rfl) hB3 rfl) ?_
  clear hf a; intro a hf
  refine rV hf rfl (ex_len hf Try.underlying24 rfl) ?_
  clear hf a; intro a hf
  refine rR 4 hf rfl ?_
  clear hf a; intro a hf
  have hq : fewT k ks.length = true := by simp only [qA, qB, qC, qD, qE, qF, ne_eq, Int.not_lt, Int.not_le, Decidable.not_not] at h12 h16 h20 h22; simp [fewT, h12, h16, h20, h22] <;> omega
  refine rL (fun g a w' => ∃ i, Fr a 38 (fm [(28, .slice B ks.length n), (29, .int .i64 (ks.length : Nat)), (30, .int .i64 (i : Nat))]) ∧ Chg [] w w' ∧ i ≤ ks.length ∧ g = ks.length - i ∧ smallsT (ks.drop i) = smallsT ks) _ ⟨0, hf.pick ⟨rfl, rfl, rfl, trivial⟩, hE, Nat.zero_le _, rfl, rfl⟩ ?_
  clear hf a; intro g0 a w' hI
  obtain ⟨i, hf, hE, hi, rfl, hm⟩ := hI
  by_cases hlt : i < ks.length
  obtain ⟨kb, ko, rfl, _, hkb, hcell⟩ := hrow.2 (by omega)
  obtain ⟨d0, d1, d2, d3, hT, hK⟩ := kid_cells hkids hkb hcell hlt hE
  have on_T := hT.one
  have htt := kbulk_at hlt
  have hts := tsize_at hlt
  have hmm := smallsT_step hlt
  have lt_kb := hE.lt hkb
  obtain ⟨hi0, ehi0⟩ : ∃ x, x = w'.heap.size := ⟨_, rfl⟩
  replace hT := hT.keepB (S' := fun b => b < hi0) (fun b _ hb => by omega) (fun _ _ _ => rfl)
  refine rR 2 hf rfl ?_
  clear hf a; intro a hf
  refine rV hf rfl (ex_ltI (c := true) hf rfl rfl (by simp; omega)) ?_
  clear hf a; intro a hf
  refine rR 10 hf rfl ?_
  clear hf a; intro a hf
  refine rV hf rfl (ex_index (sz := 4) (k := i) (r := ko + i * 4) hf Try.underlying24 (by kernel_rfl) rfl rfl rfl hlt rfl) ?_
  clear hf a; intro a hf
  refine rV hf rfl (ex_loadN (cs := [d0, d1, d2, d3]) (m := 4) hf rfl (by kernel_rfl) rfl hK) ?_
  clear hf a; intro a hf
  obtain ⟨w31, b32, he, hB33, hx34, eb35, lb36⟩ := eT a w' 0
  refine rV hf rfl he ?_
  clear he hf a; intro a hf
  have ge_b32 := ge_new hE eb35
  have tb_b32 : hi0 ≤ b32 := by omega
  replace hT := hT.t0 hx34
  replace hE := hE.t0 hx34
  clear eb35 lb36
  obtain ⟨w37, he, hB38, hx39⟩ := eN (.tmp 5) (.tmp 33) hf rfl rfl rfl on_T hB33 rfl 0
  refine rS hf rfl he ?_
  clear he hf a; intro a hf
  replace hT := hT.chg hx39 (fun b hb hlt2 => (nmc (by omega) nm0))
  replace hE := hE.n1 hx39 ge_b32
  clear hB33
  refine rR 4 hf rfl ?_
  clear hf a; intro a hf
  refine rV hf rfl (ex_loadBN (m := 4) hf rfl (by kernel_rfl) hB38 rfl) ?_
  clear hf a; intro a hf
  rcases Bool.eq_false_or_eq_true (smallT ks[i]) with hbk | hbk
  refine rC hf rfl rfl (by kernel_rfl) (bool_is (ih _ _ _ _ _ _ _ (by omega) (by omega) hT) hbk) ?_
  rintro _ w41 ⟨rfl, hx40⟩
  refine ⟨_, rfl, ?_⟩
  clear hf a; intro a hf
  replace hB38 := hB38.c0 hx40
  replace hT := hT.t0 hx40
  replace hE := hE.t0 hx40
  refine rR 8 hf rfl ?_
  clear hf a; intro a hf
  refine rV hf rfl (ex_addI hf rfl rfl rfl (by omega)) ?_
  clear hf a; intro a hf
  refine rR 2 hf rfl ?_
  clear hf a; intro a hf
  exact rX ⟨_, (by omega : ks.length - (i + 1) < ks.length - i), i + 1, hf.pick ⟨rfl, rfl, rfl, trivial⟩, hE, by omega, rfl, by rw [← hm, hmm, hbk]; rfl⟩
  refine rC hf rfl rfl (by kernel_rfl) (bool_is (ih _ _ _ _ _ _ _ (by omega) (by omega) hT) hbk) ?_
  rintro _ w42 ⟨rfl, hx40⟩
  refine ⟨_, rfl, ?_⟩
  clear hf a; intro a hf
  replace hB38 := hB38.c0 hx40
  replace hT := hT.t0 hx40
  replace hE := hE.t0 hx40
  refine rR 12 hf rfl ?_
  clear hf a; intro a hf
  refine rOr ?_
  refine rR 2 hf rfl ?_
  clear hf a; intro a hf
  exact rT (rs := [.tmp 2]) hf rfl ⟨_, _, rfl, rfl, rfl⟩ ⟨ret_b (by rw [smallT, ← hm, hmm, hbk]; simp), hE⟩
  have hz : ks.drop i = [] := List.drop_of_length_le (by omega)
  rw [hz, smallsT] at hm
  refine rR 2 hf rfl ?_
  clear hf a; intro a hf
  refine rV hf rfl (ex_ltI (c := false) hf rfl rfl (by simp; omega)) ?_
  clear hf a; intro a hf
  refine rR 6 hf rfl ?_
  clear hf a; intro a hf
  refine rO ?_
  refine rR 8 hf rfl ?_
  clear hf a; intro a hf
  exact rT (rs := [.tmp 2]) hf rfl ⟨_, _, rfl, rfl, rfl⟩ ⟨ret_b (by rw [smallT, ← hm, hq]; rfl), hE⟩
  clear hf a; intro h20 a hf
  refine rR 6 hf rfl ?_
  clear hf a; intro a hf
  refine rB hf rfl (fun c hc => ex_eqI hf rfl rfl hc) ?_ ?_
  clear hf a; intro h24 a hf
  refine rR 7 hf rfl ?_
  clear hf a; intro a hf
  refine rB hf rfl (fun c hc => ex_gtI hf rfl rfl hc) ?_ ?_
  clear hf a; intro h26 a hf
  refine rR 11 hf rfl ?_
  clear hf a; intro a hf
  exact rT (rs := [.tmp 2]) hf rfl ⟨_, _, rfl, rfl, rfl⟩ ⟨ret_b (by rw [smallT, show fewT k ks.length = false from by simp only [qA, qB, qC, qD, qE, qF, ne_eq, Int.not_lt, Int.not_le, Decidable.not_not] at h12 h16 h20 h24 h26; simp [fewT, h12, h16, h20, h24, h26] <;> omega]; rfl), hE⟩
  clear hf a; intro h26 a hf
  refine rR 10 hf rfl ?_
  clear hf a; intro a hf
  refine rV hf rfl (ex_loadB hf rfl (by kernel_rfl) hB3 rfl) ?_
  clear hf a; intro a hf
  refine rV hf rfl (ex_len hf Try.underlying24 rfl) ?_
  clear hf a; intro a hf
  refine rR 4 hf rfl ?_
  clear hf a; intro a hf
  have hq : fewT k ks.length = true := by simp only [qA, qB, qC, qD, qE, qF, ne_eq, Int.not_lt, Int.not_le, Decidable.not_not] at h12 h16 h20 h24 h26; simp [fewT, h12, h16, h20, h24, h26] <;> omega
  refine rL (fun g a w' => ∃ i, Fr a 38 (fm [(28, .slice B ks.length n), (29, .int .i64 (ks.length : Nat)), (30, .int .i64 (i : Nat))]) ∧ Chg [] w w' ∧ i ≤ ks.length ∧ g = ks.length - i ∧ smallsT (ks.drop i) = smallsT ks) _ ⟨0, hf.pick ⟨rfl, rfl, rfl, trivial⟩, hE, Nat.zero_le _, rfl, rfl⟩ ?_
  clear hf a; intro g0 a w' hI
  obtain ⟨i, hf, hE, hi, rfl, hm⟩ := hI
  by_cases hlt : i < ks.length
  obtain ⟨kb, ko, rfl, _, hkb, hcell⟩ := hrow.2 (by omega)
  obtain ⟨d0, d1, d2, d3, hT, hK⟩ := kid_cells hkids hkb hcell hlt hE
  have on_T := hT.one
  have htt := kbulk_at hlt
  have hts := tsize_at hlt
  have hmm := smallsT_step hlt
  have lt_kb := hE.lt hkb
  obtain ⟨hi0, ehi0⟩ : ∃ x, x = w'.heap.size := ⟨_, rfl⟩
  replace hT := hT.keepB (S' := fun b => b < hi0) (fun b _ hb => by omega) (fun _ _ _ => rfl)
  refine rR 2 hf rfl ?_
  clear hf a; intro a hf
  refine rV hf rfl (ex_ltI (c := true) hf rfl rfl (by simp; omega)) ?_
  clear hf a; intro a hf
  refine rR 10 hf rfl ?_
  clear hf a; intro a hf
  refine rV hf rfl (ex_index (sz := 4) (k := i) (r := ko + i * 4) hf Try.underlying24 (by kernel_rfl) rfl rfl rfl hlt rfl) ?_
  clear hf a; intro a hf
  refine rV hf rfl (ex_loadN (cs := [d0, d1, d2, d3]) (m := 4) hf rfl (by kernel_rfl) rfl hK) ?_
  clear hf a; intro a hf
  obtain ⟨w43, b44, he, hB45, hx46, eb47, lb48⟩ := eT a w' 0
  refine rV hf rfl he ?_
  clear he hf a; intro a hf
  have ge_b44 := ge_new hE eb47
  have tb_b44 : hi0 ≤ b44 := by omega
  replace hT := hT.t0 hx46
  replace hE := hE.t0 hx46
  clear eb47 lb48
  obtain ⟨w49, he, hB50, hx51⟩ := eN (.tmp 5) (.tmp 33) hf rfl rfl rfl on_T hB45 rfl 0
  refine rS hf rfl he ?_
  clear he hf a; intro a hf
  replace hT := hT.chg hx51 (fun b hb hlt2 => (nmc (by omega) nm0))
  replace hE := hE.n1 hx51 ge_b44
  clear hB45
  refine rR 4 hf rfl ?_
  clear hf a; intro a hf
  refine rV hf rfl (ex_loadBN (m := 4) hf rfl (by kernel_rfl) hB50 rfl) ?_
  clear hf a; intro a hf
  rcases Bool.eq_false_or_eq_true (smallT ks[i]) with hbk | hbk
  refine rC hf rfl rfl (by kernel_rfl) (bool_is (ih _ _ _ _ _ _ _ (by omega) (by omega) hT) hbk) ?_
  rintro _ w53 ⟨rfl, hx52⟩
  refine ⟨_, rfl, ?_⟩
  clear hf a; intro a hf
  replace hB50 := hB50.c0 hx52
  replace hT := hT.t0 hx52
  replace hE := hE.t0 hx52
  refine rR 8 hf rfl ?_
  clear hf a; intro a hf
  refine rV hf rfl (ex_addI hf rfl rfl rfl (by omega)) ?_
  clear hf a; intro a hf
  refine rR 2 hf rfl ?_
  clear hf a; intro a hf
  exact rX ⟨_, (by omega : ks.length - (i + 1) < ks.length - i), i + 1, hf.pick ⟨rfl, rfl, rfl, trivial⟩, hE, by omega, rfl, by rw [← hm, hmm, hbk]; rfl⟩
  refine rC hf rfl rfl (by kernel_rfl) (bool_is (ih _ _ _ _ _ _ _ (by omega) (by omega) hT) hbk) ?_
  rintro _ w54 ⟨rfl, hx52⟩
  refine ⟨_, rfl, ?_⟩
  clear hf a; intro a hf
  replace hB50 := hB50.c0 hx52
  replace hT := hT.t0 hx52
  replace hE := hE.t0 hx52
  refine rR 12 hf rfl ?_
  clear hf a; intro a hf
  refine rOr ?_
  refine rR 2 hf rfl ?_
  clear hf a; intro a hf
  exact rT (rs := [.tmp 2]) hf rfl ⟨_, _, rfl, rfl, rfl⟩ ⟨ret_b (by rw [smallT, ← hm, hmm, hbk]; simp), hE⟩
  have hz : ks.drop i = [] := List.drop_of_length_le (by omega)
  rw [hz, smallsT] at hm
  refine rR 2 hf rfl ?_
  clear hf a; intro a hf
  refine rV hf rfl (ex_ltI (c := false) hf rfl rfl (by simp; omega)) ?_
  clear hf a; intro a hf
  refine rR 6 hf rfl ?_
  clear hf a; intro a hf
  refine rO ?_
  refine rR 8 hf rfl ?_
  clear hf a; intro a hf
  exact rT (rs := [.tmp 2]) hf rfl ⟨_, _, rfl, rfl, rfl⟩ ⟨ret_b (by rw [smallT, ← hm, hq]; rfl), hE⟩
  clear hf a; intro h24 a hf
  refine rR 11 hf rfl ?_
  clear hf a; intro a hf
  refine rV hf rfl (ex_loadB hf rfl (by kernel_rfl) hB3 rfl) ?_
  clear hf a; intro a hf
  refine rV hf rfl (ex_len hf Try.underlying24 rfl) ?_
  clear hf a; intro a hf
  refine rR 4 hf rfl ?_
  clear hf a; intro a hf
  have hq : fewT k ks.length = true := by simp only [qA, qB, qC, qD, qE, qF, ne_eq, Int.not_lt, Int.not_le, Decidable.not_not] at h12 h16 h20 h24; simp [fewT, h12, h16, h20, h24] <;> omega
  refine rL (fun g a w' => ∃ i, Fr a 38 (fm [(28, .slice B ks.length n), (29, .int .i64 (ks.length : Nat)), (30, .int .i64 (i : Nat))]) ∧ Chg [] w w' ∧ i ≤ ks.length ∧ g = ks.length - i ∧ smallsT (ks.drop i) = smallsT ks) _ ⟨0, hf.pick ⟨rfl, rfl, rfl, trivial⟩, hE, Nat.zero_le _, rfl, rfl⟩ ?_
  clear hf a; intro g0 a w' hI
  obtain ⟨i, hf, hE, hi, rfl, hm⟩ := hI
  by_cases hlt : i < ks.length
  obtain ⟨kb, ko, rfl, _, hkb, hcell⟩ := hrow.2 (by omega)
  obtain ⟨d0, d1, d2, d3, hT, hK⟩ := kid_cells hkids hkb hcell hlt hE
  have on_T := hT.one
  have htt := kbulk_at hlt
  have hts := tsize_at hlt
  have hmm := smallsT_step hlt
  have lt_kb := hE.lt hkb
  obtain ⟨hi0, ehi0⟩ : ∃ x, x = w'.heap.size := ⟨_, rfl⟩
  replace hT := hT.keepB (S' := fun b => b < hi0) (fun b _ hb => by omega) (fun _ _ _ => rfl)
  refine rR 2 hf rfl ?_
  clear hf a; intro a hf
  refine rV hf rfl (ex_ltI (c := true) hf rfl rfl (by simp; omega)) ?_
  clear hf a; intro a hf
  refine rR 10 hf rfl ?_
  clear hf a; intro a hf
  refine rV hf rfl (ex_index (sz := 4) (k := i) (r := ko + i * 4) hf Try.underlying24 (by kernel_rfl) rfl rfl rfl hlt rfl) ?_
  clear hf a; intro a hf
  refine rV hf rfl (ex_loadN (cs := [d0, d1, d2, d3]) (m := 4) hf rfl (by kernel_rfl) rfl hK) ?_
  clear hf a; intro a hf
  obtain ⟨w55, b56, he, hB57, hx58, eb59, lb60⟩ := eT a w' 0
  refine rV hf rfl he ?_
  clear he hf a; intro a hf
  have ge_b56 := ge_new hE eb59
  have tb_b56 : hi0 ≤ b56 := by omega
  replace hT := hT.t0 hx58
  replace hE := hE.t0 hx58
  clear eb59 lb60
  obtain ⟨w61, he, hB62, hx63⟩ := eN (.tmp 5) (.tmp 33) hf rfl rfl rfl on_T hB57 rfl 0
  refine rS hf rfl he ?_
  clear he hf a; intro a hf
  replace hT := hT.chg hx63 (fun b hb hlt2 => (nmc (by omega) nm0))
  replace hE := hE.n1 hx63 ge_b56
  clear hB57
  refine rR 4 hf rfl ?_
  clear hf a; intro a hf
  refine rV hf rfl (ex_loadBN (m := 4) hf rfl (by kernel_rfl) hB62 rfl) ?_
  clear hf a; intro a hf
  rcases Bool.eq_false_or_eq_true (smallT ks[i]) with hbk | hbk
  refine rC hf rfl rfl (by kernel_rfl) (bool_is (ih _ _ _ _ _ _ _ (by omega) (by omega) hT) hbk) ?_
  rintro _ w65 ⟨rfl, hx64⟩
  refine ⟨_, rfl, ?_⟩
  clear hf a; intro a hf
  replace hB62 := hB62.c0 hx64
  replace hT := hT.t0 hx64
  replace hE := hE.t0 hx64
  refine rR 8 hf rfl ?_
  clear hf a; intro a hf
  refine rV hf rfl (ex_addI hf rfl rfl rfl (by omega)) ?_
  clear hf a; intro a hf
  refine rR 2 hf rfl ?_
  clear hf a; intro a hf
  exact rX ⟨_, (by omega : ks.length - (i + 1) < ks.length - i), i + 1, hf.pick ⟨rfl, rfl, rfl, trivial⟩, hE, by omega, rfl, by rw [← hm, hmm, hbk]; rfl⟩
  refine rC hf rfl rfl (by kernel_rfl) (bool_is (ih _ _ _ _ _ _ _ (by omega) (by omega) hT) hbk) ?_
  rintro _ w66 ⟨rfl, hx64⟩
  refine ⟨_, rfl, ?_⟩
  clear hf a; intro a hf
  replace hB62 := hB62.c0 hx64
  replace hT := hT.t0 hx64
  replace hE := hE.t0 hx64
  refine rR 12 hf rfl ?_
  clear hf a; intro a hf
  refine rOr ?_
  refine rR 2 hf rfl ?_
  clear hf a; intro a hf
  exact rT (rs := [.tmp 2]) hf rfl ⟨_, _, rfl, rfl, rfl⟩ ⟨ret_b (by rw [smallT, ← hm, hmm, hbk]; simp), hE⟩
  have hz : ks.drop i = [] := List.drop_of_length_le (by omega)
  rw [hz, smallsT] at hm
  refine rR 2 hf rfl ?_
  clear hf a; intro a hf
  refine rV hf rfl (ex_ltI (c := false) hf rfl rfl (by simp; omega)) ?_
  clear hf a; intro a hf
  refine rR 6 hf rfl ?_
  clear hf a; intro a hf
  refine rO ?_
  refine rR 8 hf rfl ?_
  clear hf a; intro a hf
  exact rT (rs := [.tmp 2]) hf rfl ⟨_, _, rfl, rfl, rfl⟩ ⟨ret_b (by rw [smallT, ← hm, hq]; rfl), hE⟩
theorem smallL : ∀ N, SmallOk N
  | 0 => fun t _ _ _ _ _ _ hN => by cases t; simp only [tsize] at hN; omega
  | N + 1 => small_step (smallL N)
end Go.Proofs.Ythpjpngfghcmcaa
namespace Go.Proofs.Ythpjpngfghcmcaa
open Go.RowKit Lx
set_option maxRecDepth 100000
set_option maxHeartbeats 1000000 in
theorem triviaL (l : List UInt8) (fin : Bool) (w : World) (hl : l.length ≤ 281474976710656) : Calls Try.prog 60 #[.string ⟨l.toArray⟩, .bool fin] w fun e w' => e = .returned (.bool (triviaT false l fin)) ∧ w = w' := by
  obtain ⟨r, hr⟩ : ∃ r, triviaT false l fin = r := ⟨_, rfl⟩
  rw [hr]
  have HR := Lib.hid hr; clear hr
  go_enter Try.func60, Try.ntmps60
  go_wp2_with fail
  go_loopg [5, 6] l.length (fun g s5 s6 wx => ∃ (i : Nat) (c : Bool), g = l.length - i ∧ wx = w ∧ i ≤ l.length ∧ s5 = .bool c ∧ s6 = .int .i64 i ∧ Hid (triviaT c (l.drop i) fin = r))
  case atStart => exact ⟨0, false, rfl, rfl, Nat.zero_le _, rfl, rfl, Lib.hid (by simpa using HR.out)⟩
  case round =>
    obtain ⟨i, c, rfl, rfl, hil, rfl, rfl, HT⟩ := hrel
    by_cases hit : i < l.length
    rotate_left
    · have HF := Lib.hid (show (!c || fin) = r from by rw [← HT.out, triviaT_end (by omega)])
      cases c <;> (go_wp2_with fail; go_ret; exact ⟨ret_bool (by rw [← HF.out]; rfl), rfl⟩)
    obtain ⟨x, hx⟩ : ∃ c, ({ data := l.toArray } : ByteArray)[i]'hit = c := ⟨_, rfl⟩
    have HXi := Lib.hid (show l[i] = x from hx)
    have HS := Lib.hid (HT.out.symm.trans (triviaT_step hit HXi.out))
    clear HT
    cases ha : allowedB x
    · go_wp2_with (first | (go_at_call 45; refine (whiteL _ _).mono ?_; rintro e w' ⟨rfl, rfl⟩) | (go_at_call 46; refine (allowedL _ _).mono ?_; rintro e w' ⟨rfl, rfl⟩))
      go_ret
      exact ⟨ret_bool (by rw [HS.out, if_pos ha]), rfl⟩
    cases c with
    | true =>
      go_wp2_with (first | (go_at_call 45; refine (whiteL _ _).mono ?_; rintro e w' ⟨rfl, rfl⟩) | (go_at_call 46; refine (allowedL _ _).mono ?_; rintro e w' ⟨rfl, rfl⟩))
      go_roundg (l.length - (i + 1))
      case measure => omega
      case rel => exact ⟨i + 1, !(x.toNat == 10), rfl, rfl, by omega, by rw [neq10], by go_num, Lib.hid (by rw [HS.out, if_neg (by simp [ha]), if_pos (by trivial)])⟩
    | false =>
      cases h35 : ((x.toNat : Int) == 35)
      rotate_left
      · go_wp2_with (first | (go_at_call 45; refine (whiteL _ _).mono ?_; rintro e w' ⟨rfl, rfl⟩) | (go_at_call 46; refine (allowedL _ _).mono ?_; rintro e w' ⟨rfl, rfl⟩))
        go_roundg (l.length - (i + 1))
        case measure => omega
        case rel => exact ⟨i + 1, true, rfl, rfl, by omega, rfl, by go_num, Lib.hid (by rw [HS.out, if_neg (by simp [ha]), if_neg (by simp), if_pos (beqI (m := 35) h35)])⟩
      cases hw : whiteB x
      · go_wp2_with (first | (go_at_call 45; refine (whiteL _ _).mono ?_; rintro e w' ⟨rfl, rfl⟩) | (go_at_call 46; refine (allowedL _ _).mono ?_; rintro e w' ⟨rfl, rfl⟩))
        go_ret
        exact ⟨ret_bool (by rw [HS.out, if_neg (by simp [ha]), if_neg (by simp), if_neg (bneI (m := 35) h35), if_pos hw]), rfl⟩
      · go_wp2_with (first | (go_at_call 45; refine (whiteL _ _).mono ?_; rintro e w' ⟨rfl, rfl⟩) | (go_at_call 46; refine (allowedL _ _).mono ?_; rintro e w' ⟨rfl, rfl⟩))
        go_roundg (l.length - (i + 1))
        case measure => omega
        case rel => exact ⟨i + 1, false, rfl, rfl, by omega, rfl, by go_num, Lib.hid (by rw [HS.out, if_neg (by simp [ha]), if_neg (by simp), if_neg (bneI (m := 35) h35), if_neg (by simp [hw])])⟩
set_option maxHeartbeats 1000000 in
theorem triviaR (l : List UInt8) (fin : Bool) (w : World) (hl : l.length ≤ 281474976710656) : Calls Try.prog 95 #[.string ⟨l.toArray⟩, .bool fin] w fun e w' => e = .returned (.bool (triviaT false l fin)) ∧ w = w' := by
  obtain ⟨n, b, hLd⟩ : ∃ n b, leadT false l 0 = (n, b) := ⟨_, _, rfl⟩
  have hnl : n ≤ l.length := by have h := leadT_le false l 0; rw [hLd] at h; simpa using h
  have HLd := Lib.hid hLd
  have HW := Lib.hid (show wholeB false l = (b.isNone && n == l.length) from by rw [wholeB, hLd])
  have HT := Lib.hid (triviaT_eq l false fin)
  clear hLd
  go_enter Try.func95, Try.ntmps95
  go_wp2_with fail
  refine (leadR l 0 0 rfl _ (Nat.zero_le _) hl).mono ?_
  rintro e w' ⟨rfl, rfl⟩
  rw [List.drop_zero, HLd.out]
  cases b with
  | some q =>
    have hq2 : badI 0 (some q) = ((0 + q : Nat) : Int) := rfl
    rw [hq2, Nat.zero_add]
    have hq : (0 : Int) ≤ (q : Int) := by omega
    have HF := Lib.hid (show triviaT false l fin = false from by rw [HT.out, HW.out]; rfl)
    go_wp2
    go_ret
    exact ⟨ret_bool HF.out.symm, rfl⟩
  | none =>
    have hq2 : badI 0 none = -1 := rfl
    rw [hq2]
    clear hq2
    by_cases hn : n < l.length
    · have HF := Lib.hid (show triviaT false l fin = false from by rw [HT.out, HW.out]; have : (n == l.length) = false := by simp; omega
                                                                   rw [this]; rfl)
      go_wp2
      go_ret
      exact ⟨ret_bool HF.out.symm, rfl⟩
    · have hnb : decide (n < l.length) = false := by simpa using hn
      have HF := Lib.hid (show triviaT false l fin = (!commentT false l || fin) from by
        rw [HT.out, HW.out]; have : (n == l.length) = true := by simp; omega
        rw [this]; rfl)
      cases fin with
      | true =>
        go_wp2
        go_ret
        exact ⟨ret_bool (by rw [HF.out]; simp), rfl⟩
      | false =>
        obtain ⟨r, hr⟩ : ∃ r, commentT false l = r := ⟨_, rfl⟩
        have HR := Lib.hid hr; clear hr
        go_wp2
        go_loopg [7, 8] l.length (fun g s7 s8 wx => ∃ (i : Nat) (c : Bool), g = l.length - i ∧ wx = w ∧ i ≤ l.length ∧ s7 = .bool c ∧ s8 = .int .i64 i ∧ Hid (commentT c (l.drop i) = r))
        case atStart => exact ⟨0, false, rfl, rfl, Nat.zero_le _, rfl, rfl, Lib.hid (by simpa using HR.out)⟩
        case round =>
          obtain ⟨i, c, rfl, rfl, hil, rfl, rfl, HC⟩ := hrel
          by_cases hit : i < l.length
          rotate_left
          · have HF2 := Lib.hid (show c = r from by rw [← HC.out, commentT_end (by omega)])
            go_wp2_with fail
            go_ret
            exact ⟨ret_bool (by rw [HF.out, HR.out, HF2.out]; simp), rfl⟩
          obtain ⟨x, hx⟩ : ∃ c, ({ data := l.toArray } : ByteArray)[i]'hit = c := ⟨_, rfl⟩
          have HXi := Lib.hid (show l[i] = x from hx)
          have HS := Lib.hid (HC.out.symm.trans (commentT_step hit HXi.out))
          clear HC
          cases h35 : ((x.toNat : Int) == 35) <;> cases h10 : ((x.toNat : Int) == 10)
          · go_wp2
            go_roundg (l.length - (i + 1))
            case measure => omega
            case rel => exact ⟨i + 1, c, rfl, rfl, by omega, rfl, by go_num, Lib.hid (by rw [HS.out, if_neg (bneI (m := 10) h10), if_neg (bneI (m := 35) h35)])⟩
          · go_wp2
            go_roundg (l.length - (i + 1))
            case measure => omega
            case rel => exact ⟨i + 1, false, rfl, rfl, by omega, rfl, by go_num, Lib.hid (by rw [HS.out, if_pos (beqI (m := 10) h10)])⟩
          · go_wp2
            go_roundg (l.length - (i + 1))
            case measure => omega
            case rel => exact ⟨i + 1, true, rfl, rfl, by omega, rfl, by go_num, Lib.hid (by rw [HS.out, if_neg (bneI (m := 10) h10), if_pos (beqI (m := 35) h35)])⟩
          · have h1 := beqI (m := 10) h10
            have h2 := beqI (m := 35) h35
            omega
end Go.Proofs.Ythpjpngfghcmcaa
namespace Go.Proofs.Ythpjpngfghcmcaa
open Go.RowKit Lx Sx
set_option maxRecDepth 100000
set_option maxHeartbeats 4000000
def trivsT (k : Int) : List (List UInt8) → Nat → Bool
  | [], _ => true
  | l :: r, i => triviaT false l (k == 1 && (i : Int) == 2) && trivsT k r (i + 1)
mutual
def leadedT : Tree → Bool
  | .node k _ ls ks => decide ((ls.length : Int) = leadsT k ks.length) && trivsT k ls 0 && leadedsT ks
def leadedsT : List Tree → Bool
  | [] => true
  | t :: r => leadedT t && leadedsT r
end
theorem leadedsT_step {i : Nat} {ks : List Tree} (h : i < ks.length) : leadedsT (ks.drop i) = (leadedT ks[i] && leadedsT (ks.drop (i + 1))) := by rw [List.drop_eq_getElem_cons h, leadedsT]
theorem trivsT_step {k : Int} {i : Nat} {ls : List (List UInt8)} (h : i < ls.length) : trivsT k (ls.drop i) i = (triviaT false ls[i] (k == 1 && (i : Int) == 2) && trivsT k (ls.drop (i + 1)) (i + 1)) := by rw [List.drop_eq_getElem_cons h, trivsT]
theorem lsum_at : ∀ {ls : List (List UInt8)} {i : Nat} (h : i < ls.length), ls[i].length ≤ lsum ls
  | t :: r, 0, _ => by simp only [lsum, List.getElem_cons_zero]; omega
  | t :: r, i + 1, h => by have := lsum_at (ls := r) (i := i) (by simpa using h); simp only [lsum, List.getElem_cons_succ]; omega
theorem lsum_len : ∀ (ls : List (List UInt8)), ls.length ≤ lsum ls
  | [] => Nat.le_refl _
  | t :: r => by have := lsum_len r; simp only [lsum, List.length_cons]; omega
def LeadedOk (N : Nat) : Prop := ∀ (t : Tree) (S : Nat → Prop) (w : World) (c0 c1 c2 c3 : Value), tsize t ≤ N → tbulk t ≤ 1000000000 → TreeIs S w t [c0, c1, c2, c3] → Calls Try.prog 32 [.agg #[c0, c1, c2, c3]].toArray w fun e w' => e = .returned (.bool (leadedT t)) ∧ Chg [] w w'
theorem leaded_step {N : Nat} (ih : LeadedOk N) : LeadedOk (N + 1) := by
  intro t S w c0 c1 c2 c3 hN hd hT
  obtain ⟨k, tx, ls, ks⟩ := t
  simp only [TreeIs] at hT
  obtain ⟨A, m0, B, n, hc, _, _, hb1, hb2, hrowL, cs, hkids, hrow⟩ := hT
  simp only [List.cons.injEq, and_true] at hc
  obtain ⟨rfl, rfl, rfl, rfl⟩ := hc
  simp only [tsize] at hN
  simp only [tbulk] at hd
  have hkl := kbulk_len ks
  have hll := lsum_len ls
  by_cases hne : (ls.length : Int) = leadsT k ks.length
  · skip
    refine rE 47 Try.func32 rfl rfl rfl ?_
    intro a hf
    have hE := Chg.refl [] w
    refine rR 2 hf rfl ?_
    clear hf a; intro a hf
    obtain ⟨w1, b2, he, hB3, hx4, eb5, lb6⟩ := ef_box (P := Try.prog) (t := 26) (x := (.tmp 0)) hf rfl rfl w 0
    refine rV hf rfl he ?_
    clear he hf a; intro a hf
    have ge_b2 := ge_new hE eb5
    replace hE := hE.t0 hx4
    clear eb5 lb6
    refine rR 5 hf rfl ?_
    clear hf a; intro a hf
    have s_hB3 := hB3
    refine rD (fun x => x.cell? ⟨b2, 2, none⟩ = w1.cell? ⟨b2, 2, none⟩ ∧ x.cell? ⟨b2, 0, none⟩ = w1.cell? ⟨b2, 0, none⟩ ∧ x.cell? ⟨b2, 3, none⟩ = w1.cell? ⟨b2, 3, none⟩) 10 10 rfl (by kernel_rfl) (by kernel_rfl) ?_
    intro w7 hx8 hsel
    replace hB3 := hB3.c0 hx8
    replace hE := hE.t0 hx8
    have hS0 : w7.cell? ⟨b2, 2, none⟩ = w1.cell? ⟨b2, 2, none⟩ ∧ w7.cell? ⟨b2, 0, none⟩ = w1.cell? ⟨b2, 0, none⟩ ∧ w7.cell? ⟨b2, 3, none⟩ = w1.cell? ⟨b2, 3, none⟩ := ⟨(hB3.cell 2).trans (s_hB3.cell 2).symm, (hB3.cell 0).trans (s_hB3.cell 0).symm, (hB3.cell 3).trans (s_hB3.cell 3).symm⟩
    refine dR [0] hsel (by kernel_rfl) hf rfl rfl (.inl hS0) ?_
    clear hf a; intro a hf
    refine dL 1 rfl rfl hsel (by kernel_rfl) hf rfl hS0 (fun x hS => ex_load hf rfl (by kernel_rfl) (hS.1.trans ((s_hB3.cell 2).trans rfl))) ?_
    clear hf a; intro a hf
    refine dV 2 rfl rfl hsel (by kernel_rfl) hf rfl (.inl hS0) (fun x => ex_len hf Try.underlying23 rfl) ?_
    clear hf a; intro a hf
    refine dR [3] hsel (by kernel_rfl) hf rfl rfl (.inl hS0) ?_
    clear hf a; intro a hf
    refine dL 4 rfl rfl hsel (by kernel_rfl) hf rfl hS0 (fun x hS => ex_load hf rfl (by kernel_rfl) (hS.2.1.trans ((s_hB3.cell 0).trans rfl))) ?_
    clear hf a; intro a hf
    refine dR [5] hsel (by kernel_rfl) hf rfl rfl (.inl hS0) ?_
    clear hf a; intro a hf
    refine dL 6 rfl rfl hsel (by kernel_rfl) hf rfl hS0 (fun x hS => ex_load hf rfl (by kernel_rfl) (hS.2.2.trans ((s_hB3.cell 3).trans rfl))) ?_
    clear hf a; intro a hf
    refine dV 7 rfl rfl hsel (by kernel_rfl) hf rfl (.inl hS0) (fun x => ex_len hf Try.underlying24 rfl) ?_
    clear hf a; intro a hf
    refine dl_c 8 (by kernel_rfl) rfl hf rfl rfl rfl (by kernel_rfl) (leadsL (by omega)) ?_
    rintro _ w10 ⟨rfl, hx9⟩
    refine ⟨_, rfl, ?_⟩
    clear hf a; intro a hf
    replace hB3 := hB3.c0 hx9
    replace hE := hE.t0 hx9
    clear hS0
    have hS0 : w10.cell? ⟨b2, 2, none⟩ = w1.cell? ⟨b2, 2, none⟩ ∧ w10.cell? ⟨b2, 0, none⟩ = w1.cell? ⟨b2, 0, none⟩ ∧ w10.cell? ⟨b2, 3, none⟩ = w1.cell? ⟨b2, 3, none⟩ := ⟨(hB3.cell 2).trans (s_hB3.cell 2).symm, (hB3.cell 0).trans (s_hB3.cell 0).symm, (hB3.cell 3).trans (s_hB3.cell 3).symm⟩
    refine ⟨.inl hS0, ?_⟩
    refine dV 9 rfl rfl hsel (by kernel_rfl) hf rfl (.inl hS0) (fun x => ex_neI (c := false) hf rfl rfl (by simp [hne])) ?_
    clear hf a; intro a hf
    refine rN (by kernel_rfl) ?_
    clear hS0 hsel
    refine rR 8 hf rfl ?_
    clear hf a; intro a hf
    refine rV hf rfl (ex_loadB hf rfl (by kernel_rfl) hB3 rfl) ?_
    clear hf a; intro a hf
    refine rV hf rfl (ex_len hf Try.underlying23 rfl) ?_
    clear hf a; intro a hf
    refine rR 4 hf rfl ?_
    clear hf a; intro a hf
    refine rL (fun g a w' => ∃ i, Fr a 47 (fm [(1, .pointer (some ⟨b2, 0, none⟩)), (18, .slice A ls.length m0), (19, .int .i64 (ls.length : Nat)), (20, .int .i64 (i : Nat))]) ∧ Chg [] w w' ∧ Blk w' b2 26 [.int .i64 k, strV tx, .slice A ls.length m0, .slice B ks.length n] ∧ i ≤ ls.length ∧ g = ls.length - i ∧ trivsT k (ls.drop i) i = trivsT k ls 0) _ ⟨0, hf.pick ⟨rfl, rfl, rfl, rfl, trivial⟩, hE, hB3, Nat.zero_le _, rfl, rfl⟩ ?_
    obtain ⟨b1, eb1⟩ : ∃ x, b2 = x := ⟨_, rfl⟩
    rw [eb1]
    have ge_b1 : w.heap.size ≤ b1 := eb1 ▸ ge_b2
    clear eb1 hf a
    intro g0 a w' hI
    obtain ⟨i, hf, hE, hB1, hi, rfl, hm⟩ := hI
    have lt_b1 := hB1.lt
    by_cases hlt : i < ls.length
    obtain ⟨lb, lo, rfl, _, hlb, hcellL⟩ := hrowL.2 (by omega)
    have htt := lsum_at hlt
    have hmm := trivsT_step (k := k) hlt
    have lt_lb := hE.lt hlb
    have hK0 : w'.cell? ⟨lb, lo + i * 1, none⟩ = some (strV ls[i]) := by rw [hE.cell hlb nm0, Nat.mul_one, hcellL _ (by omega)]; simp [hlt]
    refine rR 2 hf rfl ?_
    clear hf a; intro a hf
    refine rV hf rfl (ex_ltI (c := true) hf rfl rfl (by simp; omega)) ?_
    clear hf a; intro a hf
    refine rR 11 hf rfl ?_
    clear hf a; intro a hf
    refine rV hf rfl (ex_index (sz := 1) (k := i) (r := lo + i * 1) hf Try.underlying23 (by kernel_rfl) rfl rfl rfl hlt rfl) ?_
    clear hf a; intro a hf
    refine rV hf rfl (ex_load hf rfl (by kernel_rfl) hK0) ?_
    clear hf a; intro a hf
    refine rR 8 hf rfl ?_
    clear hf a; intro a hf
    refine rV hf rfl (ex_loadB hf rfl (by kernel_rfl) hB1 rfl) ?_
    clear hf a; intro a hf
    refine rB hf rfl (fun c hc => ex_eqI hf rfl rfl hc) ?_ ?_
    clear hf a; intro h28 a hf
    refine rR 2 hf rfl ?_
    clear hf a; intro a hf
    refine rB hf rfl (fun c hc => ex_eqI hf rfl rfl hc) ?_ ?_
    clear hf a; intro h31 a hf
    refine rR 1 hf rfl ?_
    clear hf a; intro a hf
    rcases Bool.eq_false_or_eq_true (triviaT false ls[i] true) with hbt | hbt
    refine rC hf rfl rfl (by kernel_rfl) (bool_is (calls_eq (triviaL ls[i] true _ (by omega))) hbt) ?_
    rintro _ w12 ⟨rfl, hx11⟩
    refine ⟨_, rfl, ?_⟩
    clear hf a; intro a hf
    replace hB1 := hB1.c0 hx11
    replace hE := hE.t0 hx11
    refine rR 8 hf rfl ?_
    clear hf a; intro a hf
    refine rV hf rfl (ex_addI hf rfl rfl rfl (by omega)) ?_
    clear hf a; intro a hf
    refine rR 2 hf rfl ?_
    clear hf a; intro a hf
    exact rX ⟨_, (by omega : ls.length - (i + 1) < ls.length - i), i + 1, hf.pick ⟨rfl, rfl, rfl, rfl, trivial⟩, hE, hB1, by omega, rfl, by rw [← hm, hmm]; simp [h28, h31, hbt]⟩
    refine rC hf rfl rfl (by kernel_rfl) (bool_is (calls_eq (triviaL ls[i] true _ (by omega))) hbt) ?_
    rintro _ w13 ⟨rfl, hx11⟩
    refine ⟨_, rfl, ?_⟩
    clear hf a; intro a hf
    replace hB1 := hB1.c0 hx11
    replace hE := hE.t0 hx11
    refine rR 12 hf rfl ?_
    clear hf a; intro a hf
    refine rOr ?_
    refine rR 2 hf rfl ?_
    clear hf a; intro a hf
    exact rT (rs := [.tmp 2]) hf rfl ⟨_, _, rfl, rfl, rfl⟩ ⟨ret_b (by rw [leadedT, ← hm, hmm]; simp [h28, h31, hbt]), hE⟩
    clear hf a; intro h31 a hf
    refine rR 1 hf rfl ?_
    clear hf a; intro a hf
    rcases Bool.eq_false_or_eq_true (triviaT false ls[i] false) with hbt | hbt
    refine rC hf rfl rfl (by kernel_rfl) (bool_is (calls_eq (triviaL ls[i] false _ (by omega))) hbt) ?_
    rintro _ w15 ⟨rfl, hx14⟩
    refine ⟨_, rfl, ?_⟩
    clear hf a; intro a hf
    replace hB1 := hB1.c0 hx14
    replace hE := hE.t0 hx14
    refine rR 8 hf rfl ?_
    clear hf a; intro a hf
    refine rV hf rfl (ex_addI hf rfl rfl rfl (by omega)) ?_
    clear hf a; intro a hf
    refine rR 2 hf rfl ?_
    clear hf a; intro a hf
    exact rX ⟨_, (by omega : ls.length - (i + 1) < ls.length - i), i + 1, hf.pick ⟨rfl, rfl, rfl, rfl, trivial⟩, hE, hB1, by omega, rfl, by rw [← hm, hmm]; simp [h28, h31, hbt]⟩
    refine rC hf rfl rfl (by kernel_rfl) (bool_is (calls_eq (triviaL ls[i] false _ (by omega))) hbt) ?_
    rintro _ w16 ⟨rfl, hx14⟩
    refine ⟨_, rfl, ?_⟩
    clear hf a; intro a hf
    replace hB1 := hB1.c0 hx14
    replace hE := hE.t0 hx14
    refine rR 12 hf rfl ?_
    clear hf a; intro a hf
    refine rOr ?_
    refine rR 2 hf rfl ?_
    clear hf a; intro a hf
    exact rT (rs := [.tmp 2]) hf rfl ⟨_, _, rfl, rfl, rfl⟩ ⟨ret_b (by rw [leadedT, ← hm, hmm]; simp [h28, h31, hbt]), hE⟩
    clear hf a; intro h28 a hf
    refine rR 4 hf rfl ?_
    clear hf a; intro a hf
    rcases Bool.eq_false_or_eq_true (triviaT false ls[i] false) with hbt | hbt
    refine rC hf rfl rfl (by kernel_rfl) (bool_is (calls_eq (triviaL ls[i] false _ (by omega))) hbt) ?_
    rintro _ w18 ⟨rfl, hx17⟩
    refine ⟨_, rfl, ?_⟩
    clear hf a; intro a hf
    replace hB1 := hB1.c0 hx17
    replace hE := hE.t0 hx17
    refine rR 8 hf rfl ?_
    clear hf a; intro a hf
    refine rV hf rfl (ex_addI hf rfl rfl rfl (by omega)) ?_
    clear hf a; intro a hf
    refine rR 2 hf rfl ?_
    clear hf a; intro a hf
    exact rX ⟨_, (by omega : ls.length - (i + 1) < ls.length - i), i + 1, hf.pick ⟨rfl, rfl, rfl, rfl, trivial⟩, hE, hB1, by omega, rfl, by rw [← hm, hmm]; simp [h28, hbt]⟩
    refine rC hf rfl rfl (by kernel_rfl) (bool_is (calls_eq (triviaL ls[i] false _ (by omega))) hbt) ?_
    rintro _ w19 ⟨rfl, hx17⟩
    refine ⟨_, rfl, ?_⟩
    clear hf a; intro a hf
    replace hB1 := hB1.c0 hx17
    replace hE := hE.t0 hx17
    refine rR 12 hf rfl ?_
    clear hf a; intro a hf
    refine rOr ?_
    refine rR 2 hf rfl ?_
    clear hf a; intro a hf
    exact rT (rs := [.tmp 2]) hf rfl ⟨_, _, rfl, rfl, rfl⟩ ⟨ret_b (by rw [leadedT, ← hm, hmm]; simp [h28, hbt]), hE⟩
    have hz : ls.drop i = [] := List.drop_of_length_le (by omega)
    rw [hz, trivsT] at hm
    refine rR 2 hf rfl ?_
    clear hf a; intro a hf
    refine rV hf rfl (ex_ltI (c := false) hf rfl rfl (by simp; omega)) ?_
    clear hf a; intro a hf
    refine rR 6 hf rfl ?_
    clear hf a; intro a hf
    refine rO ?_
    refine rR 6 hf rfl ?_
    clear hf a; intro a hf
    refine rV hf rfl (ex_loadB hf rfl (by kernel_rfl) hB1 rfl) ?_
    clear hf a; intro a hf
    refine rV hf rfl (ex_len hf Try.underlying24 rfl) ?_
    clear hf a; intro a hf
    refine rR 4 hf rfl ?_
    clear hf a; intro a hf
    refine rL (fun g a w' => ∃ i, Fr a 47 (fm [(37, .slice B ks.length n), (38, .int .i64 (ks.length : Nat)), (39, .int .i64 (i : Nat))]) ∧ Chg [] w w' ∧ i ≤ ks.length ∧ g = ks.length - i ∧ leadedsT (ks.drop i) = leadedsT ks) _ ⟨0, hf.pick ⟨rfl, rfl, rfl, trivial⟩, hE, Nat.zero_le _, rfl, rfl⟩ ?_
    clear hf a; intro g0 a w' hI
    obtain ⟨i, hf, hE, hi, rfl, hm2⟩ := hI
    by_cases hlt : i < ks.length
    obtain ⟨kb, ko, rfl, _, hkb, hcell⟩ := hrow.2 (by omega)
    obtain ⟨d0, d1, d2, d3, hT, hK⟩ := kid_cells hkids hkb hcell hlt hE
    have on_T := hT.one
    have htt := kbulk_at hlt
    have hts := tsize_at hlt
    have hmm := leadedsT_step hlt
    have lt_kb := hE.lt hkb
    obtain ⟨hi0, ehi0⟩ : ∃ x, x = w'.heap.size := ⟨_, rfl⟩
    replace hT := hT.keepB (S' := fun b => b < hi0) (fun b _ hb => by omega) (fun _ _ _ => rfl)
    refine rR 2 hf rfl ?_
    clear hf a; intro a hf
    refine rV hf rfl (ex_ltI (c := true) hf rfl rfl (by simp; omega)) ?_
    clear hf a; intro a hf
    refine rR 10 hf rfl ?_
    clear hf a; intro a hf
    refine rV hf rfl (ex_index (sz := 4) (k := i) (r := ko + i * 4) hf Try.underlying24 (by kernel_rfl) rfl rfl rfl hlt rfl) ?_
    clear hf a; intro a hf
    refine rV hf rfl (ex_loadN (cs := [d0, d1, d2, d3]) (m := 4) hf rfl (by kernel_rfl) rfl hK) ?_
    clear hf a; intro a hf
    obtain ⟨w20, b21, he, hB22, hx23, eb24, lb25⟩ := eT a w' 0
    refine rV hf rfl he ?_
    clear he hf a; intro a hf
    have ge_b21 := ge_new hE eb24
    have tb_b21 : hi0 ≤ b21 := by omega
    replace hT := hT.t0 hx23
    replace hE := hE.t0 hx23
    clear eb24 lb25
    obtain ⟨w26, he, hB27, hx28⟩ := eN (.tmp 6) (.tmp 42) hf rfl rfl rfl on_T hB22 rfl 0
    refine rS hf rfl he ?_
    clear he hf a; intro a hf
    replace hT := hT.chg hx28 (fun b hb hlt2 => (nmc (by omega) nm0))
    replace hE := hE.n1 hx28 ge_b21
    clear hB22
    refine rR 4 hf rfl ?_
    clear hf a; intro a hf
    refine rV hf rfl (ex_loadBN (m := 4) hf rfl (by kernel_rfl) hB27 rfl) ?_
    clear hf a; intro a hf
    rcases Bool.eq_false_or_eq_true (leadedT ks[i]) with hbk | hbk
    refine rC hf rfl rfl (by kernel_rfl) (bool_is (ih _ _ _ _ _ _ _ (by omega) (by omega) hT) hbk) ?_
    rintro _ w30 ⟨rfl, hx29⟩
    refine ⟨_, rfl, ?_⟩
    clear hf a; intro a hf
    replace hB27 := hB27.c0 hx29
    replace hT := hT.t0 hx29
    replace hE := hE.t0 hx29
    refine rR 8 hf rfl ?_
    clear hf a; intro a hf
    refine rV hf rfl (ex_addI hf rfl rfl rfl (by omega)) ?_
    clear hf a; intro a hf
    refine rR 2 hf rfl ?_
    clear hf a; intro a hf
    exact rX ⟨_, (by omega : ks.length - (i + 1) < ks.length - i), i + 1, hf.pick ⟨rfl, rfl, rfl, trivial⟩, hE, by omega, rfl, by rw [← hm2, hmm, hbk]; rfl⟩
    refine rC hf rfl rfl (by kernel_rfl) (bool_is (ih _ _ _ _ _ _ _ (by omega) (by omega) hT) hbk) ?_
    rintro _ w31 ⟨rfl, hx29⟩
    refine ⟨_, rfl, ?_⟩
    clear hf a; intro a hf
    replace hB27 := hB27.c0 hx29
    replace hT := hT.t0 hx29
    replace hE := hE.t0 hx29
    refine rR 12 hf rfl ?_
    clear hf a; intro a hf
    refine rOr ?_
    refine rR 2 hf rfl ?_
    clear hf a; intro a hf
    exact rT (rs := [.tmp 2]) hf rfl ⟨_, _, rfl, rfl, rfl⟩ ⟨ret_b (by rw [leadedT, ← hm2, hmm, hbk]; simp), hE⟩
    have hz : ks.drop i = [] := List.drop_of_length_le (by omega)
    rw [hz, leadedsT] at hm2
    refine rR 2 hf rfl ?_
    clear hf a; intro a hf
    refine rV hf rfl (ex_ltI (c := false) hf rfl rfl (by simp; omega)) ?_
    clear hf a; intro a hf
    refine rR 6 hf rfl ?_
    clear hf a; intro a hf
    refine rO ?_
    refine rR 8 hf rfl ?_
    clear hf a; intro a hf
    exact rT (rs := [.tmp 2]) hf rfl ⟨_, _, rfl, rfl, rfl⟩ ⟨ret_b (by rw [leadedT, ← hm, ← hm2]; simp [hne]), hE⟩
  · skip
    refine rE 47 Try.func32 rfl rfl rfl ?_
    intro a hf
    have hE := Chg.refl [] w
    refine rR 2 hf rfl fun a hf => ?_
    obtain ⟨w1, b2, he, hB3, hx4, eb5, lb6⟩ := ef_box (P := Try.prog) (t := 26) (x := (.tmp 0)) hf rfl rfl w 0
    refine rV hf rfl he fun a hf => ?_
    have ge_b2 := ge_new hE eb5
    replace hE := hE.t0 hx4
    clear eb5 lb6
    refine rR 5 hf rfl fun a hf => ?_
    have s_hB3 := hB3
    refine rD (fun x => x.cell? ⟨b2, 2, none⟩ = w1.cell? ⟨b2, 2, none⟩ ∧ x.cell? ⟨b2, 0, none⟩ = w1.cell? ⟨b2, 0, none⟩ ∧ x.cell? ⟨b2, 3, none⟩ = w1.cell? ⟨b2, 3, none⟩) 10 10 rfl (by kernel_rfl) (by kernel_rfl) ?_
    intro w7 hx8 hsel
    replace hB3 := hB3.c0 hx8
    replace hE := hE.t0 hx8
    have hS0 : w7.cell? ⟨b2, 2, none⟩ = w1.cell? ⟨b2, 2, none⟩ ∧ w7.cell? ⟨b2, 0, none⟩ = w1.cell? ⟨b2, 0, none⟩ ∧ w7.cell? ⟨b2, 3, none⟩ = w1.cell? ⟨b2, 3, none⟩ := ⟨(hB3.cell 2).trans (s_hB3.cell 2).symm, (hB3.cell 0).trans (s_hB3.cell 0).symm, (hB3.cell 3).trans (s_hB3.cell 3).symm⟩
    refine dR [0] hsel (by kernel_rfl) hf rfl rfl (.inl hS0) fun a hf => dL 1 rfl rfl hsel (by kernel_rfl) hf rfl hS0 (fun x hS => ex_load hf rfl (by kernel_rfl) (hS.1.trans ((s_hB3.cell 2).trans rfl))) fun a hf => dV 2 rfl rfl hsel (by kernel_rfl) hf rfl (.inl hS0) (fun x => ex_len hf Try.underlying23 rfl) fun a hf => dR [3] hsel (by kernel_rfl) hf rfl rfl (.inl hS0) fun a hf => dL 4 rfl rfl hsel (by kernel_rfl) hf rfl hS0 (fun x hS => ex_load hf rfl (by kernel_rfl) (hS.2.1.trans ((s_hB3.cell 0).trans rfl))) fun a hf => dR [5] hsel (by kernel_rfl) hf rfl rfl (.inl hS0) fun a hf => dL 6 rfl rfl hsel (by kernel_rfl) hf rfl hS0 (fun x hS => ex_load hf rfl (by kernel_rfl) (hS.2.2.trans ((s_hB3.cell 3).trans rfl))) fun a hf => dV 7 rfl rfl hsel (by kernel_rfl) hf rfl (.inl hS0) (fun x => ex_len hf Try.underlying24 rfl) fun a hf => dl_c 8 (by kernel_rfl) rfl hf rfl rfl rfl (by kernel_rfl) (leadsL (by omega)) ?_
    rintro _ w10 ⟨rfl, hx9⟩
    refine ⟨_, rfl, fun a hf => ?_⟩
    replace hB3 := hB3.c0 hx9
    replace hE := hE.t0 hx9
    clear hS0
    have hS0 : w10.cell? ⟨b2, 2, none⟩ = w1.cell? ⟨b2, 2, none⟩ ∧ w10.cell? ⟨b2, 0, none⟩ = w1.cell? ⟨b2, 0, none⟩ ∧ w10.cell? ⟨b2, 3, none⟩ = w1.cell? ⟨b2, 3, none⟩ := ⟨(hB3.cell 2).trans (s_hB3.cell 2).symm, (hB3.cell 0).trans (s_hB3.cell 0).symm, (hB3.cell 3).trans (s_hB3.cell 3).symm⟩
    refine ⟨.inl hS0, ?_⟩
    refine dV 9 rfl rfl hsel (by kernel_rfl) hf rfl (.inl hS0) (fun x => ex_neI (c := true) hf rfl rfl (by simp [hne])) fun a hf => rN (by kernel_rfl) ?_
    clear hS0 hsel
    refine rR 9 hf rfl fun a hf => ?_
    exact rT (rs := [.tmp 2]) hf rfl ⟨_, _, rfl, rfl, rfl⟩ ⟨ret_b (by rw [leadedT]; simp [hne]), hE⟩
theorem leadedL : ∀ N, LeadedOk N
  | 0 => fun t _ _ _ _ _ _ hN => by cases t; simp only [tsize] at hN; omega
  | N + 1 => leaded_step (leadedL N)
end Go.Proofs.Ythpjpngfghcmcaa
namespace Go.Proofs.Ythpjpngfghcmcaa
open Go.RowKit
set_option maxRecDepth 100000
def BdV (T Bs b : Nat) (p v : Value) (tl : List Value) (l : List UInt8) (w : World) : Prop :=
  Bs ≤ b ∧ w.heap[b]? = some (.cells (p :: v :: tl).toArray T (0, 0)) ∧ w.ownsRow Bs 5 1 v l.length (Lib.byteCells l)
def Bd (T Bs b : Nat) (tl : List Value) (l : List UInt8) (w : World) : Prop :=
  ∃ p v, (p = .pointer none ∨ p = .pointer (some ⟨b, 0, none⟩)) ∧ BdV T Bs b p v tl l w
def FrB (b : Nat) (w w' : World) : Prop :=
  w.heap.size ≤ w'.heap.size ∧ ∀ k, k < w.heap.size → k ≠ b → (∀ cs fr, w.heap[k]? ≠ some (.cells cs 5 fr)) → w'.heap[k]? = w.heap[k]?
theorem FrB.refl (b : Nat) (w : World) : FrB b w w := ⟨Nat.le_refl _, fun _ _ _ _ => rfl⟩
theorem FrB.trans {b : Nat} {w w1 w2 : World} (h : FrB b w w1) (k : FrB b w1 w2) : FrB b w w2 :=
  ⟨Nat.le_trans h.1 k.1, fun i hi hb hn => by
    have e := h.2 i hi hb hn
    rw [k.2 i (Nat.lt_of_lt_of_le hi h.1) hb (by rw [e]; exact hn), e]⟩
theorem FrB.keep {b : Nat} {w w' : World} (h : FrB b w w') {k : Nat} {cs : Array Value} {T : TypeId} {fr : Nat × Nat} (hk : w.heap[k]? = some (.cells cs T fr)) (hT : T ≠ 5) (hb : k ≠ b) : w'.heap[k]? = some (.cells cs T fr) := by
  have hlt : k < w.heap.size := by
    rcases Nat.lt_or_ge k w.heap.size with h' | h'
    · exact h'
    · simp [Array.getElem?_eq_none h'] at hk
  rw [h.2 k hlt hb (fun cs' fr' e => hT (by rw [hk] at e; simp at e; exact e.2.1)), hk]
theorem heap_lt {w : World} {b : Nat} {o : Obj} (h : w.heap[b]? = some o) : b < w.heap.size := by
  rcases Nat.lt_or_ge b w.heap.size with h' | h'
  · exact h'
  · simp [Array.getElem?_eq_none h'] at h
theorem bdInfo : (Try.prog.info? 78).map (·.size) = some 2 := by kernel_rfl
theorem byteInfo : (Try.prog.info? 5).map (fun i => (i.zero, i.size, i.bytes)) = some (some (.int .u8 0), 1, 1) := by kernel_rfl
theorem cellsByte : Try.prog.cellsOf 5 = 1 := by kernel_rfl
def HeadB (T : TypeId) (n : Nat) : Prop := T ≠ 5 ∧ liesAt Try.prog Try.prog.depth T ((n + 2) / Try.prog.cellsOf T) 0 78 1 = true
set_option maxHeartbeats 1000000 in
set_option maxRecDepth 100000 in
theorem copyCheck_used (b : Nat) (w : World) (h0 : w.cell? ⟨b, 0, none⟩ = some (.pointer (some ⟨b, 0, none⟩))) :
    Calls Try.prog 122 #[.pointer (some ⟨b, 0, none⟩)] w fun e w' => e = .returned (.tuple #[]) ∧ w = w' := by
  obtain ⟨j, hj, _⟩ := Option.map_eq_some_iff.1 bdInfo
  go_enter Try.func122, Try.ntmps122
  go_wp2
  rw [Lib.run_neq_ptr_same w _ Try.underlying75 hj]
  go_wp2
  go_end0
  exact ⟨rfl, rfl⟩
set_option maxHeartbeats 1000000 in
set_option maxRecDepth 100000 in
theorem copyCheck_fresh (T n b : Nat) (w : World) (hT : HeadB T n) (h0 : w.cell? ⟨b, 0, none⟩ = some (.pointer none)) (hsh : w.shape? b = some (T, n + 2)) (hfz : w.frozen? ⟨b, 0, none⟩ = false) :
    Calls Try.prog 122 #[.pointer (some ⟨b, 0, none⟩)] w fun e w' => e = .returned (.tuple #[]) ∧ w' = w.setCell ⟨b, 0, none⟩ (.pointer (some ⟨b, 0, none⟩)) := by
  obtain ⟨j, hj, hjs⟩ := Option.map_eq_some_iff.1 bdInfo
  have HT := Lib.hid hT; clear hT
  go_enter Try.func122, Try.ntmps122
  go_wp2
  rw [Lib.run_to_unsafe w ⟨b, 0, none⟩ Try.underlying75 Try.underlying109 hj (by rw [hjs]; decide) hsh (Nat.succ_pos _)]
  simp only [Result.andThen]
  rw [Oper.upon_value]
  go_wp2
  rw [run_callFunc_extern Try.func127 (by kernel_rfl) (by kernel_rfl) (by kernel_rfl) (e := Extern.AbiNoEscape.same) (by kernel_rfl)]
  rw [Lib.run_noEscape]
  simp only [Result.andThen]
  rw [Oper.upon_value]
  go_wp2
  rw [Lib.run_from_unsafe w ⟨b, 0, none⟩ Try.underlying109 Try.underlying75 hj hsh HT.out.2]
  simp only [Result.andThen]
  rw [Oper.upon_value]
  go_wp2
  go_end0
  exact ⟨rfl, rfl⟩
theorem copyCheck (T Bs b : Nat) (tl : List Value) (l : List UInt8) (w : World) (hT : HeadB T tl.length) (h : Bd T Bs b tl l w) :
    Calls Try.prog 122 #[.pointer (some ⟨b, 0, none⟩)] w fun e w' => e = .returned (.tuple #[]) ∧ ((∃ v, BdV T Bs b (.pointer (some ⟨b, 0, none⟩)) v tl l w') ∧ FrB b w w' ∧ Below Bs w w') := by
  obtain ⟨p, v, hp, hB, hbk, hown⟩ := h
  have hc0 : w.cell? ⟨b, 0, none⟩ = some p := by rw [Lib.cell_of_heap hbk]; rfl
  have hne : v.ownBlock ≠ some b := Lib.ownBlock_ne hown hbk hT.1
  rcases hp with rfl | rfl
  · refine (copyCheck_fresh T tl.length b w hT hc0 (by simp [World.shape?, hbk]) (Lib.frozen_of_heap hbk 0)).mono ?_
    rintro e w' ⟨rfl, rfl⟩
    refine ⟨rfl, ⟨v, hB, ?_, ?_⟩, ⟨by simp [World.setCell], fun k _ hk _ => Below.heap_setCell _ _ _ _ hk⟩, (Below.refl Bs w).setCell (p := ⟨b, 0, none⟩) hB _⟩
    · simp [World.setCell, Array.getElem?_modify, hbk]
    · exact hown.kept (row := some b) ⟨rfl, rfl, rfl, by simp [World.setCell], fun k _ hk => Below.heap_setCell _ _ _ _ (fun e => hk (by simp [e]))⟩ (Or.inr hne)
  · refine (copyCheck_used b w hc0).mono ?_
    rintro e w' ⟨rfl, rfl⟩
    exact ⟨rfl, ⟨v, hB, hbk, hown⟩, FrB.refl _ _, Below.refl _ _⟩
set_option maxHeartbeats 2000000 in
set_option maxRecDepth 100000 in
theorem writeString (T Bs b : Nat) (tl : List Value) (l s : List UInt8) (w : World) (hT : HeadB T tl.length) (h : Bd T Bs b tl l w) (hlen : l.length + s.length ≤ 140737488355328) (hBw : Bs ≤ w.heap.size) :
    Calls Try.prog 114 #[.pointer (some ⟨b, 0, none⟩), .string ⟨s.toArray⟩] w fun e w' => e = .returned (.tuple #[.int .i64 s.length, .nilIface]) ∧ (Bd T Bs b tl (l ++ s) w' ∧ FrB b w w' ∧ Below Bs w w') := by
  obtain ⟨i0, hi, hz0, hz1, hz2⟩ := info_parts' byteInfo
  have HT := Lib.hid hT; clear hT
  go_enter Try.func114, Try.ntmps114
  go_wp2_with (go_at_call 122; refine (copyCheck T Bs b tl l _ HT.out h).mono ?_)
  rintro e w1 ⟨rfl, ⟨v, hB, hbk, hown⟩, hfr, hb1⟩
  have hne : v.ownBlock ≠ some b := Lib.ownBlock_ne hown hbk HT.out.1
  have HBk := Lib.hid hbk
  have HFr := Lib.hid hfr; clear hfr h
  have c1 : w1.cell? ⟨b, 1, none⟩ = some v := by rw [Lib.cell_of_heap hbk]; rfl
  have hs1 := hb1.size
  have HB1 := Lib.hid hb1; clear hb1 hbk
  go_wp2_with (at_builtin; refine Lib.wpList_append_own_string _ rfl _ _ 76 9 rfl Bs 5 i0 Try.underlying76 Try.underlying9 hi hz0 hz1 hz2 _ _ _ rfl hown ⟨s.toArray⟩ rfl ?c3 ?c4 ?c5 ?_)
  case c3 => unfold maxLen; simp only [List.size_toArray, ByteArray.size]; omega
  case c4 => simp only [List.size_toArray, ByteArray.size]; omega
  case c5 => omega
  intro v' w2 hown' hgrow _
  have hlt : b < w1.heap.size := heap_lt HBk.out
  have hb2 : w2.heap[b]? = some (.cells (.pointer (some ⟨b, 0, none⟩) :: v :: tl).toArray T (0, 0)) := by
    rw [hgrow.block b hlt (fun e => hne e.symm)]
    exact HBk.out
  have d1 : w2.cell? ⟨b, 1, none⟩ = some v := by rw [Lib.cell_of_heap hb2]; rfl
  have f1 : w2.frozen? ⟨b, 1, none⟩ = false := Lib.frozen_of_heap hb2 1
  have hown2 : w2.ownsRow Bs 5 1 v' (l ++ s).length (Lib.byteCells (l ++ s)) := by
    have e1 : Lib.byteCells (l ++ s) = Lib.byteCells l ++ Lib.strCells ⟨s.toArray⟩ := by simp [Lib.byteCells, Lib.strCells]
    rw [e1, List.length_append]; exact hown'
  obtain ⟨ao, n', cap, hv'⟩ : ∃ ao n' cap, v' = .slice ao n' cap := by
    rcases hown'.2 with ⟨hv, _⟩ | ⟨g, cap, cur, hv, _⟩
    · exact ⟨_, _, _, hv⟩
    · exact ⟨_, _, _, hv⟩
  subst hv'
  have hne2 := Lib.ownBlock_ne hown2 hb2 HT.out.1
  have HG := Lib.hid hgrow
  have HO := Lib.hid hown
  have HO2 := Lib.hid hown2
  have HB2 := Lib.hid hb2
  clear hgrow hown hown' hown2 hb2
  go_wp2
  go_ret2
  refine ⟨by simp, ⟨_, .slice ao n' cap, .inr rfl, hB, ?_, ?_⟩, ?_, ?_⟩
  · simp [World.setCell, Array.getElem?_modify, HB2.out]
  · exact HO2.out.kept (row := some b) ⟨rfl, rfl, rfl, by simp [World.setCell], fun k _ hk => Below.heap_setCell _ _ _ _ (fun e => hk (by simp [e]))⟩ (Or.inr hne2)
  · refine HFr.out.trans ⟨by simp [World.setCell]; exact HG.out.size, fun k hk hkb hn => ?_⟩
    rw [Below.heap_setCell _ _ _ _ hkb, HG.out.block k hk (fun e => ?_)]
    rcases HO.out.2 with ⟨hv, _⟩ | ⟨g, cap, cur, hv, _, hg, _⟩
    · rw [hv] at e; simp [Value.ownBlock] at e
    · rw [hv] at e
      simp only [Value.ownBlock, Option.some.injEq] at e
      subst e
      exact hn _ _ hg
  · exact (HB1.out.grown HG.out (by omega) (fun k hk => (HO.out.lt k hk).1)).setCell (p := ⟨b, 1, none⟩) hB _
theorem unsafeString_none (W : World) (q : Option Addr) : (Builtin.unsafeString_ #[97, 3] 9 #[.pointer q, .int .i64 0]).run Try.prog W = .ok (.string .empty) W :=
  Lib.run_unsafeString_none W _ _ _ q
set_option maxHeartbeats 2000000 in
set_option maxRecDepth 100000 in
theorem builderString (T Bs b : Nat) (tl : List Value) (l : List UInt8) (w : World) (h : Bd T Bs b tl l w) (hBw : Bs ≤ w.heap.size) :
    Calls Try.prog 62 #[.pointer (some ⟨b, 0, none⟩)] w fun e w' => e = .returned (.string ⟨l.toArray⟩) ∧ Below Bs w w' := by
  obtain ⟨p, v, hp, hB, hbk, hown⟩ := h
  have hlt : b < w.heap.size := heap_lt hbk
  clear hp
  by_cases h0 : l = []
  · subst h0
    have hUS := unsafeString_none
    rcases hown.2 with ⟨rfl, _⟩ | ⟨g, cap, cur, rfl, hbg, hg, _⟩
    · have c1 : w.drew.cell? ⟨b, 1, none⟩ = some (.slice none 0 0) := by
        have : w.drew.heap[b]? = some (.cells (p :: .slice none 0 0 :: tl).toArray T (0, 0)) := hbk
        rw [Lib.cell_of_heap this]; rfl
      have hSD : (Builtin.unsafeSliceData_ #[76] 97 #[.slice none 0 0]).run Try.prog w.drew = .ok (.pointer none) w.drew := rfl
      clear hbk hown
      go_enter Try.func62, Try.ntmps62
      go_wp2
      go_region
      all_goals (go_wp2; go_ret; exact ⟨rfl, Below.drew (Below.refl Bs w)⟩)
    · by_cases hc0 : cap = 0
      · subst hc0
        have c1 : w.drew.cell? ⟨b, 1, none⟩ = some (.slice (some ⟨g, 0, none⟩) 0 0) := by
          have : w.drew.heap[b]? = some (.cells (p :: .slice (some ⟨g, 0, none⟩) 0 0 :: tl).toArray T (0, 0)) := hbk
          rw [Lib.cell_of_heap this]; rfl
        have hSD : (Builtin.unsafeSliceData_ #[76] 97 #[.slice (some ⟨g, 0, none⟩) 0 0]).run Try.prog w.drew = .ok (.pointer (some ⟨w.drew.heap.size, 0, none⟩)) (w.drew.alloc (.view ⟨g, 0, none⟩ 5)) :=
          Lib.run_unsafeSliceData_zero w.drew _ _ 5 Try.underlying97 ⟨g, 0, none⟩ 0 (5, cur.size) (by have hg' : w.drew.heap[g]? = some (.cells cur 5 (0, 0)) := hg; simp [World.shape?, hg'])
        have c2 : (w.drew.alloc (.view ⟨g, 0, none⟩ 5)).cell? ⟨b, 1, none⟩ = some (.slice (some ⟨g, 0, none⟩) 0 0) := by
          have : (w.drew.alloc (.view ⟨g, 0, none⟩ 5)).heap[b]? = _ := (Below.heap_alloc w.drew _ b hlt).trans hbk
          rw [Lib.cell_of_heap this]; rfl
        have c3 : (w.alloc (.view ⟨g, 0, none⟩ 5)).drew.cell? ⟨b, 1, none⟩ = some (.slice (some ⟨g, 0, none⟩) 0 0) := c2
        have c0 : w.cell? ⟨b, 1, none⟩ = some (.slice (some ⟨g, 0, none⟩) 0 0) := c1
        clear hbk hown hg
        go_enter Try.func62, Try.ntmps62
        go_wp2
        go_region
        all_goals (go_wp2; go_ret; exact ⟨rfl, (Below.drew (Below.refl Bs w)).alloc hBw _⟩)
      · have c1 : w.drew.cell? ⟨b, 1, none⟩ = some (.slice (some ⟨g, 0, none⟩) 0 cap) := by
          have : w.drew.heap[b]? = some (.cells (p :: .slice (some ⟨g, 0, none⟩) 0 cap :: tl).toArray T (0, 0)) := hbk
          rw [Lib.cell_of_heap this]; rfl
        have hSD : (Builtin.unsafeSliceData_ #[76] 97 #[.slice (some ⟨g, 0, none⟩) 0 cap]).run Try.prog w.drew = .ok (.pointer (some ⟨g, 0, none⟩)) w.drew :=
          Lib.run_unsafeSliceData_row _ _ _ _ _ _ hc0
        clear hbk hown hg hc0
        go_enter Try.func62, Try.ntmps62
        go_wp2
        go_region
        all_goals (go_wp2; go_ret; exact ⟨rfl, Below.drew (Below.refl Bs w)⟩)
  · have hl0 : l.length ≠ 0 := by simpa using h0
    obtain ⟨g, cap, cur, rfl, hbg, hg, hnc, hcm, hcs, htake⟩ : ∃ g cap cur, v = .slice (some ⟨g, 0, none⟩) l.length cap ∧ Bs ≤ g ∧ w.heap[g]? = some (.cells cur 5 (0, 0)) ∧ l.length ≤ cap ∧ cap ≤ maxLen ∧ cur.size = cap * 1 ∧ cur.toList.take (l.length * 1) = Lib.byteCells l := by
      rcases hown.2 with ⟨_, hz⟩ | ⟨g, cap, cur, hv, r⟩
      · exact absurd hz hl0
      · exact ⟨g, cap, cur, hv, r⟩
    have c1 : w.drew.cell? ⟨b, 1, none⟩ = some (.slice (some ⟨g, 0, none⟩) l.length cap) := by
      have : w.drew.heap[b]? = some (.cells (p :: .slice (some ⟨g, 0, none⟩) l.length cap :: tl).toArray T (0, 0)) := hbk
      rw [Lib.cell_of_heap this]; rfl
    have hSD : (Builtin.unsafeSliceData_ #[76] 97 #[.slice (some ⟨g, 0, none⟩) l.length cap]).run Try.prog w.drew = .ok (.pointer (some ⟨g, 0, none⟩)) w.drew :=
      Lib.run_unsafeSliceData_row _ _ _ _ _ _ (by omega)
    have hUS : (Builtin.unsafeString_ #[97, 3] 9 #[.pointer (some ⟨g, 0, none⟩), .int .i64 l.length]).run Try.prog w.drew = .ok (.string ⟨l.toArray⟩) (w.drew.freeze ⟨g, 0, none⟩ l.length) := by
      refine Lib.run_unsafeString_row w.drew 97 3 9 5 Try.underlying97 cellsByte g cur.size (by have hg' : w.drew.heap[g]? = some (.cells cur 5 (0, 0)) := hg; simp [World.shape?, hg']) l h0 (by omega) (by unfold maxLen at hcm; omega) ?_
      intro j x hx
      have := hown.cells (g := g) rfl j (.int .u8 x.toNat) (by simp [Lib.byteCells, hx])
      exact this
    clear hbk hown hg htake hcs
    go_enter Try.func62, Try.ntmps62
    go_wp2
    go_region
    all_goals (go_wp2; go_ret; exact ⟨rfl, Lib.below_freeze (Below.drew (Below.refl Bs w)) (p := ⟨g, 0, none⟩) hbg _⟩)
end Go.Proofs.Ythpjpngfghcmcaa
namespace Go.Proofs.Ythpjpngfghcmcaa
open Go.RowKit Lx Sx
set_option maxRecDepth 100000
set_option maxHeartbeats 4000000
def isByteB (w : World) (k : Nat) : Bool := match w.heap[k]? with | some (.cells _ t _) => t == 5 | _ => false
def prX (Bs b : Nat) (w : World) : List Nat := (List.range w.heap.size).filter fun k => decide (Bs ≤ k) && (k == b || isByteB w k)
structure Prn (Bs b : Nat) (w w' : World) : Prop where
  base : Bs ≤ w.heap.size
  below : Below Bs w w'
  fr : FrB b w w'
theorem isByteB_of {w : World} {k : Nat} (h : isByteB w k = false) (cs : Array Value) (fr : Nat × Nat) : w.heap[k]? ≠ some (.cells cs 5 fr) := by
  intro e; simp [isByteB, e] at h
theorem isByteB_no {w : World} {k : Nat} (h : ∀ cs fr, w.heap[k]? ≠ some (.cells cs 5 fr)) : isByteB w k = false := by
  unfold isByteB
  split
  · rename_i cs t fr e
    rw [beq_eq_false_iff_ne]; rintro rfl; exact h _ _ e
  · rfl
theorem mem_prX {Bs b : Nat} {w : World} {k : Nat} : k ∈ prX Bs b w ↔ k < w.heap.size ∧ Bs ≤ k ∧ (k = b ∨ isByteB w k = true) := by
  simp [prX]
theorem Prn.chg {Bs b : Nat} {w w' : World} (h : Prn Bs b w w') : Chg (prX Bs b w) w w' :=
  ⟨h.below.os, h.below.tape, h.below.output, h.below.size, fun k hk hX => by
    rcases Nat.lt_or_ge k Bs with hB | hB
    · exact h.below.block k hB
    · have hn : ¬ (k = b ∨ isByteB w k = true) := fun hc => hX (mem_prX.2 ⟨hk, hB, hc⟩)
      refine h.fr.2 k hk (fun e => hn (.inl e)) (isByteB_of ?_)
      cases hb : isByteB w k
      · rfl
      · exact absurd (.inr hb) hn⟩
theorem Prn.refl {Bs b : Nat} {w : World} (h : Bs ≤ w.heap.size) : Prn Bs b w w := ⟨h, Below.refl _ _, FrB.refl _ _⟩
theorem Prn.trans {Bs b : Nat} {w w1 w2 : World} {X : List Nat} (h : Prn Bs b w w1) (k : Chg X w1 w2) (hX : ∀ x, x ∈ X → x ∈ prX Bs b w1 ∨ w.heap.size ≤ x) : Prn Bs b w w2 :=
  ⟨h.base, ⟨k.os.trans h.below.os, k.tape.trans h.below.tape, k.output.trans h.below.output, Nat.le_trans h.below.size k.size, fun i hi => by
      have hlt : i < w.heap.size := Nat.lt_of_lt_of_le hi h.base
      rw [k.block i (Nat.lt_of_lt_of_le hlt h.below.size) (fun hc => ?_), h.below.block i hi]
      rcases hX i hc with h1 | h1
      · have := (mem_prX.1 h1).2.1; omega
      · omega⟩, ⟨Nat.le_trans h.fr.1 k.size, fun i hi hb hn => by
      have e := h.fr.2 i hi hb hn
      rw [k.block i (Nat.lt_of_lt_of_le hi h.fr.1) (fun hc => ?_), e]
      rcases hX i hc with h1 | h1
      · rcases (mem_prX.1 h1).2.2 with h2 | h2
        · exact hb h2
        · rw [isByteB_no (by rw [e]; exact hn)] at h2; cases h2
      · omega⟩⟩
theorem Prn.t0 {Bs b : Nat} {w w1 w2 : World} (h : Prn Bs b w w1) (k : Chg [] w1 w2) : Prn Bs b w w2 := h.trans k all0
theorem Prn.n1 {Bs b : Nat} {w w1 w2 : World} {c : Nat} (h : Prn Bs b w w1) (k : Chg [c] w1 w2) (g : w.heap.size ≤ c) : Prn Bs b w w2 := h.trans k (allc (.inr g) all0)
theorem Prn.ge_new {Bs b : Nat} {w w1 : World} {c : Nat} (h : Prn Bs b w w1) (e : c = w1.heap.size) : w.heap.size ≤ c := e ▸ h.below.size
theorem nm_low {Bs b : Nat} {w : World} {k : Nat} (h : k < Bs) : k ∉ prX Bs b w := fun hc => by have := (mem_prX.1 hc).2.1; omega
theorem nm_blk {Bs b : Nat} {w : World} {k : Nat} {t : TypeId} {cs : List Value} (h : Blk w k t cs) (ht : (t == 5) = false) (hk : k ≠ b) : k ∉ prX Bs b w := fun hc => by
  rcases (mem_prX.1 hc).2.2 with h2 | h2
  · exact hk h2
  · unfold Blk at h; rw [isByteB, h] at h2; simp only [ht] at h2; cases h2
end Go.Proofs.Ythpjpngfghcmcaa
namespace Go.Proofs.Ythpjpngfghcmcaa
open Go.RowKit Lx Sx
set_option maxRecDepth 100000
set_option maxHeartbeats 4000000
theorem headP : HeadB 80 1 := ⟨by decide, by kernel_rfl⟩
abbrev Pr (Bs b : Nat) (x l : List UInt8) (w : World) : Prop := Bd 80 Bs b [strV x] l w
theorem Pr.chg0 {Bs b : Nat} {x l : List UInt8} {w w' : World} (h : Pr Bs b x l w) (hx : Chg [] w w') : Pr Bs b x l w' := by
  obtain ⟨p, v, hp, hB, hbk, hown⟩ := h
  exact ⟨p, v, hp, hB, (show Blk w b _ [p, v, strV x] from hbk).chg hx nm0, own_chg hown hx (fun _ _ => nm0)⟩
theorem Pr.open_ {Bs b : Nat} {x l : List UInt8} {w : World} (h : Pr Bs b x l w) : ∃ p v, Blk w b 80 [p, v, strV x] ∧ Bs ≤ b ∧ ∀ y w', Blk w' b 80 [p, v, strV y] → Chg [b] w w' → Pr Bs b y l w' := by
  obtain ⟨p, v, hp, hB, hbk, hown⟩ := h
  have hne : v.ownBlock ≠ some b := Lib.ownBlock_ne hown hbk headP.1
  exact ⟨p, v, hbk, hB, fun y w' hb hx => ⟨p, v, hp, hB, hb, own_chg hown hx (fun g hg => nmc (fun e => hne (e ▸ hg)) nm0)⟩⟩
theorem wsL {Bs b : Nat} {x l s : List UInt8} {w : World} (h : Pr Bs b x l w) (hlen : l.length + s.length ≤ 140737488355328) (hBw : Bs ≤ w.heap.size) :
    Calls Try.prog 114 [.pointer (some ⟨b, 0, none⟩), strV s].toArray w fun e w' => e = .returned (.tuple #[.int .i64 s.length, .nilIface]) ∧ Pr Bs b x (l ++ s) w' ∧ Chg (prX Bs b w) w w' ∧ Bs ≤ w'.heap.size :=
  (writeString _ Bs b [strV x] l s w headP h hlen hBw).mono fun _ _ ⟨e, h1, h2, h3⟩ => ⟨e, h1, (Prn.mk hBw h3 h2).chg, nlt hBw h3.size⟩
def glueT (last lead tok : List UInt8) : List UInt8 := if lead = [] ∧ last ≠ [] ∧ fusesT last tok = true then [32] else lead
theorem putL {Bs b : Nat} {last l lead tok : List UInt8} {w : World} (hP : Pr Bs b last l w) (hl : l.length + lead.length + tok.length + 1 ≤ 1000000000000) (hl2 : last.length ≤ 1000000000000) (hBw : Bs ≤ w.heap.size) :
    Calls Try.prog 92 [.pointer (some ⟨b, 0, none⟩), strV lead, strV tok].toArray w fun e w' => e = .returned (.tuple #[]) ∧ Pr Bs b tok (l ++ glueT last lead tok ++ tok) w' ∧ Prn Bs b w w' := by
  obtain ⟨p, v, hB, hBs, hcl⟩ := hP.open_
  have hE := Prn.refl (b := b) hBw
  refine rE 37 Try.func92 rfl rfl rfl ?_
  intro a hf
  refine rR 4 hf rfl fun a hf => rB hf rfl (fun c hc => ex_eqS hf rfl rfl hc) ?_ ?_
  clear hf a; intro h7 a hf
  refine rR 4 hf rfl fun a hf => rV hf rfl (ex_loadB hf rfl (by kernel_rfl) hB rfl) fun a hf => rB hf rfl (fun c hc => ex_neS hf rfl rfl hc) ?_ ?_
  clear hf a; intro h13 a hf
  refine rR 5 hf rfl fun a hf => rV hf rfl (ex_loadB hf rfl (by kernel_rfl) hB rfl) fun a hf => rR 1 hf rfl fun a hf => ?_
  rcases Bool.eq_false_or_eq_true (fusesT last tok) with hbf | hbf
  refine rC hf rfl rfl (by kernel_rfl) (bool_is (calls_ext (fusesL last tok _ (by omega) (by omega))) hbf) ?_
  rintro _ w2 ⟨rfl, hx1⟩
  refine ⟨_, rfl, fun a hf => ?_⟩
  replace hB := hB.c0 hx1
  replace hP := hP.chg0 hx1
  replace hBw := nlt hBw hx1.size
  replace hE := hE.t0 hx1
  refine rR 14 hf rfl fun a hf => rC hf rfl rfl (by kernel_rfl) (wsL (s := [32]) hP (by (try simp only [List.length_append, List.length_cons, List.length_nil]); omega) hBw) ?_
  rintro _ w4 ⟨rfl, hPn, hx3, _⟩
  refine ⟨_, rfl, fun a hf => ?_⟩
  replace hE := hE.trans hx3 (fun _ h => .inl h)
  clear hP hB hBw hcl p v; rename_i hBw; have hP := hPn; clear hPn
  obtain ⟨p, v, hB, _, hcl⟩ := hP.open_
  have hPm : b ∈ prX Bs b w4 := mem_prX.2 ⟨hB.lt, hBs, .inl rfl⟩
  refine rR 8 hf rfl fun a hf => rC hf rfl rfl (by kernel_rfl) (wsL (s := tok) hP (by (try simp only [List.length_append, List.length_cons, List.length_nil]); omega) hBw) ?_
  rintro _ w6 ⟨rfl, hPn, hx5, _⟩
  refine ⟨_, rfl, fun a hf => ?_⟩
  replace hE := hE.trans hx5 (fun _ h => .inl h)
  clear hP hB hBw hcl p v; rename_i hBw; have hP := hPn; clear hPn
  obtain ⟨p, v, hB, _, hcl⟩ := hP.open_
  have hPm : b ∈ prX Bs b w6 := mem_prX.2 ⟨hB.lt, hBs, .inl rfl⟩
  refine rR 7 hf rfl fun a hf => ?_
  obtain ⟨w7, he, hB8, hx9⟩ := eS 9 (.tmp 36) (.tmp 34) hf rfl rfl (by kernel_rfl) rfl hB rfl 0
  refine rS hf rfl he fun a hf => ?_
  replace hE := hE.trans hx9 (allc (.inl hPm) all0)
  clear hB
  refine rR 1 hf rfl fun a hf => ?_
  have eg : glueT last lead tok = [32] := by simp at h7 h13 hbf; simp [glueT, h7, h13, hbf]
  rw [eg]
  exact rF (rs := []) hf rfl rfl ⟨rfl, hcl _ _ hB8 hx9, hE⟩
  refine rC hf rfl rfl (by kernel_rfl) (bool_is (calls_ext (fusesL last tok _ (by omega) (by omega))) hbf) ?_
  rintro _ w10 ⟨rfl, hx1⟩
  refine ⟨_, rfl, fun a hf => ?_⟩
  replace hB := hB.c0 hx1
  replace hP := hP.chg0 hx1
  replace hBw := nlt hBw hx1.size
  replace hE := hE.t0 hx1
  refine rR 12 hf rfl fun a hf => rC hf rfl rfl (by kernel_rfl) (wsL (s := lead) hP (by (try simp only [List.length_append, List.length_cons, List.length_nil]); omega) hBw) ?_
  rintro _ w12 ⟨rfl, hPn, hx11, _⟩
  refine ⟨_, rfl, fun a hf => ?_⟩
  replace hE := hE.trans hx11 (fun _ h => .inl h)
  clear hP hB hBw hcl p v; rename_i hBw; have hP := hPn; clear hPn
  obtain ⟨p, v, hB, _, hcl⟩ := hP.open_
  have hPm : b ∈ prX Bs b w12 := mem_prX.2 ⟨hB.lt, hBs, .inl rfl⟩
  refine rR 8 hf rfl fun a hf => rC hf rfl rfl (by kernel_rfl) (wsL (s := tok) hP (by (try simp only [List.length_append, List.length_cons, List.length_nil]); omega) hBw) ?_
  rintro _ w14 ⟨rfl, hPn, hx13, _⟩
  refine ⟨_, rfl, fun a hf => ?_⟩
  replace hE := hE.trans hx13 (fun _ h => .inl h)
  clear hP hB hBw hcl p v; rename_i hBw; have hP := hPn; clear hPn
  obtain ⟨p, v, hB, _, hcl⟩ := hP.open_
  have hPm : b ∈ prX Bs b w14 := mem_prX.2 ⟨hB.lt, hBs, .inl rfl⟩
  refine rR 7 hf rfl fun a hf => ?_
  obtain ⟨w15, he, hB16, hx17⟩ := eS 9 (.tmp 36) (.tmp 34) hf rfl rfl (by kernel_rfl) rfl hB rfl 0
  refine rS hf rfl he fun a hf => ?_
  replace hE := hE.trans hx17 (allc (.inl hPm) all0)
  clear hB
  refine rR 1 hf rfl fun a hf => ?_
  have eg : glueT last lead tok = lead := by simp at h7 h13 hbf; simp [glueT, h7, h13, hbf]
  rw [eg]
  exact rF (rs := []) hf rfl rfl ⟨rfl, hcl _ _ hB16 hx17, hE⟩
  clear hf a; intro h13 a hf
  refine rR 20 hf rfl fun a hf => rC hf rfl rfl (by kernel_rfl) (wsL (s := lead) hP (by (try simp only [List.length_append, List.length_cons, List.length_nil]); omega) hBw) ?_
  rintro _ w19 ⟨rfl, hPn, hx18, _⟩
  refine ⟨_, rfl, fun a hf => ?_⟩
  replace hE := hE.trans hx18 (fun _ h => .inl h)
  clear hP hB hBw hcl p v; rename_i hBw; have hP := hPn; clear hPn
  obtain ⟨p, v, hB, _, hcl⟩ := hP.open_
  have hPm : b ∈ prX Bs b w19 := mem_prX.2 ⟨hB.lt, hBs, .inl rfl⟩
  refine rR 8 hf rfl fun a hf => rC hf rfl rfl (by kernel_rfl) (wsL (s := tok) hP (by (try simp only [List.length_append, List.length_cons, List.length_nil]); omega) hBw) ?_
  rintro _ w21 ⟨rfl, hPn, hx20, _⟩
  refine ⟨_, rfl, fun a hf => ?_⟩
  replace hE := hE.trans hx20 (fun _ h => .inl h)
  clear hP hB hBw hcl p v; rename_i hBw; have hP := hPn; clear hPn
  obtain ⟨p, v, hB, _, hcl⟩ := hP.open_
  have hPm : b ∈ prX Bs b w21 := mem_prX.2 ⟨hB.lt, hBs, .inl rfl⟩
  refine rR 7 hf rfl fun a hf => ?_
  obtain ⟨w22, he, hB23, hx24⟩ := eS 9 (.tmp 36) (.tmp 34) hf rfl rfl (by kernel_rfl) rfl hB rfl 0
  refine rS hf rfl he fun a hf => ?_
  replace hE := hE.trans hx24 (allc (.inl hPm) all0)
  clear hB
  refine rR 1 hf rfl fun a hf => ?_
  have eg : glueT last lead tok = lead := by simp at h7 h13; simp [glueT, h7, h13]
  rw [eg]
  exact rF (rs := []) hf rfl rfl ⟨rfl, hcl _ _ hB23 hx24, hE⟩
  clear hf a; intro h7 a hf
  refine rR 26 hf rfl fun a hf => rC hf rfl rfl (by kernel_rfl) (wsL (s := lead) hP (by (try simp only [List.length_append, List.length_cons, List.length_nil]); omega) hBw) ?_
  rintro _ w26 ⟨rfl, hPn, hx25, _⟩
  refine ⟨_, rfl, fun a hf => ?_⟩
  replace hE := hE.trans hx25 (fun _ h => .inl h)
  clear hP hB hBw hcl p v; rename_i hBw; have hP := hPn; clear hPn
  obtain ⟨p, v, hB, _, hcl⟩ := hP.open_
  have hPm : b ∈ prX Bs b w26 := mem_prX.2 ⟨hB.lt, hBs, .inl rfl⟩
  refine rR 8 hf rfl fun a hf => rC hf rfl rfl (by kernel_rfl) (wsL (s := tok) hP (by (try simp only [List.length_append, List.length_cons, List.length_nil]); omega) hBw) ?_
  rintro _ w28 ⟨rfl, hPn, hx27, _⟩
  refine ⟨_, rfl, fun a hf => ?_⟩
  replace hE := hE.trans hx27 (fun _ h => .inl h)
  clear hP hB hBw hcl p v; rename_i hBw; have hP := hPn; clear hPn
  obtain ⟨p, v, hB, _, hcl⟩ := hP.open_
  have hPm : b ∈ prX Bs b w28 := mem_prX.2 ⟨hB.lt, hBs, .inl rfl⟩
  refine rR 7 hf rfl fun a hf => ?_
  obtain ⟨w29, he, hB30, hx31⟩ := eS 9 (.tmp 36) (.tmp 34) hf rfl rfl (by kernel_rfl) rfl hB rfl 0
  refine rS hf rfl he fun a hf => ?_
  replace hE := hE.trans hx31 (allc (.inl hPm) all0)
  clear hB
  refine rR 1 hf rfl fun a hf => ?_
  have eg : glueT last lead tok = lead := by simp at h7; simp [glueT, h7]
  rw [eg]
  exact rF (rs := []) hf rfl rfl ⟨rfl, hcl _ _ hB30 hx31, hE⟩
end Go.Proofs.Ythpjpngfghcmcaa
namespace Go.Proofs.Ythpjpngfghcmcaa
open Go.RowKit Lx Sx
set_option maxRecDepth 100000
set_option maxHeartbeats 4000000
def singleT (k : Int) (s : List UInt8) : List UInt8 :=
  if k = 5 then [73, 110, 116] else if k = 6 then [84, 101, 120, 116] else if k = 7 then [66, 111, 111, 108] else if k = 13 then [116, 114, 117, 101] else if k = 14 then [102, 97, 108, 115, 101] else if k = 15 then [63] else s
theorem ret_s {x y : List UInt8} (h : x = y) : (Ending.returned (strV y)) = .returned (strV x) := by rw [h]
theorem singleL {k : Int} {tx : List UInt8} {A B : Option Addr} {n1 m1 n2 m2 : Nat} {w : World} : Calls Try.prog 94 [.agg #[.int .i64 k, strV tx, .slice A n1 m1, .slice B n2 m2]].toArray w fun e w' => e = .returned (strV (singleT k tx)) ∧ Chg [] w w' := by
  refine rE 19 Try.func94 rfl rfl rfl ?_
  intro a hf
  have hE := Chg.refl [] w
  refine rR 2 hf rfl fun a hf => ?_
  obtain ⟨w1, b2, he, hB3, hx4, eb5, lb6⟩ := ef_box (P := Try.prog) (t := 26) (x := (.tmp 0)) hf rfl rfl w 0
  refine rV hf rfl he fun a hf => ?_
  have ge_b2 := ge_new hE eb5
  replace hE := hE.t0 hx4
  clear eb5 lb6
  refine rR 7 hf rfl fun a hf => rV hf rfl (ex_loadB hf rfl (by kernel_rfl) hB3 rfl) fun a hf => rR 5 hf rfl fun a hf => rB hf rfl (fun c hc => ex_eqI hf rfl rfl hc) ?_ ?_
  clear hf a; intro h6 a hf
  refine rR 12 hf rfl fun a hf => ?_
  exact rT (rs := [.tmp 2]) hf rfl ⟨_, _, rfl, rfl, rfl⟩ ⟨ret_s (by simp only [qA, qB, qC, qD, qE, qF, ne_eq, Int.not_lt, Int.not_le, Decidable.not_not] at h6; simp [singleT, h6]), hE⟩
  clear hf a; intro h6 a hf
  refine rR 6 hf rfl fun a hf => rB hf rfl (fun c hc => ex_eqI hf rfl rfl hc) ?_ ?_
  clear hf a; intro h8 a hf
  refine rR 12 hf rfl fun a hf => ?_
  exact rT (rs := [.tmp 2]) hf rfl ⟨_, _, rfl, rfl, rfl⟩ ⟨ret_s (by simp only [qA, qB, qC, qD, qE, qF, ne_eq, Int.not_lt, Int.not_le, Decidable.not_not] at h6 h8; simp [singleT, h6, h8]), hE⟩
  clear hf a; intro h8 a hf
  refine rR 6 hf rfl fun a hf => rB hf rfl (fun c hc => ex_eqI hf rfl rfl hc) ?_ ?_
  clear hf a; intro h10 a hf
  refine rR 12 hf rfl fun a hf => ?_
  exact rT (rs := [.tmp 2]) hf rfl ⟨_, _, rfl, rfl, rfl⟩ ⟨ret_s (by simp only [qA, qB, qC, qD, qE, qF, ne_eq, Int.not_lt, Int.not_le, Decidable.not_not] at h6 h8 h10; simp [singleT, h6, h8, h10]), hE⟩
  clear hf a; intro h10 a hf
  refine rR 6 hf rfl fun a hf => rB hf rfl (fun c hc => ex_eqI hf rfl rfl hc) ?_ ?_
  clear hf a; intro h12 a hf
  refine rR 12 hf rfl fun a hf => ?_
  exact rT (rs := [.tmp 2]) hf rfl ⟨_, _, rfl, rfl, rfl⟩ ⟨ret_s (by simp only [qA, qB, qC, qD, qE, qF, ne_eq, Int.not_lt, Int.not_le, Decidable.not_not] at h6 h8 h10 h12; simp [singleT, h6, h8, h10, h12]), hE⟩
  clear hf a; intro h12 a hf
  refine rR 6 hf rfl fun a hf => rB hf rfl (fun c hc => ex_eqI hf rfl rfl hc) ?_ ?_
  clear hf a; intro h14 a hf
  refine rR 12 hf rfl fun a hf => ?_
  exact rT (rs := [.tmp 2]) hf rfl ⟨_, _, rfl, rfl, rfl⟩ ⟨ret_s (by simp only [qA, qB, qC, qD, qE, qF, ne_eq, Int.not_lt, Int.not_le, Decidable.not_not] at h6 h8 h10 h12 h14; simp [singleT, h6, h8, h10, h12, h14]), hE⟩
  clear hf a; intro h14 a hf
  refine rR 6 hf rfl fun a hf => rB hf rfl (fun c hc => ex_eqI hf rfl rfl hc) ?_ ?_
  clear hf a; intro h16 a hf
  refine rR 12 hf rfl fun a hf => ?_
  exact rT (rs := [.tmp 2]) hf rfl ⟨_, _, rfl, rfl, rfl⟩ ⟨ret_s (by simp only [qA, qB, qC, qD, qE, qF, ne_eq, Int.not_lt, Int.not_le, Decidable.not_not] at h6 h8 h10 h12 h14 h16; simp [singleT, h6, h8, h10, h12, h14, h16]), hE⟩
  clear hf a; intro h16 a hf
  refine rR 10 hf rfl fun a hf => rV hf rfl (ex_loadB hf rfl (by kernel_rfl) hB3 rfl) fun a hf => rR 4 hf rfl fun a hf => ?_
  exact rT (rs := [.tmp 2]) hf rfl ⟨_, _, rfl, rfl, rfl⟩ ⟨ret_s (by simp only [qA, qB, qC, qD, qE, qF, ne_eq, Int.not_lt, Int.not_le, Decidable.not_not] at h6 h8 h10 h12 h14 h16; simp [singleT, h6, h8, h10, h12, h14, h16]), hE⟩
end Go.Proofs.Ythpjpngfghcmcaa
namespace Go.Proofs.Ythpjpngfghcmcaa
open Go.RowKit Lx Sx
abbrev WS := List UInt8 × List UInt8
def putP (lead tok : List UInt8) (s : WS) : WS := (tok, s.2 ++ glueT s.1 lead tok ++ tok)
def listP (ls : List (List UInt8)) (c : Nat) : List (WS → WS) → Nat → WS → WS
  | [], _, s => s
  | f :: r, i, s => listP ls c r (i + 1) (f (if 0 < i then putP (ls.getD (c + i - 1) []) [44] s else s))
def defnP (k : Int) (x : List UInt8) (ls : List (List UInt8)) (fs : List (WS → WS)) (s : WS) : WS :=
  let L := fun i => ls.getD i []
  let F := fun (i : Nat) => fs.getD i id
  if k = 1 then
    let s := fs.foldl (fun s f => f s) (putP (L 1) x (putP (L 0) [109, 111, 100, 117, 108, 101] s)); (s.1, s.2 ++ L 2)
  else if k = 2 then
    let n := fs.length
    F (n - 1) (putP (L 5) [61] (F (n - 2) (putP (L 4) [58] (putP (L 3) [41] (listP ls 6 (fs.take (n - 2)) 0 (putP (L 2) [40] (putP (L 1) x (putP (L 0) [100, 101, 102] s))))))))
  else if k = 3 then F 0 (putP (L 2) [61] (putP (L 1) x (putP (L 0) [116, 121, 112, 101] s)))
  else F 0 (putP (L 1) [58] (putP (L 0) x s))
def nodeP (k : Int) (x : List UInt8) (ls : List (List UInt8)) (fs : List (WS → WS)) (s : WS) : WS :=
  let L := fun i => ls.getD i []
  let F := fun (i : Nat) => fs.getD i id
  if k = 1 ∨ k = 2 ∨ k = 3 ∨ k = 4 then defnP k x ls fs s
  else if k = 17 then F 0 s
  else if k = 8 then putP (L 1) [93] (F 0 (putP (L 0) [91] s))
  else if k = 16 then putP (L 2) [41] (listP ls 3 fs 0 (putP (L 1) [40] (putP (L 0) x s)))
  else if k = 18 then putP (L 1) [93] (listP ls 2 fs 0 (putP (L 0) [91] s))
  else if k = 19 then F 2 (putP (L 2) [101, 108, 115, 101] (F 1 (putP (L 1) [116, 104, 101, 110] (F 0 (putP (L 0) [105, 102] s)))))
  else if k = 20 then F 1 (putP (L 3) [105, 110] (F 0 (putP (L 2) [61] (putP (L 1) x (putP (L 0) [108, 101, 116] s)))))
  else if k = 21 then F 1 (putP (L 0) x (F 0 s))
  else if k = 22 then putP (L 1) [41] (F 0 (putP (L 0) [40] s))
  else putP (L 0) (singleT k x) s
mutual
def treeP : Tree → WS → WS
  | .node k x ls ks => nodeP k x ls (treesP ks)
def treesP : List Tree → List (WS → WS)
  | [] => []
  | t :: r => treeP t :: treesP r
end
def textT (t : Tree) : List UInt8 := (treeP t ([], [])).2
def printT (t : Tree) : List UInt8 := if shapedT t && leadedT t then textT t else []
def validT (t : Tree) : Bool := shapedT t && leadedT t && smallT t && decide (depthT t ≤ 40) && decide ((textT t).length ≤ 4096)
theorem treesP_length : ∀ ks : List Tree, (treesP ks).length = ks.length
  | [] => rfl
  | t :: r => by simp [treesP, treesP_length r]
theorem treesP_at : ∀ {ks : List Tree} {i : Nat} (h : i < ks.length), (treesP ks).getD i id = treeP ks[i]
  | t :: r, 0, _ => rfl
  | t :: r, i + 1, h => by have := treesP_at (ks := r) (i := i) (by simpa using h); simpa [treesP] using this
end Go.Proofs.Ythpjpngfghcmcaa
namespace Go.Proofs.Ythpjpngfghcmcaa
open Go.RowKit Lx Sx
def Gw (n : Nat) (s s' : WS) : Prop := s'.2.length ≤ s.2.length + n ∧ s'.1.length ≤ s.1.length + n
theorem Gw.refl (s : WS) : Gw 0 s s := ⟨Nat.le_refl _, Nat.le_refl _⟩
theorem Gw.le {n m : Nat} {s s' : WS} (h : Gw n s s') (hm : n ≤ m) : Gw m s s' := ⟨by have := h.1; omega, by have := h.2; omega⟩
theorem glueT_len (a b c : List UInt8) : (glueT a b c).length ≤ b.length + 1 := by unfold glueT; split <;> simp
theorem Gw.put {n : Nat} {s s' : WS} {a b : List UInt8} (h : Gw n s s') : Gw (n + (a.length + 1 + b.length)) s (putP a b s') := by
  have := glueT_len s'.1 a b
  refine ⟨?_, ?_⟩
  · have := h.1; simp only [putP, List.length_append]; omega
  · simp only [putP]; omega
theorem Gw.app {n m : Nat} {s s' : WS} {f : WS → WS} (h : Gw n s s') (hf : ∀ s, Gw m s (f s)) : Gw (n + m) s (f s') := by
  have h1 := h.1; have h2 := h.2; have h3 := (hf s').1; have h4 := (hf s').2
  exact ⟨by omega, by omega⟩
theorem lsum_getD : ∀ (ls : List (List UInt8)) (i : Nat), (ls.getD i []).length + lsum (ls.drop (i + 1)) ≤ lsum (ls.drop i)
  | [], i => by simp [lsum]
  | l :: r, 0 => by simp [lsum]
  | l :: r, i + 1 => by have := lsum_getD r i; simpa using this
theorem lsum_drop : ∀ (ls : List (List UInt8)) (i : Nat), lsum (ls.drop i) ≤ lsum ls
  | [], i => by simp [lsum]
  | l :: r, 0 => by simp
  | l :: r, i + 1 => by have := lsum_drop r i; simp only [List.drop_succ_cons, lsum]; omega
theorem lsum_get (ls : List (List UInt8)) (i : Nat) : (ls.getD i []).length ≤ lsum ls := by have := lsum_getD ls i; have := lsum_drop ls i; omega
theorem treesP_take : ∀ (ks : List Tree) (n : Nat), treesP (ks.take n) = (treesP ks).take n
  | [], n => by simp [treesP]
  | t :: r, 0 => by simp [treesP]
  | t :: r, n + 1 => by simp [treesP, treesP_take r n]
theorem kbulk_take : ∀ (ks : List Tree) (n : Nat), kbulk (ks.take n) ≤ kbulk ks
  | [], n => by simp [kbulk]
  | t :: r, 0 => by simp [kbulk]
  | t :: r, n + 1 => by have := kbulk_take r n; simp only [List.take_succ_cons, kbulk]; omega
theorem Gw.list {ls : List (List UInt8)} {c : Nat} (hc : 1 ≤ c) : ∀ (ks : List Tree) (i : Nat), (∀ t, t ∈ ks → ∀ s, Gw (100 * tbulk t) s (treeP t s)) → ∀ s, Gw (lsum (ls.drop (c + i - 1)) + 2 * ks.length + 100 * kbulk ks) s (listP ls c (treesP ks) i s)
  | [], i, _, s => by simp only [treesP, listP]; exact (Gw.refl s).le (Nat.zero_le _)
  | t :: r, i, h, s => by
    have ht := h t (by simp)
    have hr := Gw.list (ls := ls) hc r (i + 1) (fun u hu => h u (by simp [hu]))
    have e := lsum_getD ls (c + i - 1)
    rw [show c + i - 1 + 1 = c + (i + 1) - 1 from by omega] at e
    simp only [treesP, listP, kbulk, List.length_cons]
    split
    · refine ((((Gw.refl s).put).app ht).app hr).le ?_
      simp only [List.length_cons, List.length_nil]; omega
    · exact (((Gw.refl s).app ht).app hr).le (by omega)
theorem Gw.fold : ∀ (ks : List Tree), (∀ t, t ∈ ks → ∀ s, Gw (100 * tbulk t) s (treeP t s)) → ∀ s, Gw (100 * kbulk ks) s ((treesP ks).foldl (fun s f => f s) s)
  | [], _, s => (Gw.refl s)
  | t :: r, h, s => by
    have ht := h t (by simp)
    have hr := Gw.fold r (fun u hu => h u (by simp [hu]))
    simp only [treesP, List.foldl_cons, kbulk]
    exact (((Gw.refl s).app ht).app hr).le (by omega)
def qb (ks : List Tree) (i : Nat) : Nat := if h : i < ks.length then tbulk ks[i] else 0
theorem Gw.kid {ks : List Tree} (h : ∀ t, t ∈ ks → ∀ s, Gw (100 * tbulk t) s (treeP t s)) (i : Nat) (s : WS) : Gw (100 * qb ks i) s ((treesP ks).getD i id s) := by
  by_cases hi : i < ks.length
  · rw [treesP_at hi, qb, dif_pos hi]; exact h _ (List.getElem_mem hi) s
  · rw [qb, dif_neg hi, show (treesP ks).getD i id = id from by simp [List.getD_eq_getElem?_getD, List.getElem?_eq_none (show (treesP ks).length ≤ i from by rw [treesP_length]; omega)]]; exact Gw.refl s
theorem qb_take : ∀ (ks : List Tree) (i : Nat), kbulk (ks.take i) + qb ks i ≤ kbulk (ks.take (i + 1))
  | [], i => by simp [kbulk, qb]
  | t :: r, 0 => by simp [kbulk, qb]
  | t :: r, i + 1 => by
    have := qb_take r i
    simp only [List.take_succ_cons, kbulk]
    have e : qb (t :: r) (i + 1) = qb r i := by simp [qb]
    omega
theorem qb3 (ks : List Tree) : qb ks 0 + qb ks 1 + qb ks 2 ≤ kbulk ks := by
  have a0 : kbulk (ks.take 0) + qb ks 0 ≤ kbulk (ks.take 1) := qb_take ks 0
  have a1 : kbulk (ks.take 1) + qb ks 1 ≤ kbulk (ks.take 2) := qb_take ks 1
  have a2 : kbulk (ks.take 2) + qb ks 2 ≤ kbulk (ks.take 3) := qb_take ks 2
  have a3 := kbulk_take ks 3
  omega
theorem Gw.defn {k : Int} {x : List UInt8} {ls : List (List UInt8)} {ks : List Tree} (hs : (ls.length : Int) = leadsT k ks.length) (h : ∀ t, t ∈ ks → ∀ s, Gw (100 * tbulk t) s (treeP t s)) (s : WS) : Gw (100 * (x.length + lsum ls + kbulk ks + 1)) s (defnP k x ls (treesP ks) s) := by
  have L0 := lsum_get ls 0; have L1 := lsum_get ls 1; have L2 := lsum_get ls 2; have L3 := lsum_get ls 3; have L4 := lsum_get ls 4; have L5 := lsum_get ls 5
  have Q0 := qb3 ks
  have LL := lsum_len ls
  unfold defnP
  dsimp only
  split
  · have g := (((Gw.refl s).put (a := ls.getD 0 []) (b := [109, 111, 100, 117, 108, 101])).put (a := ls.getD 1 []) (b := x)).app (Gw.fold ks h)
    have g1 := g.1; have g2 := g.2
    simp only [List.length_cons, List.length_nil] at g1 g2
    exact ⟨by simp only [List.length_append]; omega, by dsimp only; omega⟩
  · split
    · rename_i hk
      have hn : 2 ≤ ks.length := by
        subst hk; unfold leadsT at hs
        rcases Nat.lt_or_ge ks.length 2 with h2 | h2
        · rw [if_neg (by decide), if_pos rfl, if_pos (by omega)] at hs; omega
        · exact h2
      have hn2 : ks.length ≤ ls.length := by
        subst hk; unfold leadsT at hs
        rw [if_neg (by decide), if_pos rfl, if_neg (by omega)] at hs
        split at hs <;> omega
      have hl := Gw.list (ls := ls) (c := 6) (by decide) (ks.take (ks.length - 2)) 0 (fun t ht => h t (List.mem_of_mem_take ht))
      rw [treesP_take] at hl
      have A1 := qb_take ks (ks.length - 2); have A2 := qb_take ks (ks.length - 1)
      rw [show ks.length - 2 + 1 = ks.length - 1 from by omega] at A1
      rw [show ks.length - 1 + 1 = ks.length from by omega, List.take_length] at A2
      have A3 := lsum_drop ls (6 + 0 - 1)
      have A4 := kbulk_len ks
      rw [treesP_length]
      refine ((((((((((Gw.refl s).put).put).put).app hl).put).put).app (Gw.kid h _)).put).app (Gw.kid h _)).le ?_
      simp only [List.length_cons, List.length_nil, List.length_take]
      omega
    · split
      · refine (((((Gw.refl s).put).put).put).app (Gw.kid h _)).le ?_
        simp only [List.length_cons, List.length_nil]; omega
      · refine ((((Gw.refl s).put).put).app (Gw.kid h _)).le ?_
        simp only [List.length_cons, List.length_nil]; omega
theorem singleT_len (k : Int) (x : List UInt8) : (singleT k x).length ≤ x.length + 5 := by
  unfold singleT
  repeat' split
  all_goals simp
theorem Gw.node {k : Int} {x : List UInt8} {ls : List (List UInt8)} {ks : List Tree} (hs : (ls.length : Int) = leadsT k ks.length) (h : ∀ t, t ∈ ks → ∀ s, Gw (100 * tbulk t) s (treeP t s)) (s : WS) : Gw (100 * (x.length + lsum ls + kbulk ks + 1)) s (nodeP k x ls (treesP ks) s) := by
  have L0 := lsum_get ls 0; have L1 := lsum_get ls 1; have L2 := lsum_get ls 2; have L3 := lsum_get ls 3
  have Q0 := qb3 ks
  have LL := lsum_len ls
  have SL := singleT_len k x
  unfold nodeP
  dsimp only
  split
  · exact Gw.defn hs h s
  · split
    · exact ((Gw.refl s).app (Gw.kid h _)).le (by omega)
    · split
      · refine ((((Gw.refl s).put).app (Gw.kid h _)).put).le ?_
        simp only [List.length_cons, List.length_nil]; omega
      · split
        · rename_i hk
          have hl := Gw.list (ls := ls) (c := 3) (by decide) ks 0 h
          have A3 := lsum_drop ls (3 + 0 - 1)
          have hn2 : ks.length ≤ ls.length := by
            subst hk; unfold leadsT at hs
            rw [if_neg (by decide), if_neg (by decide), if_pos rfl] at hs
            split at hs
            · omega
            · split at hs <;> omega
          refine (((((Gw.refl s).put).put).app hl).put).le ?_
          simp only [List.length_cons, List.length_nil]; omega
        · split
          · rename_i hk
            have hl := Gw.list (ls := ls) (c := 2) (by decide) ks 0 h
            have A3 := lsum_drop ls (2 + 0 - 1)
            have hn2 : ks.length ≤ ls.length := by
              subst hk; unfold leadsT at hs
              rw [if_neg (by decide), if_neg (by decide), if_neg (by decide), if_pos rfl] at hs
              split at hs <;> omega
            refine ((((Gw.refl s).put).app hl).put).le ?_
            simp only [List.length_cons, List.length_nil]; omega
          · split
            · refine (((((((Gw.refl s).put).app (Gw.kid h _)).put).app (Gw.kid h _)).put).app (Gw.kid h _)).le ?_
              simp only [List.length_cons, List.length_nil]; omega
            · split
              · refine (((((((Gw.refl s).put).put).put).app (Gw.kid h _)).put).app (Gw.kid h _)).le ?_
                simp only [List.length_cons, List.length_nil]; omega
              · split
                · refine ((((Gw.refl s).app (Gw.kid h _)).put).app (Gw.kid h _)).le ?_
                  omega
                · split
                  · refine ((((Gw.refl s).put).app (Gw.kid h _)).put).le ?_
                    simp only [List.length_cons, List.length_nil]; omega
                  · refine ((Gw.refl s).put).le ?_
                    omega
theorem leaded_of : ∀ {ks : List Tree} {t : Tree}, leadedsT ks = true → t ∈ ks → leadedT t = true
  | u :: r, t, h, ht => by
    simp only [leadedsT, Bool.and_eq_true] at h
    rcases List.mem_cons.1 ht with e | e
    · exact e ▸ h.1
    · exact leaded_of h.2 e
theorem tsize_mem : ∀ {ks : List Tree} {t : Tree}, t ∈ ks → tsize t ≤ tsizes ks
  | u :: r, t, ht => by
    simp only [tsizes]
    rcases List.mem_cons.1 ht with e | e
    · subst e; omega
    · have := tsize_mem e; omega
theorem Gw.tree : ∀ (N : Nat) (t : Tree), tsize t ≤ N → leadedT t = true → ∀ s, Gw (100 * tbulk t) s (treeP t s)
  | 0, t, hN, _, s => by cases t; simp only [tsize] at hN; omega
  | N + 1, .node k x ls ks, hN, hl, s => by
    simp only [leadedT, Bool.and_eq_true, decide_eq_true_eq] at hl
    simp only [tsize] at hN
    simp only [treeP, tbulk]
    exact Gw.node hl.1.1 (fun t ht s => Gw.tree N t (by have := tsize_mem ht; omega) (leaded_of hl.2 ht) s) s
end Go.Proofs.Ythpjpngfghcmcaa
namespace Go.Proofs.Ythpjpngfghcmcaa
open Go.RowKit Lx Sx
set_option maxRecDepth 100000
set_option maxHeartbeats 4000000
def TreeOk (N : Nat) : Prop := ∀ (t : Tree) (w : World) (Bs b : Nat) (s : WS) (c0 c1 c2 c3 : Value), tsize t ≤ N → shapedT t = true → leadedT t = true → s.2.length + 100 * tbulk t ≤ 1000000000000 → s.1.length + 100 * tbulk t ≤ 1000000000000 → Pr Bs b s.1 s.2 w → TreeIs (fun b => b < Bs) w t [c0, c1, c2, c3] → Bs ≤ w.heap.size →
  Calls Try.prog 61 [.pointer (some ⟨b, 0, none⟩), .agg #[c0, c1, c2, c3]].toArray w fun e w' => e = .returned (.tuple #[]) ∧ Pr Bs b (treeP t s).1 (treeP t s).2 w' ∧ Prn Bs b w w'
theorem listP_snoc (ls : List (List UInt8)) (c : Nat) : ∀ (fs : List (WS → WS)) (g : WS → WS) (i : Nat) (s : WS), listP ls c (fs ++ [g]) i s = g (if 0 < i + fs.length then putP (ls.getD (c + (i + fs.length) - 1) []) [44] (listP ls c fs i s) else listP ls c fs i s)
  | [], g, i, s => by simp only [List.nil_append, listP, List.length_nil, Nat.add_zero]
  | f :: r, g, i, s => by
    simp only [List.cons_append, listP, List.length_cons]
    rw [listP_snoc ls c r g (i + 1), show i + 1 + r.length = i + (r.length + 1) from by omega]
theorem treesP_app : ∀ (a b : List Tree), treesP (a ++ b) = treesP a ++ treesP b
  | [], b => rfl
  | t :: r, b => by simp only [List.cons_append, treesP, treesP_app r b]
theorem lst_step {ls : List (List UInt8)} {c : Nat} {ks : List Tree} {i : Nat} (s : WS) (h : i < ks.length) : listP ls c (treesP (ks.take (i + 1))) 0 s = treeP ks[i] (if 0 < i then putP (ls.getD (c + i - 1) []) [44] (listP ls c (treesP (ks.take i)) 0 s) else listP ls c (treesP (ks.take i)) 0 s) := by
  rw [List.take_succ_eq_append_getElem h, treesP_app, treesP, treesP, listP_snoc, treesP_length, List.length_take, Nat.min_eq_left (Nat.le_of_lt h), Nat.zero_add]
theorem Pr.lt {Bs b : Nat} {x l : List UInt8} {w : World} (h : Pr Bs b x l w) : b < w.heap.size := by
  obtain ⟨p, v, hp, hB, hbk, hown⟩ := h
  exact Blk.lt (show Blk w b _ [p, v, strV x] from hbk)
theorem Pr.chgN {Bs b : Nat} {x l : List UInt8} {w w' : World} {c : Nat} {t : TypeId} {cs : List Value} (h : Pr Bs b x l w) (hc : Blk w c t cs) (ht : t ≠ 5) (hne : b ≠ c) (hx : Chg [c] w w') : Pr Bs b x l w' := by
  obtain ⟨p, v, hp, hB, hbk, hown⟩ := h
  have hv : v.ownBlock ≠ some c := Lib.ownBlock_ne hown hc ht
  exact ⟨p, v, hp, hB, (show Blk w b _ [p, v, strV x] from hbk).chg hx (nmc hne nm0), own_chg hown hx (fun g hg => nmc (fun e => hv (e ▸ hg)) nm0)⟩
theorem Prn.now {Bs b : Nat} {w w' : World} (h : Prn Bs b w w') : Bs ≤ w'.heap.size := nlt h.base h.below.size
theorem lead_now {Bs b : Nat} {w w' : World} {lb lo n : Nat} {ls : List (List UInt8)} {x : List UInt8} {j : Nat} (hL : RowIn (fun b => b < Bs) w 1 (some ⟨lb, lo, none⟩) n (ls.map strV)) (hE : Prn Bs b w w') (hj : ls[j]? = some x) : w'.cell? ⟨lb, lo + j, none⟩ = some (strV x) := by
  have hl := hL.1
  simp only [List.length_map, Nat.mul_one] at hl
  have hjl : j < ls.length := by rw [List.getElem?_eq_some_iff] at hj; exact hj.1
  obtain ⟨b', off, e, hS, hlt, hc⟩ := hL.2 (by omega)
  injection e with e
  injection e with e1 e2
  subst e1 e2
  rw [hE.chg.cell hlt (nm_low hS), hc j (by omega)]
  simp [hj]
theorem kid_now {Bs b : Nat} {w w' : World} {ks : List Tree} {cs : List Value} {kb ko n : Nat} {t : Tree} {i : Nat} (hK : KidsAre (fun b => b < Bs) w ks cs) (hR : RowIn (fun b => b < Bs) w 4 (some ⟨kb, ko, none⟩) n cs) (hE : Prn Bs b w w') (hi : ks[i]? = some t) :
    ∃ c0 c1 c2 c3, TreeIs (fun b => b < Bs) w' t [c0, c1, c2, c3] ∧ ∀ j, j < 4 → w'.cell? ⟨kb, ko + i * 4 + j, none⟩ = ([c0, c1, c2, c3] : List Value)[j]? := by
  obtain ⟨hil, rfl⟩ := List.getElem?_eq_some_iff.1 hi
  have hcl := hK.length
  have hl := hR.1
  obtain ⟨b', off, e, hS, hlt, hc⟩ := hR.2 (by omega)
  injection e with e
  injection e with e1 e2
  subst e1 e2
  obtain ⟨c0, c1, c2, c3, hT, h0, h1, h2, h3⟩ := hK.at_ hil
  refine ⟨c0, c1, c2, c3, hT.chg hE.chg (fun _ hb _ => nm_low hb), fun j hj => ?_⟩
  rw [hE.chg.cell hlt (nm_low hS), Nat.add_assoc, hc _ (by omega)]
  rcases (by omega : j = 0 ∨ j = 1 ∨ j = 2 ∨ j = 3) with rfl | rfl | rfl | rfl
  · exact h0
  · exact h1
  · exact h2
  · exact h3
theorem put_len (a b : List UInt8) (s : WS) : (putP a b s).2.length ≤ s.2.length + (a.length + 1 + b.length) ∧ (putP a b s).1.length ≤ s.1.length + (a.length + 1 + b.length) := by
  have := (Gw.refl s).put (a := a) (b := b); exact ⟨by have := this.1; omega, by have := this.2; omega⟩
theorem kbulk_step {ks : List Tree} {i : Nat} (h : i < ks.length) : kbulk (ks.take i) + tbulk ks[i] ≤ kbulk ks := by
  have a := qb_take ks i
  have b := kbulk_take ks (i + 1)
  rw [qb, dif_pos h] at a
  omega
theorem plistL {N : Nat} (ih : TreeOk N) {w : World} {Bs b c : Nat} {s : WS} {ls : List (List UInt8)} {ks : List Tree} {cs : List Value} {k : Int} {x : List UInt8} {A B B2 : Option Addr} {m n n2 m2 : Nat} (h1c : 1 ≤ c) (hc6 : c ≤ 6) (hcl : c + ks.length ≤ ls.length + 1) (hks : ∀ t, t ∈ ks → tsize t ≤ N ∧ shapedT t = true ∧ leadedT t = true) (hl1 : s.2.length + 10 * lsum ls + 100 * kbulk ks + 10 ≤ 1000000000000) (hl2 : s.1.length + 10 * lsum ls + 100 * kbulk ks + 10 ≤ 1000000000000)
    (hP : Pr Bs b s.1 s.2 w) (hL : RowIn (fun b => b < Bs) w 1 A ls.length (ls.map strV)) (hK : KidsAre (fun b => b < Bs) w ks cs) (hR : RowIn (fun b => b < Bs) w 4 B ks.length cs) (hBw : Bs ≤ w.heap.size) :
    Calls Try.prog 93 [.pointer (some ⟨b, 0, none⟩), .agg #[.int .i64 k, strV x, .slice A ls.length m, .slice B2 n2 m2], .slice B ks.length n, .int .i64 (c : Nat)].toArray w fun e w' => e = .returned (.tuple #[]) ∧ Pr Bs b (listP ls c (treesP ks) 0 s).1 (listP ls c (treesP ks) 0 s).2 w' ∧ Prn Bs b w w' := by
  have hgk : ∀ t, t ∈ ks → ∀ s, Gw (100 * tbulk t) s (treeP t s) := fun t ht s => Gw.tree _ t (Nat.le_refl _) (hks t ht).2.2 s
  have hE := Prn.refl (b := b) hBw
  refine rE 33 Try.func93 rfl rfl rfl ?_
  intro a hf
  refine rR 2 hf rfl ?_
  clear hf a; intro a hf
  obtain ⟨w1, b2, he, hB3, hx4, eb5, lb6⟩ := ef_box (P := Try.prog) (t := 26) (x := (.tmp 1)) hf rfl rfl w 0
  refine rV hf rfl he ?_
  clear he hf a; intro a hf
  have ge_b2 := Prn.ge_new hE eb5
  have ne_b_b2 : b ≠ b2 := ne_new hP.lt eb5
  replace hP := hP.chg0 hx4
  replace hE := hE.t0 hx4
  clear eb5 lb6
  refine rR 5 hf rfl ?_
  clear hf a; intro a hf
  refine rV hf rfl (ex_len hf Try.underlying24 rfl) ?_
  clear hf a; intro a hf
  refine rR 4 hf rfl ?_
  clear hf a; intro a hf
  refine rL (fun g a w' => ∃ i, Fr a 33 (fm [(0, .pointer (some ⟨b, 0, none⟩)), (3, .int .i64 (c : Nat)), (5, .pointer (some ⟨b2, 0, none⟩)), (10, .slice B ks.length n), (11, .int .i64 (ks.length : Nat)), (12, .int .i64 (i : Nat))]) ∧ Prn Bs b w w' ∧ Blk w' b2 26 [.int .i64 k, strV x, .slice A ls.length m, .slice B2 n2 m2] ∧ Pr Bs b (listP ls c (treesP (ks.take i)) 0 s).1 (listP ls c (treesP (ks.take i)) 0 s).2 w' ∧ i ≤ ks.length ∧ g = ks.length - i) _ ⟨0, hf.pick ⟨rfl, rfl, rfl, rfl, rfl, rfl, trivial⟩, hE, hB3, by simpa [treesP, listP] using hP, Nat.zero_le _, rfl⟩ ?_
  obtain ⟨b5, eb5⟩ : ∃ x, b2 = x := ⟨_, rfl⟩
  rw [eb5]
  have ge_b5 : w.heap.size ≤ b5 := eb5 ▸ ge_b2
  have ne_b_b5 : b ≠ b5 := eb5 ▸ ne_b_b2
  clear eb5 hf a hP
  intro g0 a w' hI
  obtain ⟨i, hf, hE, hB5, hP, hi, rfl⟩ := hI
  by_cases hlt : i < ks.length
  obtain ⟨kb, ko, rfl, _, hkb, _⟩ := hR.2 (by omega)
  have hki : ks[i]? = some ks[i] := List.getElem?_eq_getElem hlt
  obtain ⟨d0, d1, d2, d3, hT, hK4⟩ := kid_now hK hR hE hki
  have on_T := hT.one
  have hmem : ks[i] ∈ ks := List.getElem_mem hlt
  have htt := kbulk_step hlt
  have hst := lst_step (ls := ls) (c := c) s hlt
  have hG := Gw.list (ls := ls) (c := c) h1c (ks.take i) 0 (fun t ht => hgk t (List.mem_of_mem_take ht)) s
  have hG1 := hG.1
  have hG2 := hG.2
  simp only [List.length_take] at hG1 hG2
  have hd0 := lsum_drop ls (c + 0 - 1)
  have hmin : min i ks.length = i := Nat.min_eq_left hi
  have hLL := lsum_len ls
  have hKL := kbulk_len ks
  refine rR 2 hf rfl ?_
  clear hf a; intro a hf
  refine rV hf rfl (ex_ltI (c := true) hf rfl rfl (by simp; omega)) ?_
  clear hf a; intro a hf
  refine rR 11 hf rfl ?_
  clear hf a; intro a hf
  refine rV hf rfl (ex_index (sz := 4) (k := i) (r := ko + i * 4) hf Try.underlying24 (by kernel_rfl) rfl rfl rfl hlt rfl) ?_
  clear hf a; intro a hf
  refine rV hf rfl (ex_loadN (cs := [d0, d1, d2, d3]) (m := 4) hf rfl (by kernel_rfl) rfl hK4) ?_
  clear hf a; intro a hf
  obtain ⟨w7, b8, he, hB9, hx10, eb11, lb12⟩ := eT a w' 0
  refine rV hf rfl he ?_
  clear he hf a; intro a hf
  have ne_b5_b8 : b5 ≠ b8 := ne_new hB5.lt eb11
  have ge_b8 := Prn.ge_new hE eb11
  have ne_b_b8 : b ≠ b8 := ne_new hP.lt eb11
  replace hB5 := hB5.c0 hx10
  replace hP := hP.chg0 hx10
  replace hT := hT.t0 hx10
  replace hE := hE.t0 hx10
  clear eb11 lb12
  refine rR 1 hf rfl ?_
  clear hf a; intro a hf
  obtain ⟨w13, he, hB14, hx15⟩ := eN (.tmp 9) (.tmp 16) hf rfl rfl rfl on_T hB9 rfl 0
  refine rS hf rfl he ?_
  clear he hf a; intro a hf
  replace hB5 := hB5.c1 hx15 ne_b5_b8
  replace hP := hP.chgN hB9 (by decide) ne_b_b8 hx15
  replace hT := hT.chg hx15 (fun k hb hlt2 => (nmc (by have := hE.base; omega) nm0))
  replace hE := hE.n1 hx15 ge_b8
  clear hB9
  refine rR 6 hf rfl ?_
  clear hf a; intro a hf
  refine rB hf rfl (fun c hc => ex_gtI hf rfl rfl hc) ?_ ?_
  clear hf a; intro h18 a hf
  have hip : 0 < i := by simp at h18; omega
  refine rR 6 hf rfl ?_
  clear hf a; intro a hf
  obtain ⟨lb, lo, rfl, _, hlb, _⟩ := hL.2 (by omega)
  have hlj : ls[c + i - 1]? = some (ls.getD (c + i - 1) []) := by rw [List.getD_eq_getElem?_getD, List.getElem?_eq_getElem (by omega)]; rfl
  have hlg := lsum_get ls (c + i - 1)
  refine rV hf rfl (ex_loadB hf rfl (by kernel_rfl) hB5 rfl) ?_
  clear hf a; intro a hf
  refine rR 2 hf rfl ?_
  clear hf a; intro a hf
  refine rV hf rfl (ex_addI hf rfl rfl rfl (by omega)) ?_
  clear hf a; intro a hf
  refine rV hf rfl (ex_subI hf rfl rfl rfl (by omega)) ?_
  clear hf a; intro a hf
  refine rV hf rfl (ex_index (sz := 1) (k := (c + i - 1)) (r := lo + (c + i - 1) * 1) hf Try.underlying23 (by kernel_rfl) rfl rfl (by omega) (by omega) rfl) ?_
  clear hf a; intro a hf
  refine rV hf rfl (ex_load hf rfl (by kernel_rfl) (by rw [Nat.mul_one]; exact lead_now hL hE hlj)) ?_
  clear hf a; intro a hf
  refine rC hf rfl rfl (by kernel_rfl) (putL (lead := (ls.getD (c + i - 1) [])) (tok := [44]) hP (by (try simp only [putP, List.length_append, List.length_cons, List.length_nil]); omega) (by (try simp only [putP, List.length_append, List.length_cons, List.length_nil]); omega) hE.now) ?_
  rintro _ w17 ⟨rfl, hPn, hEn⟩
  refine ⟨_, rfl, ?_⟩
  clear hf a; intro a hf
  have hx16 := hEn.chg
  replace hB5 := hB5.chg hx16 (nm_blk hB5 rfl (Ne.symm ne_b_b5))
  replace hB14 := hB14.chg hx16 (nm_blk hB14 rfl (Ne.symm ne_b_b8))
  replace hT := hT.chg hx16 (fun k hb hlt2 => (nm_low hb))
  replace hE := hE.trans hx16 (fun _ h => .inl h)
  clear hP; have hP : Pr Bs b (putP (ls.getD (c + i - 1) []) [44] (listP ls c (treesP (ks.take i)) 0 s)).1 (putP (ls.getD (c + i - 1) []) [44] (listP ls c (treesP (ks.take i)) 0 s)).2 w17 := hPn; clear hPn hEn
  refine rR 4 hf rfl ?_
  clear hf a; intro a hf
  refine rV hf rfl (ex_loadBN (m := 4) hf rfl (by kernel_rfl) hB14 rfl) ?_
  clear hf a; intro a hf
  rw [if_pos hip] at hst
  obtain ⟨hp1, hp2⟩ := put_len (ls.getD (c + i - 1) []) [44] (listP ls c (treesP (ks.take i)) 0 s)
  simp only [List.length_cons, List.length_nil] at hp1 hp2
  refine rC hf rfl rfl (by kernel_rfl) (ih ks[i] _ Bs b (putP (ls.getD (c + i - 1) []) [44] (listP ls c (treesP (ks.take i)) 0 s)) d0 d1 d2 d3 (hks _ hmem).1 (hks _ hmem).2.1 (hks _ hmem).2.2 (by omega) (by omega) hP hT hE.now) ?_
  rintro _ w19 ⟨rfl, hPn, hEn⟩
  refine ⟨_, rfl, ?_⟩
  clear hf a; intro a hf
  have hx18 := hEn.chg
  replace hB5 := hB5.chg hx18 (nm_blk hB5 rfl (Ne.symm ne_b_b5))
  replace hB14 := hB14.chg hx18 (nm_blk hB14 rfl (Ne.symm ne_b_b8))
  replace hT := hT.chg hx18 (fun k hb hlt2 => (nm_low hb))
  replace hE := hE.trans hx18 (fun _ h => .inl h)
  clear hP; have hP : Pr Bs b (treeP ks[i] (putP (ls.getD (c + i - 1) []) [44] (listP ls c (treesP (ks.take i)) 0 s))).1 (treeP ks[i] (putP (ls.getD (c + i - 1) []) [44] (listP ls c (treesP (ks.take i)) 0 s))).2 w19 := hPn; clear hPn hEn
  refine rR 4 hf rfl ?_
  clear hf a; intro a hf
  refine rV hf rfl (ex_addI hf rfl rfl rfl (by omega)) ?_
  clear hf a; intro a hf
  refine rR 2 hf rfl ?_
  clear hf a; intro a hf
  rw [← hst] at hP
  exact rX ⟨_, (by omega : ks.length - (i + 1) < ks.length - i), i + 1, hf.pick ⟨rfl, rfl, rfl, rfl, rfl, rfl, trivial⟩, hE, hB5, hP, by omega, rfl⟩
  clear hf a; intro h18 a hf
  have hip : i = 0 := by simp at h18; omega
  refine rR 7 hf rfl ?_
  clear hf a; intro a hf
  refine rV hf rfl (ex_loadBN (m := 4) hf rfl (by kernel_rfl) hB14 rfl) ?_
  clear hf a; intro a hf
  rw [if_neg (by omega)] at hst
  refine rC hf rfl rfl (by kernel_rfl) (ih ks[i] _ Bs b (listP ls c (treesP (ks.take i)) 0 s) d0 d1 d2 d3 (hks _ hmem).1 (hks _ hmem).2.1 (hks _ hmem).2.2 (by omega) (by omega) hP hT hE.now) ?_
  rintro _ w21 ⟨rfl, hPn, hEn⟩
  refine ⟨_, rfl, ?_⟩
  clear hf a; intro a hf
  have hx20 := hEn.chg
  replace hB5 := hB5.chg hx20 (nm_blk hB5 rfl (Ne.symm ne_b_b5))
  replace hB14 := hB14.chg hx20 (nm_blk hB14 rfl (Ne.symm ne_b_b8))
  replace hT := hT.chg hx20 (fun k hb hlt2 => (nm_low hb))
  replace hE := hE.trans hx20 (fun _ h => .inl h)
  clear hP; have hP : Pr Bs b (treeP ks[i] (listP ls c (treesP (ks.take i)) 0 s)).1 (treeP ks[i] (listP ls c (treesP (ks.take i)) 0 s)).2 w21 := hPn; clear hPn hEn
  refine rR 4 hf rfl ?_
  clear hf a; intro a hf
  refine rV hf rfl (ex_addI hf rfl rfl rfl (by omega)) ?_
  clear hf a; intro a hf
  refine rR 2 hf rfl ?_
  clear hf a; intro a hf
  rw [← hst] at hP
  exact rX ⟨_, (by omega : ks.length - (i + 1) < ks.length - i), i + 1, hf.pick ⟨rfl, rfl, rfl, rfl, rfl, rfl, trivial⟩, hE, hB5, hP, by omega, rfl⟩
  refine rR 2 hf rfl ?_
  clear hf a; intro a hf
  refine rV hf rfl (ex_ltI (c := false) hf rfl rfl (by simp; omega)) ?_
  clear hf a; intro a hf
  refine rR 6 hf rfl ?_
  clear hf a; intro a hf
  refine rO ?_
  refine rR 1 hf rfl ?_
  clear hf a; intro a hf
  have hz : ks.take i = ks := List.take_of_length_le (by omega)
  rw [hz] at hP
  exact rF (rs := []) hf rfl rfl ⟨rfl, hP, hE⟩
theorem plistI {N : Nat} (ih : TreeOk N) {w : World} {Bs b c : Nat} {s : WS} {ls : List (List UInt8)} {ks : List Tree} {cs : List Value} {k : Int} {x : List UInt8} {A B B2 : Option Addr} {m n n2 m2 : Nat} {ci : Int} (hci : ci = c) (h1c : 1 ≤ c) (hc6 : c ≤ 6) (hcl : c + ks.length ≤ ls.length + 1) (hks : ∀ t, t ∈ ks → tsize t ≤ N ∧ shapedT t = true ∧ leadedT t = true) (hl1 : s.2.length + 10 * lsum ls + 100 * kbulk ks + 10 ≤ 1000000000000) (hl2 : s.1.length + 10 * lsum ls + 100 * kbulk ks + 10 ≤ 1000000000000)
    (hP : Pr Bs b s.1 s.2 w) (hL : RowIn (fun b => b < Bs) w 1 A ls.length (ls.map strV)) (hK : KidsAre (fun b => b < Bs) w ks cs) (hR : RowIn (fun b => b < Bs) w 4 B ks.length cs) (hBw : Bs ≤ w.heap.size) :
    Calls Try.prog 93 [.pointer (some ⟨b, 0, none⟩), .agg #[.int .i64 k, strV x, .slice A ls.length m, .slice B2 n2 m2], .slice B ks.length n, .int .i64 ci].toArray w fun e w' => e = .returned (.tuple #[]) ∧ Pr Bs b (listP ls c (treesP ks) 0 s).1 (listP ls c (treesP ks) 0 s).2 w' ∧ Prn Bs b w w' := by
  subst hci; exact plistL ih h1c hc6 hcl hks hl1 hl2 hP hL hK hR hBw
end Go.Proofs.Ythpjpngfghcmcaa
