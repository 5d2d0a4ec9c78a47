/- LexLimits: the plain facts, the contracts of many and Mod, the walk. -/
import Derived.Test.YtoknigfjgoaoaaaLexT
import Derived.Test.YtoknigfjgoaoaaaBuild
import Derived.Laws.IdiomStrings
namespace Go.Proofs.Ytoknigfjgoaoaaa
open Go.RowKit Lx
set_option linter.unusedSimpArgs false
set_option linter.unusedVariables false

theorem spanN_rep (p : UInt8 → Bool) (c : UInt8) (hc : p c = true) : ∀ n, spanN p (List.replicate n c) = n
  | 0 => rfl
  | n + 1 => by
    have := spanN_rep p c hc n
    unfold spanN at *
    rw [List.replicate_succ, List.takeWhile_cons, if_pos hc, List.length_cons, this]
theorem rep_word (n : Nat) (c a b : UInt8) (r : List UInt8) (h : a ≠ b) : List.replicate n c ≠ a :: b :: r := by
  intro e
  match n, e with
  | 0, e => simp at e
  | 1, e => simp at e
  | n + 2, e =>
    simp only [List.replicate_succ, List.cons.injEq] at e
    exact h (e.1.symm.trans e.2.1)
theorem resv_rep (n : Nat) (c : UInt8) : resvB (List.replicate n c) = false := by
  simp only [resvB, words, List.contains_cons, List.contains_nil, Bool.or_false, Bool.or_eq_false_iff, beq_eq_false_iff_ne]
  refine ⟨?_, ?_, ?_, ?_, ?_, ?_, ?_, ?_, ?_, ?_, ?_, ?_, ?_⟩ <;> exact rep_word _ _ _ _ _ (by decide)
theorem getD_rep {n : Nat} {c : UInt8} (h : 0 < n) : (List.replicate n c).getD 0 0 = c := by
  match n, h with
  | n + 1, _ => rfl
theorem tok_word {n : Nat} {c : UInt8} (h0 : 0 < n) (hc : lowerB c = true) : tokenT (List.replicate n c) = if 24 < n then (0, 0, 3) else (1, n, 0) := by
  have hl : letterB c = true := by simp [letterB, hc]
  have hu : upperB c = false := by simp [lowerB, upperB] at *; omega
  have ha : allowedB c = true := by simp [lowerB, allowedB, printedB] at *; omega
  have hn : spanN wordB (List.replicate n c) = n := spanN_rep _ _ (wordB_letter hl) n
  have hw : wordCond (List.replicate n c) = false := by unfold wordCond; rw [getD_rep h0, hu]; rfl
  unfold tokenT
  simp only [getD_rep h0]
  rw [if_neg (by simp [ha]), if_pos hl, wordT_no hn hw]
  unfold wordNoT
  rw [List.take_of_length_le (by simp), getD_rep h0, resv_rep]
  simp [hc]
theorem tok_digits {n : Nat} {c : UInt8} (h0 : 0 < n) (hc : digitB c = true) (h48 : c.toNat ≠ 48) : tokenT (List.replicate n c) = if 15 < n then (5, 0, 3) else (5, n, 0) := by
  have hl : letterB c = false := by simp [letterB, digitB, lowerB, upperB] at *; omega
  have ha : allowedB c = true := by simp [digitB, allowedB, printedB] at *; omega
  have hn : spanN digitB (List.replicate n c) = n := spanN_rep _ _ hc n
  unfold tokenT
  simp only [getD_rep h0]
  rw [if_neg (by simp [ha]), if_neg (by simp [hl]), if_pos hc]
  unfold numberT
  simp only [hn, getD_rep h0]
  rw [if_neg (fun h => h48 h.2)]
  split <;> rfl
theorem tok_pair {n : Nat} {c : UInt8} (h0 : 0 < n) (hc : lowerB c = true) : tokenT ([77, 46] ++ List.replicate n c ++ [57]) = if 24 < n + 1 then (0, 0, 3) else (3, n + 3, 0) := by
  have hl : letterB c = true := by simp [letterB, hc]
  have hw : wordB c = true := wordB_letter hl
  have hsp : spanN wordB ([77, 46] ++ List.replicate n c ++ [57]) = 1 := by simp [spanN, show wordB 77 = true from by decide, show wordB 46 = false from by decide]
  have hd : ([77, 46] ++ List.replicate n c ++ [57]).drop (1 + 1) = List.replicate n c ++ [57] := by simp
  have hm : spanN wordB (List.replicate n c ++ [57]) = n + 1 := by
    rw [spanN_app_all _ _ _ (by rw [spanN_rep _ _ hw]; simp)]
    simp [spanN, show wordB 57 = true from by decide]
  have hg2 : ([77, 46] ++ List.replicate n c ++ [57]).getD (1 + 1) 0 = c := by
    match n, h0 with
    | n + 1, _ => rfl
  have hcond : wordCond ([77, 46] ++ List.replicate n c ++ [57]) = true := wordCond_mk hsp (by rfl) (by rfl) (by simp) (by rfl) (by rw [hg2]; exact hl)
  have hns : resvB (List.replicate n c ++ [57]) = false := by
    cases hx : resvB (List.replicate n c ++ [57]) with
    | false => rfl
    | true =>
      have hm : (List.replicate n c ++ [57]) ∈ words := by simpa [resvB] using hx
      have hlast : ∀ x ∈ words, x.getLast? ≠ some 57 := by decide
      exact absurd (by simp) (hlast _ hm)
  have e0 : ([77, 46] ++ List.replicate n c ++ [57]).getD 0 0 = 77 := rfl
  unfold tokenT
  simp only [e0]
  rw [if_neg (by decide), if_pos (by decide), wordT_yes (m := n + 1) hsp (by rw [hd]; exact hm) hcond]
  unfold wordYesT
  rw [hd, hg2, List.take_of_length_le (by simp)]
  by_cases h24 : 24 < n + 1
  · rw [if_pos (.inr h24), if_pos h24]
  · rw [if_neg (by omega), if_neg (by rw [hns]; simp), if_pos hc, if_neg h24]
    congr 2; omega

theorem lower_head {c : UInt8} (h : lowerB c = true) : whiteB c = false ∧ c.toNat ≠ 35 := by simp [lowerB, whiteB] at *; omega
theorem digit_head {c : UInt8} (h : digitB c = true) : whiteB c = false ∧ c.toNat ≠ 35 := by simp [digitB, whiteB] at *; omega
theorem cell_ext {w w1 : World} {b o : Nat} {v : Value} (h : b < w.heap.size ∧ w.cell? ⟨b, o, none⟩ = some v) (he : Ext w w1) : b < w1.heap.size ∧ w1.cell? ⟨b, o, none⟩ = some v := ⟨he.lt h.1, (he.cell (p := ⟨b, o, none⟩) h.1).trans h.2⟩
theorem lead_blank {r : List UInt8} (h0 : 0 < r.length) (h1 : whiteB (r.getD 0 0) = false) (h2 : (r.getD 0 0).toNat ≠ 35) : leadT false (32 :: r) 0 = (1, none) := by
  have : leadT false (32 :: r) 0 = leadT false r 1 := by simp [leadT, show whiteB 32 = true from by decide]
  rw [this, lead_stop h0 h1 h2]
theorem scan_blank_err {r : List UInt8} {k m e : Nat} (hl : r.length ≤ 4000) (h0 : 0 < r.length) (h1 : whiteB (r.getD 0 0) = false) (h2 : (r.getD 0 0).toNat ≠ 35) (ht : tokenT r = (k, m, e)) (he : e ≠ 0) : scan (32 :: r) = ⟨[], [], 1 + m, e⟩ := by
  unfold scan
  rw [if_neg (by simp; omega), scanT_err (lead_blank h0 h1 h2) (by simp only [List.length_cons]; omega) (by simpa using ht) he]
theorem scan_err0 {r : List UInt8} {k m e : Nat} (hl : r.length ≤ 4000) (h0 : 0 < r.length) (h1 : whiteB (r.getD 0 0) = false) (h2 : (r.getD 0 0).toNat ≠ 35) (ht : tokenT r = (k, m, e)) (he : e ≠ 0) : scan r = ⟨[], [], m, e⟩ := by
  unfold scan
  rw [if_neg (by omega), scanT_err (lead_stop h0 h1 h2) (by omega) (by simpa using ht) he]
  simp
theorem class_of {r : List UInt8} {k : Nat} (h0 : 0 < r.length) (ht : tokenT r = (k, r.length, 0)) : classT r = k := by
  unfold classT
  rw [if_neg (by intro e; subst e; simp at h0), ht]
  simp
theorem scan_blank_ok {r : List UInt8} {k : Nat} (hl : r.length ≤ 4000) (h0 : 0 < r.length) (hk : k ≠ 0) (ht : tokenT r = (k, r.length, 0)) : scan (32 :: r) = ⟨[⟨k, [32], r⟩], [], 0, 0⟩ := by
  have := scan_again (ts := [⟨k, [32], r⟩]) (tail := []) (by intro t h; simp at h; subst h; exact ⟨by simp only; rw [class_of h0 ht], by simp only; omega, by simp only; decide⟩) trivial (by decide) (by simp [joinT]; omega)
  simpa [joinT] using this
theorem scan_ok0 {r : List UInt8} {k : Nat} (hl : r.length ≤ 4000) (h0 : 0 < r.length) (hk : k ≠ 0) (ht : tokenT r = (k, r.length, 0)) : scan r = ⟨[⟨k, [], r⟩], [], 0, 0⟩ := by
  have := scan_again (ts := [⟨k, [], r⟩]) (tail := []) (by intro t h; simp at h; subst h; exact ⟨by simp only; rw [class_of h0 ht], by simp only; omega, by simp only; decide⟩) trivial (by decide) (by simp [joinT]; omega)
  simpa [joinT] using this

theorem tmod_facts (n m : Int) (hm : 0 < m) : n.tmod m < m ∧ -m < n.tmod m ∧ (n.tmod m < 0 → n % m = n.tmod m + m) ∧ (¬ n.tmod m < 0 → n % m = n.tmod m) := by
  have h1 := Int.tmod_lt_of_pos n hm
  have h2 := Int.tmod_lt_of_pos (-n) hm
  rw [Int.neg_tmod] at h2
  have h3 : n % m = (n.tmod m) % m := by
    have e := Int.tmod_add_mul_tdiv n m
    have : (n.tmod m + m * n.tdiv m) % m = n.tmod m % m := Int.add_mul_emod_self_left ..
    rw [e] at this
    exact this
  refine ⟨h1, by omega, fun h => ?_, fun h => ?_⟩
  · rw [h3]
    have : n.tmod m % m = (n.tmod m + m) % m := by rw [Int.add_emod_right]
    rw [this, Int.emod_eq_of_lt (by omega) (by omega)]
  · rw [h3, Int.emod_eq_of_lt (by omega) h1]

set_option maxHeartbeats 1000000 in
theorem modC (n m : Int) (w : World) (hm : 0 < m) (hm2 : m ≤ 1000000) : Calls Try.prog 19 #[.int .i64 n, .int .i64 m] w fun e w' => e = .returned (.int .i64 (n % m)) ∧ w = w' := by
  have hne : (m == 0) = false := by simp; omega
  have hm0 : ¬ m = 0 := by omega
  obtain ⟨h1, h2, h3, h4⟩ := tmod_facts n m hm
  have H3 := Lib.hid h3
  have H4 := Lib.hid h4
  obtain ⟨q, hq⟩ : ∃ q, n % m = q := ⟨_, rfl⟩
  rw [hq]
  have HQ := Lib.hid hq
  clear h3 h4 hq
  by_cases hneg : n.tmod m < 0
  · have HR := Lib.hid (HQ.out.symm.trans (H3.out hneg))
    go_enter Try.func19, Try.ntmps19
    go_wp2
    go_ret
    exact ⟨ret_int HR.out.symm, rfl⟩
  · have HR := Lib.hid (HQ.out.symm.trans (H4.out hneg))
    go_enter Try.func19, Try.ntmps19
    go_wp2
    go_ret
    exact ⟨ret_int HR.out.symm, rfl⟩

set_option maxHeartbeats 2000000 in
theorem manyC (x : Int) (n : Nat) (y : Int) (hy : y = n) (w : World) (hx0 : 0 ≤ x) (hx1 : x ≤ 255) (hn0 : 0 < n) (hn : n ≤ 1000) : Calls Try.prog 20 #[.int .u8 x, .int .i64 y] w fun e w' => e = .returned (.string ⟨(List.replicate n x.toNat.toUInt8).toArray⟩) ∧ Ext w w' := by
  subst hy
  obtain ⟨l, hl⟩ : ∃ l, List.replicate n x.toNat.toUInt8 = l := ⟨_, rfl⟩
  rw [hl]
  have HL := Lib.hid hl; clear hl
  obtain ⟨i0, hi0, hz0, hz1, hz2⟩ := info_parts' byteInfo
  go_enter Try.func20, Try.ntmps20
  go_wp2_with fail
  go_loopg [5, 6] n (fun g s5 s6 wx => ∃ i : Nat, g = n - i ∧ i ≤ n ∧ s6 = .int .i64 i ∧ Hid (wx.ownsRow w.heap.size 5 1 s5 i (List.replicate i (.int .u8 x))) ∧ Hid (Ext w wx))
  case atStart => exact ⟨0, rfl, Nat.zero_le _, rfl, Lib.hid (World.ownsRow_nil _ _ _ _), Lib.hid (Ext.refl _)⟩
  case round =>
    obtain ⟨i, rfl, hin, rfl, HO, HX⟩ := hrel
    have hsz := HX.out.size
    by_cases hit : i < n
    · have hown := HO.out
      go_wp2_with (at_builtin; refine wpList_append_lies _ rfl _ _ _ rfl w.heap.size 5 i0 _ 1 1 Try.underlying45 hi0 hz0 hz1 hz2 rfl (by omega) u5 i _ rfl (hown.alloc _) ⟨wr.heap.size, 0, none⟩ 1 1 [.int .u8 x] rfl rfl (World.news_of_block (cs := #[.int .u8 x]) (t := 5) (fr := (0, 0)) (heap_alloc_new wr _)) (by simp [Value.oneCell']) (by omega) (by unfold maxLen; omega) (by omega) (by simp; omega) (wr.heap.size + 1) (by simp) ?_; intro gg cap w1 hown1 hgrow hat hlt1)
      have HX1 := Lib.hid ((HX.out.alloc _).grown hgrow (fun k hk => (hown.lt k hk).1))
      have HO1 := Lib.hid (show w1.ownsRow w.heap.size 5 1 (.slice (some ⟨gg, 0, none⟩) (i + 1) cap) (i + 1) (List.replicate (i + 1) (.int .u8 x)) from by rw [List.replicate_succ']; exact hown1)
      clear hown hown1 hgrow hat
      go_wp2_with fail
      go_roundg (n - (i + 1))
      case measure => omega
      case rel => exact ⟨i + 1, rfl, by omega, by go_num, HO1, HX1⟩
    · have hii : i = n := by omega
      subst hii
      obtain ⟨gg, cap, hv, _, hlt⟩ := HO.out.form hn0
      have hO := HO.out
      rw [hv] at hO
      subst hv
      have hconv : (convert 45 9 (.slice (some ⟨gg, 0, none⟩) i cap)).run Try.prog wr = .ok (.string ⟨l.toArray⟩) wr := by
        rw [← HL.out]
        have := run_convert_bytes_back (P := Try.prog) wr 45 9 5 ⟨gg, 0, none⟩ cap (List.replicate i x.toNat.toUInt8) Try.underlying45 Try.underlying5 Try.underlying9 (fun j hj => by
          have hj' : j < i := by simpa using hj
          rw [hO.cells (g := gg) rfl j (.int .u8 x) (by simp [hj'])]
          simp only [List.getElem_replicate]
          have : (x.toNat.toUInt8).toNat = x.toNat := by simp; omega
          rw [this]; congr 2; omega)
        simpa using this
      clear hO
      go_wp2_with fail
      go_ret
      exact ⟨rfl, HX.out⟩
end Go.Proofs.Ytoknigfjgoaoaaa
