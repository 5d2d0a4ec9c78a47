/- Contracts of the functions that the law reaches, part 3. -/
import Derived.Test.YtiknldgpnhikhaaPk2
set_option linter.unusedVariables false
set_option linter.unusedSimpArgs false
namespace Go.Proofs.Ytiknldgpnhikhaa
open Go.RowKit Lx
set_option maxRecDepth 100000
set_option maxHeartbeats 1000000 in
theorem sK (s : ByteArray) (c : Int) (w : World) : Calls Try.prog 62 #[.string s, .int .u8 c] w fun e w' => e = .returned (.int .i64 (Lib.indexByte s.data.toList c.toNat.toUInt8)) ∧ w = w' := by
  go_enter Try.func62, Try.ntmps62
  go_wp2
  rw [run_callFunc_extern Try.func67 (by kernel_rfl) (by kernel_rfl) (by kernel_rfl) (e := Extern.BytealgIndexByte.indexByte) (by kernel_rfl), Lib.run_indexByteString]
  simp only [Result.andThen]
  rw [Oper.upon_value]
  go_wp2
  go_ret
  exact ⟨rfl, rfl⟩
theorem od (s : ByteArray) (c : Int) (w : World) : Calls Try.prog 52 #[.string s, .int .u8 c] w fun e w' => e = .returned (.int .i64 (Lib.indexByte s.data.toList c.toNat.toUInt8)) ∧ w = w' := by
  go_enter Try.func52, Try.ntmps52
  go_wp2_with (go_at_call 62; refine (sK _ _ _).mono ?_; rintro e w' ⟨rfl, rfl⟩)
  go_ret
  exact ⟨rfl, rfl⟩
set_option maxHeartbeats 400000 in
theorem bO (l : List UInt8) (w : World) (hl : l.length ≤ 281474976710656) : Calls Try.prog 60 #[.string ⟨l.toArray⟩] w fun e w' => e = .returned (.int .i64 (spanN az l : Nat)) ∧ w = w' := by
  go_enter Try.func60, Try.ntmps60
  go_wp2_with fail
  go_loop [3] (fun n => ∃ k : Nat, k ≤ l.length ∧ n = .int .i64 k ∧ Hid (spanN az l = k + spanN az (l.drop k))) (fun n => l.length - (intOf n).toNat)
  case atStart => exact ⟨0, by omega, rfl, Lib.hid (by simp)⟩
  case round =>
    obtain ⟨k, hk, rfl, hrel⟩ := hrel
    by_cases hlt : k < l.length
    · obtain ⟨c, hc⟩ : ∃ c, ({ data := l.toArray } : ByteArray)[k]'hlt = c := ⟨_, rfl⟩
      have HC := Lib.hid (show l[k] = c from hc)
      go_wp2_with (first | (go_at_call 47; refine (av _ _).mono ?_; rintro e w' ⟨rfl, rfl⟩) | (go_at_call 49; refine (be _ _).mono ?_; rintro e w' ⟨rfl, rfl⟩))
      all_goals go_light
      · go_round
        case rel => exact ⟨k + 1, by omega, by go_num, Lib.hid (by rw [hrel.out, fx hlt HC.out (hU (.inl ‹_›))]; omega)⟩
        case measure => simp [intOf]; omega
      · go_round
        case rel => exact ⟨k + 1, by omega, by go_num, Lib.hid (by rw [hrel.out, fx hlt HC.out (hU (.inr (.inl ‹_›)))]; omega)⟩
        case measure => simp [intOf]; omega
      · go_round
        case rel => exact ⟨k + 1, by omega, by go_num, Lib.hid (by rw [hrel.out, fx hlt HC.out (hU (.inr (.inr ‹_›)))]; omega)⟩
        case measure => simp [intOf]; omega
      · go_ret
        exact ⟨fD (by rw [hrel.out, jZ hlt HC.out (mT ‹_› ‹_› ‹_›)]; omega), rfl⟩
    · go_wp2_with fail
      go_ret
      exact ⟨fD (by rw [hrel.out, ky (by omega)]; omega), rfl⟩
set_option maxHeartbeats 1000000 in
theorem cx (l : List UInt8) (w : World) (hl : l.length ≤ 281474976710656) : Calls Try.prog 50 #[.string ⟨l.toArray⟩] w fun e w' => e = .returned (.tuple #[.int .i64 ((cw l).1 : Nat), .int .i64 ((cw l).2 : Nat)]) ∧ w = w' := by
  go_enter Try.func50, Try.ntmps50
  go_wp2_with fail
  go_loop [4] (fun n => ∃ k : Nat, k ≤ l.length ∧ n = .int .i64 k ∧ Hid (spanN bC l = k + spanN bC (l.drop k))) (fun n => l.length - (intOf n).toNat)
  case atStart => exact ⟨0, by omega, rfl, Lib.hid (by simp)⟩
  case round =>
    obtain ⟨k, hk, rfl, hrel⟩ := hrel
    by_cases hlt : k < l.length
    · obtain ⟨c, hc⟩ : ∃ c, ({ data := l.toArray } : ByteArray)[k]'hlt = c := ⟨_, rfl⟩
      have HC := Lib.hid (show l[k] = c from hc)
      cases hd : bC c
      · have HN := Lib.hid (show spanN bC l = k from by rw [hrel.out, jZ hlt HC.out hd]; omega)
        have hk0 := hk
        by_cases h1 : 1 < k
        · have h0 : 0 < l.length := by omega
          obtain ⟨c0, hc0⟩ : ∃ c, ({ data := l.toArray } : ByteArray)[0]'h0 = c := ⟨_, rfl⟩
          have HC0 := Lib.hid (show l[0] = c0 from hc0)
          cases h48 : ((c0.toNat : Int) == 48)
          · have HG := Lib.hid (show 1 < k → ¬ (l.getD 0 0).toNat = 48 from fun _ => by rw [au h0 HC0.out]; exact gu (m := 48) h48)
            by_cases h15 : 15 < k
            · go_wp2_with (go_at_call 49; refine (be _ _).mono ?_; rintro e w' ⟨rfl, rfl⟩)
              go_ret2
              exact ⟨by rw [im HN.out HG.out h15]; rfl, rfl⟩
            · go_wp2_with (go_at_call 49; refine (be _ _).mono ?_; rintro e w' ⟨rfl, rfl⟩)
              go_ret2
              exact ⟨by rw [fy HN.out HG.out h15]; rfl, rfl⟩
          · go_wp2_with (go_at_call 49; refine (be _ _).mono ?_; rintro e w' ⟨rfl, rfl⟩)
            go_ret2
            exact ⟨by rw [it HN.out h1 h0 HC0.out h48]; rfl, rfl⟩
        · go_wp2_with (go_at_call 49; refine (be _ _).mono ?_; rintro e w' ⟨rfl, rfl⟩)
          go_ret2
          exact ⟨by rw [fy HN.out (fun h => absurd h h1) (by omega)]; rfl, rfl⟩
      · go_wp2_with (go_at_call 49; refine (be _ _).mono ?_; rintro e w' ⟨rfl, rfl⟩)
        go_light
        go_round
        case rel => exact ⟨k + 1, by omega, by go_num, Lib.hid (by rw [hrel.out, fx hlt HC.out hd]; omega)⟩
        case measure => simp [intOf]; omega
    · have HN := Lib.hid (show spanN bC l = k from by rw [hrel.out, ky (by omega)]; omega)
      have hk0 := hk
      by_cases h1 : 1 < k
      · have h0 : 0 < l.length := by omega
        obtain ⟨c0, hc0⟩ : ∃ c, ({ data := l.toArray } : ByteArray)[0]'h0 = c := ⟨_, rfl⟩
        have HC0 := Lib.hid (show l[0] = c0 from hc0)
        cases h48 : ((c0.toNat : Int) == 48)
        · have HG := Lib.hid (show 1 < k → ¬ (l.getD 0 0).toNat = 48 from fun _ => by rw [au h0 HC0.out]; exact gu (m := 48) h48)
          by_cases h15 : 15 < k
          · go_wp2_with (go_at_call 49; refine (be _ _).mono ?_; rintro e w' ⟨rfl, rfl⟩)
            go_ret2
            exact ⟨by rw [im HN.out HG.out h15]; rfl, rfl⟩
          · go_wp2_with (go_at_call 49; refine (be _ _).mono ?_; rintro e w' ⟨rfl, rfl⟩)
            go_ret2
            exact ⟨by rw [fy HN.out HG.out h15]; rfl, rfl⟩
        · go_wp2_with (go_at_call 49; refine (be _ _).mono ?_; rintro e w' ⟨rfl, rfl⟩)
          go_ret2
          exact ⟨by rw [it HN.out h1 h0 HC0.out h48]; rfl, rfl⟩
      · go_wp2_with (go_at_call 49; refine (be _ _).mono ?_; rintro e w' ⟨rfl, rfl⟩)
        go_ret2
        exact ⟨by rw [fy HN.out (fun h => absurd h h1) (by omega)]; rfl, rfl⟩
set_option maxHeartbeats 1000000 in
theorem cy (l : List UInt8) (w : World) (h0 : 0 < l.length) (hl : l.length ≤ 281474976710656) : Calls Try.prog 51 #[.string ⟨l.toArray⟩] w fun e w' => e = .returned (.tuple #[.int .i64 ((quotedT l.tail 1).1 : Nat), .int .i64 ((quotedT l.tail 1).2 : Nat)]) ∧ w = w' := by
  obtain ⟨r, hr⟩ : ∃ r, quotedT l.tail 1 = r := ⟨_, rfl⟩
  rw [hr]
  have HR := Lib.hid hr; clear hr
  go_enter Try.func51, Try.ntmps51
  go_wp2_with fail
  go_loop [4, 5] (fun n c => ∃ k : Nat, k ≤ l.length ∧ n = .int .i64 k ∧ Hid (r = quotedT (l.drop k) k)) (fun n _ => l.length - (intOf n).toNat)
  case atStart => exact ⟨1, by omega, rfl, Lib.hid (by rw [← HR.out, List.drop_one])⟩
  case round =>
    obtain ⟨k, hk, rfl, hrel⟩ := hrel
    by_cases hlt : k < l.length
    · obtain ⟨c, hc⟩ : ∃ c, ({ data := l.toArray } : ByteArray)[k]'hlt = c := ⟨_, rfl⟩
      have HC := Lib.hid (show l[k] = c from hc)
      have HS := Lib.hid (lw hlt HC.out)
      cases ha : cb c
      · go_wp2_with (go_at_call 35; refine (aU _ _).mono ?_; rintro e w' ⟨rfl, rfl⟩)
        go_ret2
        exact ⟨by rw [hrel.out, HS.out, if_pos ha]; rfl, rfl⟩
      cases h34 : ((c.toNat : Int) == 34)
      rotate_left
      · go_wp2_with (go_at_call 35; refine (aU _ _).mono ?_; rintro e w' ⟨rfl, rfl⟩)
        go_ret2
        exact ⟨by rw [hrel.out, HS.out, if_neg (by simp [ha]), if_pos (i4 (m := 34) h34)]; rfl, rfl⟩
      cases h92 : ((c.toNat : Int) == 92)
      rotate_left
      · go_wp2_with (go_at_call 35; refine (aU _ _).mono ?_; rintro e w' ⟨rfl, rfl⟩)
        go_ret2
        exact ⟨by rw [hrel.out, HS.out, if_neg (by simp [ha]), if_neg (gu (m := 34) h34), if_pos (.inl (i4 (m := 92) h92))]; rfl, rfl⟩
      by_cases h32 : (c.toNat : Int) < 32
      · go_wp2_with (go_at_call 35; refine (aU _ _).mono ?_; rintro e w' ⟨rfl, rfl⟩)
        go_ret2
        exact ⟨by rw [hrel.out, HS.out, if_neg (by simp [ha]), if_neg (gu (m := 34) h34), if_pos (.inr (by omega))]; rfl, rfl⟩
      · go_wp2_with (go_at_call 35; refine (aU _ _).mono ?_; rintro e w' ⟨rfl, rfl⟩)
        go_light
        go_round
        case rel => exact ⟨k + 1, by omega, by go_num, Lib.hid (by rw [hrel.out, HS.out, if_neg (by simp [ha]), if_neg (gu (m := 34) h34), if_neg (by have := gu (m := 92) h92; omega)])⟩
        case measure => simp [intOf]; omega
    · go_wp2_with (go_at_call 35; refine (aU _ _).mono ?_; rintro e w' ⟨rfl, rfl⟩)
      go_ret2
      exact ⟨by rw [hrel.out, mR (by omega)]; rfl, rfl⟩
set_option maxHeartbeats 4000000 in
theorem d0 (l : List UInt8) (w : World) (h0 : 0 < l.length) (hl : l.length ≤ 281474976710656) : Calls Try.prog 48 #[.string ⟨l.toArray⟩] w fun e w' => e = .returned (.tuple #[.int .i64 ((aF l).1 : Nat), .int .i64 ((aF l).2.1 : Nat), .int .i64 ((aF l).2.2 : Nat)]) ∧ w = w' := by
  obtain ⟨n, hn⟩ : ∃ n, spanN az l = n := ⟨_, rfl⟩
  have hnl : n ≤ l.length := by have := jl az l; omega
  have HN := Lib.hid hn; clear hn
  obtain ⟨c0, hc0⟩ : ∃ c, ({ data := l.toArray } : ByteArray)[0]'h0 = c := ⟨_, rfl⟩
  have HC0 := Lib.hid (show l[0] = c0 from hc0)
  have hx := qd; have hx2 := lb
  go_enter Try.func48, Try.ntmps48
  go_wp2_with fail
  refine (bO _ _ hl).mono ?_
  rintro e w' ⟨rfl, rfl⟩
  rw [HN.out]
  cases hr : eY (l.take n)
  rotate_left
  · cases hu : upperB c0
    all_goals
      have HQ := Lib.hid (fH HN.out (sX HN.out hr))
      by_cases h24 : 24 < n
      · skip
        have HW := Lib.hid (show aF l = (0, 0, 3) from by rw [HQ.out, bb, if_pos h24])
        go_wp2_with (first | (go_at_call 60; refine (bO _ _ (by simp; omega)).mono ?_; rintro e w' ⟨rfl, rfl⟩) | (go_at_call 61; refine (aD _ _).mono ?_; rintro e w' ⟨rfl, rfl⟩) | (go_at_call 59; refine (bn _ _).mono ?_; rintro e w' ⟨rfl, rfl⟩) | (go_at_call 58; refine (bl _ _).mono ?_; rintro e w' ⟨rfl, rfl⟩) | (go_at_call 47; refine (av _ _).mono ?_; rintro e w' ⟨rfl, rfl⟩))
        go_ret3
        exact ⟨by rw [HW.out]; rfl, rfl⟩
      · skip
        have HW := Lib.hid (show aF l = (7, n, 0) from by rw [HQ.out, bb, if_neg h24, if_pos hr])
        go_wp2_with (first | (go_at_call 60; refine (bO _ _ (by simp; omega)).mono ?_; rintro e w' ⟨rfl, rfl⟩) | (go_at_call 61; refine (aD _ _).mono ?_; rintro e w' ⟨rfl, rfl⟩) | (go_at_call 59; refine (bn _ _).mono ?_; rintro e w' ⟨rfl, rfl⟩) | (go_at_call 58; refine (bl _ _).mono ?_; rintro e w' ⟨rfl, rfl⟩) | (go_at_call 47; refine (av _ _).mono ?_; rintro e w' ⟨rfl, rfl⟩))
        go_ret3
        exact ⟨by rw [HW.out]; rfl, rfl⟩
  cases hu : upperB c0
  · skip
    have HQ := Lib.hid (fH HN.out (rL h0 HC0.out hu))
    by_cases h24 : 24 < n
    · skip
      have HW := Lib.hid (show aF l = (0, 0, 3) from by rw [HQ.out, bb, if_pos h24])
      go_wp2_with (first | (go_at_call 60; refine (bO _ _ (by simp; omega)).mono ?_; rintro e w' ⟨rfl, rfl⟩) | (go_at_call 61; refine (aD _ _).mono ?_; rintro e w' ⟨rfl, rfl⟩) | (go_at_call 59; refine (bn _ _).mono ?_; rintro e w' ⟨rfl, rfl⟩) | (go_at_call 58; refine (bl _ _).mono ?_; rintro e w' ⟨rfl, rfl⟩) | (go_at_call 47; refine (av _ _).mono ?_; rintro e w' ⟨rfl, rfl⟩))
      go_ret3
      exact ⟨by rw [HW.out]; rfl, rfl⟩
    · cases hlo : cG c0
      · skip
        have HW := Lib.hid (show aF l = (2, n, 0) from by rw [HQ.out, bb, if_neg h24, if_neg (by simp [hr]), if_neg (by rw [au h0 HC0.out]; simp [hlo])])
        go_wp2_with (first | (go_at_call 60; refine (bO _ _ (by simp; omega)).mono ?_; rintro e w' ⟨rfl, rfl⟩) | (go_at_call 61; refine (aD _ _).mono ?_; rintro e w' ⟨rfl, rfl⟩) | (go_at_call 59; refine (bn _ _).mono ?_; rintro e w' ⟨rfl, rfl⟩) | (go_at_call 58; refine (bl _ _).mono ?_; rintro e w' ⟨rfl, rfl⟩) | (go_at_call 47; refine (av _ _).mono ?_; rintro e w' ⟨rfl, rfl⟩))
        go_ret3
        exact ⟨by rw [HW.out]; rfl, rfl⟩
      · skip
        have HW := Lib.hid (show aF l = (1, n, 0) from by rw [HQ.out, bb, if_neg h24, if_neg (by simp [hr]), if_pos (by rw [au h0 HC0.out]; exact hlo)])
        go_wp2_with (first | (go_at_call 60; refine (bO _ _ (by simp; omega)).mono ?_; rintro e w' ⟨rfl, rfl⟩) | (go_at_call 61; refine (aD _ _).mono ?_; rintro e w' ⟨rfl, rfl⟩) | (go_at_call 59; refine (bn _ _).mono ?_; rintro e w' ⟨rfl, rfl⟩) | (go_at_call 58; refine (bl _ _).mono ?_; rintro e w' ⟨rfl, rfl⟩) | (go_at_call 47; refine (av _ _).mono ?_; rintro e w' ⟨rfl, rfl⟩))
        go_ret3
        exact ⟨by rw [HW.out]; rfl, rfl⟩
  by_cases h2 : n + 1 < l.length
  rotate_left
  · have h2' : ¬ ((n : Int) + 1 < l.length) := by omega
    have HQ := Lib.hid (fH HN.out (r5 HN.out h2))
    by_cases h24 : 24 < n
    · skip
      have HW := Lib.hid (show aF l = (0, 0, 3) from by rw [HQ.out, bb, if_pos h24])
      go_wp2_with (first | (go_at_call 60; refine (bO _ _ (by simp; omega)).mono ?_; rintro e w' ⟨rfl, rfl⟩) | (go_at_call 61; refine (aD _ _).mono ?_; rintro e w' ⟨rfl, rfl⟩) | (go_at_call 59; refine (bn _ _).mono ?_; rintro e w' ⟨rfl, rfl⟩) | (go_at_call 58; refine (bl _ _).mono ?_; rintro e w' ⟨rfl, rfl⟩) | (go_at_call 47; refine (av _ _).mono ?_; rintro e w' ⟨rfl, rfl⟩))
      go_ret3
      exact ⟨by rw [HW.out]; rfl, rfl⟩
    · cases hlo : cG c0
      · skip
        have HW := Lib.hid (show aF l = (2, n, 0) from by rw [HQ.out, bb, if_neg h24, if_neg (by simp [hr]), if_neg (by rw [au h0 HC0.out]; simp [hlo])])
        go_wp2_with (first | (go_at_call 60; refine (bO _ _ (by simp; omega)).mono ?_; rintro e w' ⟨rfl, rfl⟩) | (go_at_call 61; refine (aD _ _).mono ?_; rintro e w' ⟨rfl, rfl⟩) | (go_at_call 59; refine (bn _ _).mono ?_; rintro e w' ⟨rfl, rfl⟩) | (go_at_call 58; refine (bl _ _).mono ?_; rintro e w' ⟨rfl, rfl⟩) | (go_at_call 47; refine (av _ _).mono ?_; rintro e w' ⟨rfl, rfl⟩))
        go_ret3
        exact ⟨by rw [HW.out]; rfl, rfl⟩
      · skip
        have HW := Lib.hid (show aF l = (1, n, 0) from by rw [HQ.out, bb, if_neg h24, if_neg (by simp [hr]), if_pos (by rw [au h0 HC0.out]; exact hlo)])
        go_wp2_with (first | (go_at_call 60; refine (bO _ _ (by simp; omega)).mono ?_; rintro e w' ⟨rfl, rfl⟩) | (go_at_call 61; refine (aD _ _).mono ?_; rintro e w' ⟨rfl, rfl⟩) | (go_at_call 59; refine (bn _ _).mono ?_; rintro e w' ⟨rfl, rfl⟩) | (go_at_call 58; refine (bl _ _).mono ?_; rintro e w' ⟨rfl, rfl⟩) | (go_at_call 47; refine (av _ _).mono ?_; rintro e w' ⟨rfl, rfl⟩))
        go_ret3
        exact ⟨by rw [HW.out]; rfl, rfl⟩
  have hn1 : n < l.length := by omega
  obtain ⟨c1, hc1⟩ : ∃ c, ({ data := l.toArray } : ByteArray)[n]'hn1 = c := ⟨_, rfl⟩
  have HC1 := Lib.hid (show l[n] = c1 from hc1)
  obtain ⟨c2, hc2⟩ : ∃ c, ({ data := l.toArray } : ByteArray)[n + 1]'h2 = c := ⟨_, rfl⟩
  have HC2 := Lib.hid (show l[n + 1] = c2 from hc2)
  cases h46 : ((c1.toNat : Int) == 46)
  · skip
    have HQ := Lib.hid (fH HN.out (rP HN.out hn1 HC1.out h46))
    by_cases h24 : 24 < n
    · skip
      have HW := Lib.hid (show aF l = (0, 0, 3) from by rw [HQ.out, bb, if_pos h24])
      go_wp2_with (first | (go_at_call 60; refine (bO _ _ (by simp; omega)).mono ?_; rintro e w' ⟨rfl, rfl⟩) | (go_at_call 61; refine (aD _ _).mono ?_; rintro e w' ⟨rfl, rfl⟩) | (go_at_call 59; refine (bn _ _).mono ?_; rintro e w' ⟨rfl, rfl⟩) | (go_at_call 58; refine (bl _ _).mono ?_; rintro e w' ⟨rfl, rfl⟩) | (go_at_call 47; refine (av _ _).mono ?_; rintro e w' ⟨rfl, rfl⟩))
      go_ret3
      exact ⟨by rw [HW.out]; rfl, rfl⟩
    · cases hlo : cG c0
      · skip
        have HW := Lib.hid (show aF l = (2, n, 0) from by rw [HQ.out, bb, if_neg h24, if_neg (by simp [hr]), if_neg (by rw [au h0 HC0.out]; simp [hlo])])
        go_wp2_with (first | (go_at_call 60; refine (bO _ _ (by simp; omega)).mono ?_; rintro e w' ⟨rfl, rfl⟩) | (go_at_call 61; refine (aD _ _).mono ?_; rintro e w' ⟨rfl, rfl⟩) | (go_at_call 59; refine (bn _ _).mono ?_; rintro e w' ⟨rfl, rfl⟩) | (go_at_call 58; refine (bl _ _).mono ?_; rintro e w' ⟨rfl, rfl⟩) | (go_at_call 47; refine (av _ _).mono ?_; rintro e w' ⟨rfl, rfl⟩))
        go_ret3
        exact ⟨by rw [HW.out]; rfl, rfl⟩
      · skip
        have HW := Lib.hid (show aF l = (1, n, 0) from by rw [HQ.out, bb, if_neg h24, if_neg (by simp [hr]), if_pos (by rw [au h0 HC0.out]; exact hlo)])
        go_wp2_with (first | (go_at_call 60; refine (bO _ _ (by simp; omega)).mono ?_; rintro e w' ⟨rfl, rfl⟩) | (go_at_call 61; refine (aD _ _).mono ?_; rintro e w' ⟨rfl, rfl⟩) | (go_at_call 59; refine (bn _ _).mono ?_; rintro e w' ⟨rfl, rfl⟩) | (go_at_call 58; refine (bl _ _).mono ?_; rintro e w' ⟨rfl, rfl⟩) | (go_at_call 47; refine (av _ _).mono ?_; rintro e w' ⟨rfl, rfl⟩))
        go_ret3
        exact ⟨by rw [HW.out]; rfl, rfl⟩
  cases h3 : bM c2
  · skip
    have HQ := Lib.hid (fH HN.out (sD HN.out h2 HC2.out h3))
    by_cases h24 : 24 < n
    · skip
      have HW := Lib.hid (show aF l = (0, 0, 3) from by rw [HQ.out, bb, if_pos h24])
      go_wp2_with (first | (go_at_call 60; refine (bO _ _ (by simp; omega)).mono ?_; rintro e w' ⟨rfl, rfl⟩) | (go_at_call 61; refine (aD _ _).mono ?_; rintro e w' ⟨rfl, rfl⟩) | (go_at_call 59; refine (bn _ _).mono ?_; rintro e w' ⟨rfl, rfl⟩) | (go_at_call 58; refine (bl _ _).mono ?_; rintro e w' ⟨rfl, rfl⟩) | (go_at_call 47; refine (av _ _).mono ?_; rintro e w' ⟨rfl, rfl⟩))
      go_ret3
      exact ⟨by rw [HW.out]; rfl, rfl⟩
    · cases hlo : cG c0
      · skip
        have HW := Lib.hid (show aF l = (2, n, 0) from by rw [HQ.out, bb, if_neg h24, if_neg (by simp [hr]), if_neg (by rw [au h0 HC0.out]; simp [hlo])])
        go_wp2_with (first | (go_at_call 60; refine (bO _ _ (by simp; omega)).mono ?_; rintro e w' ⟨rfl, rfl⟩) | (go_at_call 61; refine (aD _ _).mono ?_; rintro e w' ⟨rfl, rfl⟩) | (go_at_call 59; refine (bn _ _).mono ?_; rintro e w' ⟨rfl, rfl⟩) | (go_at_call 58; refine (bl _ _).mono ?_; rintro e w' ⟨rfl, rfl⟩) | (go_at_call 47; refine (av _ _).mono ?_; rintro e w' ⟨rfl, rfl⟩))
        go_ret3
        exact ⟨by rw [HW.out]; rfl, rfl⟩
      · skip
        have HW := Lib.hid (show aF l = (1, n, 0) from by rw [HQ.out, bb, if_neg h24, if_neg (by simp [hr]), if_pos (by rw [au h0 HC0.out]; exact hlo)])
        go_wp2_with (first | (go_at_call 60; refine (bO _ _ (by simp; omega)).mono ?_; rintro e w' ⟨rfl, rfl⟩) | (go_at_call 61; refine (aD _ _).mono ?_; rintro e w' ⟨rfl, rfl⟩) | (go_at_call 59; refine (bn _ _).mono ?_; rintro e w' ⟨rfl, rfl⟩) | (go_at_call 58; refine (bl _ _).mono ?_; rintro e w' ⟨rfl, rfl⟩) | (go_at_call 47; refine (av _ _).mono ?_; rintro e w' ⟨rfl, rfl⟩))
        go_ret3
        exact ⟨by rw [HW.out]; rfl, rfl⟩
  obtain ⟨m, hm⟩ : ∃ m, spanN az (l.drop (n + 1)) = m := ⟨_, rfl⟩
  have hml : n + 1 + m ≤ l.length := by have := jl az (l.drop (n + 1)); simp at this; omega
  have HM := Lib.hid hm
  have HQ := Lib.hid (o3 HN.out hm (pF HN.out h0 HC0.out hu hr h2 hn1 HC1.out h46 HC2.out h3))
  by_cases h24 : 24 < n
  · skip
    have HW := Lib.hid (show aF l = (0, 0, 3) from by rw [HQ.out, cR, if_pos (.inl h24)])
    go_wp2_with (first | (go_at_call 60; refine (bO _ _ (by simp; omega)).mono ?_; rintro e w' ⟨rfl, rfl⟩) | (go_at_call 61; refine (aD _ _).mono ?_; rintro e w' ⟨rfl, rfl⟩) | (go_at_call 59; refine (bn _ _).mono ?_; rintro e w' ⟨rfl, rfl⟩) | (go_at_call 58; refine (bl _ _).mono ?_; rintro e w' ⟨rfl, rfl⟩) | (go_at_call 47; refine (av _ _).mono ?_; rintro e w' ⟨rfl, rfl⟩))
    go_ret3
    exact ⟨by rw [HW.out]; rfl, rfl⟩
  by_cases h24m : 24 < m
  · skip
    have HW := Lib.hid (show aF l = (0, 0, 3) from by rw [HQ.out, cR, if_pos (.inr h24m)])
    go_wp2_with (first | (go_at_call 60; refine (bO _ _ (by simp; omega)).mono ?_; rintro e w' ⟨rfl, rfl⟩) | (go_at_call 61; refine (aD _ _).mono ?_; rintro e w' ⟨rfl, rfl⟩) | (go_at_call 59; refine (bn _ _).mono ?_; rintro e w' ⟨rfl, rfl⟩) | (go_at_call 58; refine (bl _ _).mono ?_; rintro e w' ⟨rfl, rfl⟩) | (go_at_call 47; refine (av _ _).mono ?_; rintro e w' ⟨rfl, rfl⟩))
    go_ret3
    exact ⟨by rw [HW.out]; rfl, rfl⟩
  have he : n + 1 + m - (n + 1) = m := by omega
  cases hr2 : eY ((l.drop (n + 1)).take m)
  rotate_left
  · skip
    have HW := Lib.hid (show aF l = (0, 0, 2) from by rw [HQ.out, cR, if_neg (by omega), if_pos hr2])
    go_wp2_with (first | (go_at_call 60; refine (bO _ _ (by simp; omega)).mono ?_; rintro e w' ⟨rfl, rfl⟩) | (go_at_call 61; refine (aD _ _).mono ?_; rintro e w' ⟨rfl, rfl⟩) | (go_at_call 59; refine (bn _ _).mono ?_; rintro e w' ⟨rfl, rfl⟩) | (go_at_call 58; refine (bl _ _).mono ?_; rintro e w' ⟨rfl, rfl⟩) | (go_at_call 47; refine (av _ _).mono ?_; rintro e w' ⟨rfl, rfl⟩))
    go_ret3
    exact ⟨by rw [HW.out]; rfl, rfl⟩
  cases hlo : cG c2
  · skip
    have HW := Lib.hid (show aF l = (4, n + 1 + m, 0) from by rw [HQ.out, cR, if_neg (by omega), if_neg (by simp [hr2]), if_neg (by rw [au h2 HC2.out]; simp [hlo])])
    go_wp2_with (first | (go_at_call 60; refine (bO _ _ (by simp; omega)).mono ?_; rintro e w' ⟨rfl, rfl⟩) | (go_at_call 61; refine (aD _ _).mono ?_; rintro e w' ⟨rfl, rfl⟩) | (go_at_call 59; refine (bn _ _).mono ?_; rintro e w' ⟨rfl, rfl⟩) | (go_at_call 58; refine (bl _ _).mono ?_; rintro e w' ⟨rfl, rfl⟩) | (go_at_call 47; refine (av _ _).mono ?_; rintro e w' ⟨rfl, rfl⟩))
    go_ret3
    exact ⟨by rw [HW.out]; rfl, rfl⟩
  · skip
    have HW := Lib.hid (show aF l = (3, n + 1 + m, 0) from by rw [HQ.out, cR, if_neg (by omega), if_neg (by simp [hr2]), if_pos (by rw [au h2 HC2.out]; exact hlo)])
    go_wp2_with (first | (go_at_call 60; refine (bO _ _ (by simp; omega)).mono ?_; rintro e w' ⟨rfl, rfl⟩) | (go_at_call 61; refine (aD _ _).mono ?_; rintro e w' ⟨rfl, rfl⟩) | (go_at_call 59; refine (bn _ _).mono ?_; rintro e w' ⟨rfl, rfl⟩) | (go_at_call 58; refine (bl _ _).mono ?_; rintro e w' ⟨rfl, rfl⟩) | (go_at_call 47; refine (av _ _).mono ?_; rintro e w' ⟨rfl, rfl⟩))
    go_ret3
    exact ⟨by rw [HW.out]; rfl, rfl⟩
end Go.Proofs.Ytiknldgpnhikhaa
namespace Go.Proofs.Ytiknldgpnhikhaa
open Go.RowKit Lx
set_option maxRecDepth 100000
def mC (c : UInt8) : Int := Lib.indexByte signs c
theorem m6 : ∀ (l : List UInt8) (c : UInt8), 0 ≤ Lib.indexByte l c ↔ l.contains c = true
  | [], c => by simp [Lib.indexByte]
  | b :: l, c => by
    have ih := m6 l c
    have hg := Lib.indexByte_ge l c
    unfold Lib.indexByte
    by_cases h : b = c
    · simp [h]
    · have h' : ¬ c = b := fun e => h e.symm
      simp only [beq_iff_eq, h, if_false, List.contains_cons, h', Bool.or_eq_true, false_or]
      rw [← ih]
      split <;> omega
theorem ew (c : UInt8) : 0 ≤ mC c ↔ signs.contains c = true := m6 _ _
theorem dm (c : UInt8) (w : World) : Calls Try.prog 52 #[.string ⟨#[40, 41, 91, 93, 58, 44, 61, 43, 45, 42, 60, 63]⟩, .int .u8 (c.toNat : Int)] w fun e w' => e = .returned (.int .i64 (mC c)) ∧ w = w' := by
  refine (od _ _ w).mono ?_
  rintro e w' ⟨rfl, rfl⟩
  refine ⟨fD ?_, rfl⟩
  have : ((c.toNat : Int)).toNat.toUInt8 = c := by simp
  rw [this]; rfl
set_option maxHeartbeats 4000000 in
theorem sL (l : List UInt8) (w : World) (h0 : 0 < l.length) (hl : l.length ≤ 281474976710656) : Calls Try.prog 36 #[.string ⟨l.toArray⟩] w fun e w' => e = .returned (.tuple #[.int .i64 ((tokenT l).1 : Nat), .int .i64 ((tokenT l).2.1 : Nat), .int .i64 ((tokenT l).2.2 : Nat)]) ∧ w = w' := by
  obtain ⟨c0, hc0⟩ : ∃ c, ({ data := l.toArray } : ByteArray)[0]'h0 = c := ⟨_, rfl⟩
  have HC0 := Lib.hid (show l[0] = c0 from hc0)
  have HT := Lib.hid (oR h0 HC0.out)
  go_enter Try.func36, Try.ntmps36
  cases ha : cb c0
  · skip
    have HW := Lib.hid (show tokenT l = (0, 0, 1) from by rw [HT.out, if_pos ha])
    go_wp2_with (first | (go_at_call 35; refine (aU _ _).mono ?_; rintro e w' ⟨rfl, rfl⟩) | (go_at_call 47; refine (av _ _).mono ?_; rintro e w' ⟨rfl, rfl⟩) | (go_at_call 49; refine (be _ _).mono ?_; rintro e w' ⟨rfl, rfl⟩) | (go_at_call 48; refine (d0 _ _ h0 hl).mono ?_; rintro e w' ⟨rfl, rfl⟩) | (go_at_call 50; refine (cx _ _ hl).mono ?_; rintro e w' ⟨rfl, rfl⟩) | (go_at_call 51; refine (cy _ _ h0 hl).mono ?_; rintro e w' ⟨rfl, rfl⟩) | (go_at_call 52; refine (dm _ _).mono ?_; rintro e w' ⟨rfl, rfl⟩))
    go_ret3
    exact ⟨by rw [HW.out]; rfl, rfl⟩
  have HA := Lib.hid (show ¬ cb c0 = false from by simp [ha])
  cases hle : bM c0
  rotate_left
  · skip
    have HW := Lib.hid (show tokenT l = aF l from by rw [HT.out, if_neg HA.out, if_pos hle])
    go_wp2_with (first | (go_at_call 35; refine (aU _ _).mono ?_; rintro e w' ⟨rfl, rfl⟩) | (go_at_call 47; refine (av _ _).mono ?_; rintro e w' ⟨rfl, rfl⟩) | (go_at_call 49; refine (be _ _).mono ?_; rintro e w' ⟨rfl, rfl⟩) | (go_at_call 48; refine (d0 _ _ h0 hl).mono ?_; rintro e w' ⟨rfl, rfl⟩) | (go_at_call 50; refine (cx _ _ hl).mono ?_; rintro e w' ⟨rfl, rfl⟩) | (go_at_call 51; refine (cy _ _ h0 hl).mono ?_; rintro e w' ⟨rfl, rfl⟩) | (go_at_call 52; refine (dm _ _).mono ?_; rintro e w' ⟨rfl, rfl⟩))
    go_ret3
    exact ⟨by rw [HW.out]; rfl, rfl⟩
  have HL := Lib.hid (show ¬ bM c0 = true from by simp [hle])
  cases hd : bC c0
  rotate_left
  · skip
    have HW := Lib.hid (show tokenT l = (5, cw l) from by rw [HT.out, if_neg HA.out, if_neg HL.out, if_pos hd])
    go_wp2_with (first | (go_at_call 35; refine (aU _ _).mono ?_; rintro e w' ⟨rfl, rfl⟩) | (go_at_call 47; refine (av _ _).mono ?_; rintro e w' ⟨rfl, rfl⟩) | (go_at_call 49; refine (be _ _).mono ?_; rintro e w' ⟨rfl, rfl⟩) | (go_at_call 48; refine (d0 _ _ h0 hl).mono ?_; rintro e w' ⟨rfl, rfl⟩) | (go_at_call 50; refine (cx _ _ hl).mono ?_; rintro e w' ⟨rfl, rfl⟩) | (go_at_call 51; refine (cy _ _ h0 hl).mono ?_; rintro e w' ⟨rfl, rfl⟩) | (go_at_call 52; refine (dm _ _).mono ?_; rintro e w' ⟨rfl, rfl⟩))
    go_ret3
    exact ⟨by rw [HW.out]; rfl, rfl⟩
  have HD := Lib.hid (show ¬ bC c0 = true from by simp [hd])
  cases h34 : ((c0.toNat : Int) == 34)
  rotate_left
  · skip
    have HW := Lib.hid (show tokenT l = (6, quotedT l.tail 1) from by rw [HT.out, if_neg HA.out, if_neg HL.out, if_neg HD.out, if_pos (i4 (m := 34) h34)])
    go_wp2_with (first | (go_at_call 35; refine (aU _ _).mono ?_; rintro e w' ⟨rfl, rfl⟩) | (go_at_call 47; refine (av _ _).mono ?_; rintro e w' ⟨rfl, rfl⟩) | (go_at_call 49; refine (be _ _).mono ?_; rintro e w' ⟨rfl, rfl⟩) | (go_at_call 48; refine (d0 _ _ h0 hl).mono ?_; rintro e w' ⟨rfl, rfl⟩) | (go_at_call 50; refine (cx _ _ hl).mono ?_; rintro e w' ⟨rfl, rfl⟩) | (go_at_call 51; refine (cy _ _ h0 hl).mono ?_; rintro e w' ⟨rfl, rfl⟩) | (go_at_call 52; refine (dm _ _).mono ?_; rintro e w' ⟨rfl, rfl⟩))
    go_ret3
    exact ⟨by rw [HW.out]; rfl, rfl⟩
  have HQ := Lib.hid (gu (m := 34) h34)
  cases h61 : ((c0.toNat : Int) == 61)
  · skip
    have HE := Lib.hid (show ¬ (c0.toNat = 61 ∧ 1 < l.length ∧ (l.getD 1 0).toNat = 61) from fun h => gu (m := 61) h61 h.1)
    by_cases hs : 0 ≤ mC c0
    · skip
      have HW := Lib.hid (show tokenT l = (8, 1, 0) from by rw [HT.out, if_neg HA.out, if_neg HL.out, if_neg HD.out, if_neg HQ.out, if_neg HE.out, if_pos ((ew c0).1 hs)])
      go_wp2_with (first | (go_at_call 35; refine (aU _ _).mono ?_; rintro e w' ⟨rfl, rfl⟩) | (go_at_call 47; refine (av _ _).mono ?_; rintro e w' ⟨rfl, rfl⟩) | (go_at_call 49; refine (be _ _).mono ?_; rintro e w' ⟨rfl, rfl⟩) | (go_at_call 48; refine (d0 _ _ h0 hl).mono ?_; rintro e w' ⟨rfl, rfl⟩) | (go_at_call 50; refine (cx _ _ hl).mono ?_; rintro e w' ⟨rfl, rfl⟩) | (go_at_call 51; refine (cy _ _ h0 hl).mono ?_; rintro e w' ⟨rfl, rfl⟩) | (go_at_call 52; refine (dm _ _).mono ?_; rintro e w' ⟨rfl, rfl⟩))
      go_ret3
      exact ⟨by rw [HW.out]; rfl, rfl⟩
    · skip
      have HW := Lib.hid (show tokenT l = (0, 0, 2) from by rw [HT.out, if_neg HA.out, if_neg HL.out, if_neg HD.out, if_neg HQ.out, if_neg HE.out, if_neg (fun h => hs ((ew c0).2 h))])
      go_wp2_with (first | (go_at_call 35; refine (aU _ _).mono ?_; rintro e w' ⟨rfl, rfl⟩) | (go_at_call 47; refine (av _ _).mono ?_; rintro e w' ⟨rfl, rfl⟩) | (go_at_call 49; refine (be _ _).mono ?_; rintro e w' ⟨rfl, rfl⟩) | (go_at_call 48; refine (d0 _ _ h0 hl).mono ?_; rintro e w' ⟨rfl, rfl⟩) | (go_at_call 50; refine (cx _ _ hl).mono ?_; rintro e w' ⟨rfl, rfl⟩) | (go_at_call 51; refine (cy _ _ h0 hl).mono ?_; rintro e w' ⟨rfl, rfl⟩) | (go_at_call 52; refine (dm _ _).mono ?_; rintro e w' ⟨rfl, rfl⟩))
      go_ret3
      exact ⟨by rw [HW.out]; rfl, rfl⟩
  by_cases h1 : 1 < l.length
  rotate_left
  · skip
    have HE := Lib.hid (show ¬ (c0.toNat = 61 ∧ 1 < l.length ∧ (l.getD 1 0).toNat = 61) from fun h => h1 h.2.1)
    by_cases hs : 0 ≤ mC c0
    · skip
      have HW := Lib.hid (show tokenT l = (8, 1, 0) from by rw [HT.out, if_neg HA.out, if_neg HL.out, if_neg HD.out, if_neg HQ.out, if_neg HE.out, if_pos ((ew c0).1 hs)])
      go_wp2_with (first | (go_at_call 35; refine (aU _ _).mono ?_; rintro e w' ⟨rfl, rfl⟩) | (go_at_call 47; refine (av _ _).mono ?_; rintro e w' ⟨rfl, rfl⟩) | (go_at_call 49; refine (be _ _).mono ?_; rintro e w' ⟨rfl, rfl⟩) | (go_at_call 48; refine (d0 _ _ h0 hl).mono ?_; rintro e w' ⟨rfl, rfl⟩) | (go_at_call 50; refine (cx _ _ hl).mono ?_; rintro e w' ⟨rfl, rfl⟩) | (go_at_call 51; refine (cy _ _ h0 hl).mono ?_; rintro e w' ⟨rfl, rfl⟩) | (go_at_call 52; refine (dm _ _).mono ?_; rintro e w' ⟨rfl, rfl⟩))
      go_ret3
      exact ⟨by rw [HW.out]; rfl, rfl⟩
    · skip
      have HW := Lib.hid (show tokenT l = (0, 0, 2) from by rw [HT.out, if_neg HA.out, if_neg HL.out, if_neg HD.out, if_neg HQ.out, if_neg HE.out, if_neg (fun h => hs ((ew c0).2 h))])
      go_wp2_with (first | (go_at_call 35; refine (aU _ _).mono ?_; rintro e w' ⟨rfl, rfl⟩) | (go_at_call 47; refine (av _ _).mono ?_; rintro e w' ⟨rfl, rfl⟩) | (go_at_call 49; refine (be _ _).mono ?_; rintro e w' ⟨rfl, rfl⟩) | (go_at_call 48; refine (d0 _ _ h0 hl).mono ?_; rintro e w' ⟨rfl, rfl⟩) | (go_at_call 50; refine (cx _ _ hl).mono ?_; rintro e w' ⟨rfl, rfl⟩) | (go_at_call 51; refine (cy _ _ h0 hl).mono ?_; rintro e w' ⟨rfl, rfl⟩) | (go_at_call 52; refine (dm _ _).mono ?_; rintro e w' ⟨rfl, rfl⟩))
      go_ret3
      exact ⟨by rw [HW.out]; rfl, rfl⟩
  obtain ⟨c1, hc1⟩ : ∃ c, ({ data := l.toArray } : ByteArray)[1]'h1 = c := ⟨_, rfl⟩
  have HC1 := Lib.hid (show l[1] = c1 from hc1)
  cases h62 : ((c1.toNat : Int) == 61)
  · skip
    have HE := Lib.hid (show ¬ (c0.toNat = 61 ∧ 1 < l.length ∧ (l.getD 1 0).toNat = 61) from fun h => gu (m := 61) h62 (by rw [← au h1 HC1.out]; exact h.2.2))
    by_cases hs : 0 ≤ mC c0
    · skip
      have HW := Lib.hid (show tokenT l = (8, 1, 0) from by rw [HT.out, if_neg HA.out, if_neg HL.out, if_neg HD.out, if_neg HQ.out, if_neg HE.out, if_pos ((ew c0).1 hs)])
      go_wp2_with (first | (go_at_call 35; refine (aU _ _).mono ?_; rintro e w' ⟨rfl, rfl⟩) | (go_at_call 47; refine (av _ _).mono ?_; rintro e w' ⟨rfl, rfl⟩) | (go_at_call 49; refine (be _ _).mono ?_; rintro e w' ⟨rfl, rfl⟩) | (go_at_call 48; refine (d0 _ _ h0 hl).mono ?_; rintro e w' ⟨rfl, rfl⟩) | (go_at_call 50; refine (cx _ _ hl).mono ?_; rintro e w' ⟨rfl, rfl⟩) | (go_at_call 51; refine (cy _ _ h0 hl).mono ?_; rintro e w' ⟨rfl, rfl⟩) | (go_at_call 52; refine (dm _ _).mono ?_; rintro e w' ⟨rfl, rfl⟩))
      go_ret3
      exact ⟨by rw [HW.out]; rfl, rfl⟩
    · skip
      have HW := Lib.hid (show tokenT l = (0, 0, 2) from by rw [HT.out, if_neg HA.out, if_neg HL.out, if_neg HD.out, if_neg HQ.out, if_neg HE.out, if_neg (fun h => hs ((ew c0).2 h))])
      go_wp2_with (first | (go_at_call 35; refine (aU _ _).mono ?_; rintro e w' ⟨rfl, rfl⟩) | (go_at_call 47; refine (av _ _).mono ?_; rintro e w' ⟨rfl, rfl⟩) | (go_at_call 49; refine (be _ _).mono ?_; rintro e w' ⟨rfl, rfl⟩) | (go_at_call 48; refine (d0 _ _ h0 hl).mono ?_; rintro e w' ⟨rfl, rfl⟩) | (go_at_call 50; refine (cx _ _ hl).mono ?_; rintro e w' ⟨rfl, rfl⟩) | (go_at_call 51; refine (cy _ _ h0 hl).mono ?_; rintro e w' ⟨rfl, rfl⟩) | (go_at_call 52; refine (dm _ _).mono ?_; rintro e w' ⟨rfl, rfl⟩))
      go_ret3
      exact ⟨by rw [HW.out]; rfl, rfl⟩
  · skip
    have HW := Lib.hid (show tokenT l = (8, 2, 0) from by rw [HT.out, if_neg HA.out, if_neg HL.out, if_neg HD.out, if_neg HQ.out, if_pos ⟨i4 (m := 61) h61, h1, by rw [au h1 HC1.out]; exact i4 (m := 61) h62⟩])
    go_wp2_with (first | (go_at_call 35; refine (aU _ _).mono ?_; rintro e w' ⟨rfl, rfl⟩) | (go_at_call 47; refine (av _ _).mono ?_; rintro e w' ⟨rfl, rfl⟩) | (go_at_call 49; refine (be _ _).mono ?_; rintro e w' ⟨rfl, rfl⟩) | (go_at_call 48; refine (d0 _ _ h0 hl).mono ?_; rintro e w' ⟨rfl, rfl⟩) | (go_at_call 50; refine (cx _ _ hl).mono ?_; rintro e w' ⟨rfl, rfl⟩) | (go_at_call 51; refine (cy _ _ h0 hl).mono ?_; rintro e w' ⟨rfl, rfl⟩) | (go_at_call 52; refine (dm _ _).mono ?_; rintro e w' ⟨rfl, rfl⟩))
    go_ret3
    exact ⟨by rw [HW.out]; rfl, rfl⟩
end Go.Proofs.Ytiknldgpnhikhaa
namespace Go.Proofs.Ytiknldgpnhikhaa
open Go.RowKit Lx
set_option maxRecDepth 100000
set_option maxHeartbeats 1000000 in
theorem rR (l : List UInt8) (w : World) (hl : l.length ≤ 281474976710656) : Calls Try.prog 26 #[.string ⟨l.toArray⟩] w fun e w' => e = .returned (.int .i64 (bd l : Nat)) ∧ w = w' := by
  by_cases h0 : l = []
  · subst h0
    go_enter Try.func26, Try.ntmps26
    go_wp2
    go_ret
    exact ⟨rfl, rfl⟩
  · have hb1 : (l == []) = false := by simpa using h0
    have hb2 : l.isEmpty = false := by simpa using h0
    have hpos : 0 < l.length := List.length_pos_iff.2 h0
    obtain ⟨k, n, e, hT⟩ : ∃ k n e, tokenT l = (k, n, e) := ⟨_, _, _, rfl⟩
    have HT := Lib.hid hT
    have HC := Lib.hid (show bd l = if e = 0 ∧ n = l.length then k else 0 from by simp only [bd, if_neg h0, hT])
    clear hT h0
    go_enter Try.func26, Try.ntmps26
    go_wp2_with fail
    refine (sL _ _ hpos hl).mono ?_
    rintro e0 w' ⟨rfl, rfl⟩
    rw [HT.out]
    by_cases he : e = 0
    · subst he
      by_cases hn : n = l.length
      · have hnb : ((n : Int) != (l.length : Int)) = false := by simp; omega
        have HR := Lib.hid (HC.out.trans (if_pos ⟨rfl, hn⟩))
        clear hn
        go_wp2
        go_ret
        exact ⟨fD (by rw [HR.out]), rfl⟩
      · have hnb : ((n : Int) != (l.length : Int)) = true := by simp; omega
        have HR := Lib.hid (HC.out.trans (if_neg (fun h => hn h.2)))
        clear hn
        go_wp2
        go_ret
        exact ⟨fD (by rw [HR.out]; rfl), rfl⟩
    · have heb : ((e : Int) != 0) = true := by simp; omega
      have HR := Lib.hid (HC.out.trans (if_neg (fun h => he h.1)))
      go_wp2
      go_ret
      exact ⟨fD (by rw [HR.out]; rfl), rfl⟩
end Go.Proofs.Ytiknldgpnhikhaa
namespace Go.Proofs.Ytiknldgpnhikhaa
open Go.RowKit Lx Sx
theorem sum0_calls {fid : FuncId} {us : List V} {v : V} (hp1 : pureL us = true) (hp2 : v.pure = true) (h : ∀ (S : Nat → Prop) w ρ xs, LRel S w ρ us xs → Calls Try.prog fid xs.toArray w fun e w' => ∃ x, e = .returned x ∧ VRel S w' ρ v x ∧ Chg [] w w') : aI Try.prog fid us v :=
  ⟨hp1, hp2, fun S w ρ xs hr hx => (h S w ρ xs hx).mono fun e w' ⟨x, h1, h2, hc⟩ =>
    ⟨x, S, ρ, v, _, h1, rfl, hr.chg0 hc, ⟨ChgP.of0 hc, fun _ h => h, fun _ h => .inl h, fun id b hb => .inl ⟨id, hb⟩, fun id x h => by
      simp only [jm] at h
      split at h
      · exact h
      · cases h⟩, h2⟩⟩
theorem qV (l : List UInt8) (hl : l.length ≤ 281474976710656) : aI Try.prog 26 [.str l] (.int .i64 (bd l : Nat)) :=
  sum0_calls rfl rfl fun S w ρ xs hx => by
    simp only [LRel] at hx
    obtain ⟨x, ys, rfl, h1, rfl⟩ := hx
    simp only [VRel] at h1; subst h1
    exact (rR l w hl).mono fun e w' ⟨h1, h2⟩ => ⟨_, h1, by simp only [VRel], h2 ▸ Chg.refl _ _⟩
end Go.Proofs.Ytiknldgpnhikhaa
namespace Go.Proofs.Ytiknldgpnhikhaa
open Go.RowKit Lx Sx
def lsum : List (List UInt8) → Nat
  | [] => 0
  | l :: r => l.length + 1 + lsum r
mutual
def tbulk : Tree → Nat
  | .node _ s ls ks => s.length + lsum ls + kbulk ks + 1
def kbulk : List Tree → Nat
  | [] => 0
  | t :: r => tbulk t + kbulk r
end
theorem iF (t : Tree) : 0 < tbulk t := by cases t; simp only [tbulk]; omega
theorem dR : ∀ (ks : List Tree), ks.length ≤ kbulk ks
  | [] => Nat.le_refl _
  | t :: r => by have := dR r; have := iF t; simp only [kbulk, List.length_cons]; omega
theorem dg : ∀ {ks : List Tree} {i : Nat} {t : Tree}, ks[i]? = some t → tbulk t ≤ kbulk ks
  | [], i, t, h => by simp at h
  | u :: r, 0, t, h => by simp only [List.getElem?_cons_zero, Option.some.injEq] at h; subst h; simp only [kbulk]; omega
  | u :: r, i + 1, t, h => by have := dg (ks := r) (i := i) (by simpa using h); simp only [kbulk]; omega
theorem fP (t : Tree) : tbulk t = t.text.length + lsum t.leads + kbulk t.kids + 1 := by cases t; simp [tbulk, Tree.text, Tree.leads, Tree.kids]
theorem cI {t u : Tree} {i : Nat} (h : t.kids[i]? = some u) : tbulk u < tbulk t := by
  have := dg h; rw [fP t]; omega
theorem fX (t : Tree) : t.kids.length < tbulk t := by
  have := dR t.kids; rw [fP t]; omega
theorem jb (t : Tree) : t.text.length < tbulk t := by rw [fP t]; omega
theorem dN {C : Tree → Prop} (h : ∀ t : Tree, (∀ (i : Nat) (u : Tree), t.kids[i]? = some u → C u) → C t) : ∀ t, C t := fun t => by
  have : ∀ n t, tbulk t ≤ n → C t := fun n => by
    induction n with
    | zero => intro t ht; have := iF t; omega
    | succ n ih => intro t ht; exact h t fun i u hu => ih u (by have := cI hu; omega)
  exact this _ t (Nat.le_refl _)
theorem dp {α : Type} (l : List α) (i : Nat) : (∃ x, l[i]? = some x ∧ i < l.length) ∨ (¬ i < l.length) := by
  by_cases h : i < l.length
  · exact .inl ⟨l[i], by simp [h], h⟩
  · exact .inr h
theorem dL {α : Type} {l : List α} {i : Nat} {x : α} (h : l[i]? = some x) : l.drop i = x :: l.drop (i + 1) := by
  obtain ⟨hl, rfl⟩ := List.getElem?_eq_some_iff.1 h
  exact List.drop_eq_getElem_cons hl
end Go.Proofs.Ytiknldgpnhikhaa
namespace Go.Proofs.Ytiknldgpnhikhaa
open Go.RowKit Lx Sx
set_option maxHeartbeats 1000000
def f0 (n : Int) (least leads list : Nat) (most : Int) : Int := if 0 ≤ most ∧ most < n then -1 else if n < least then -1 else if most < 0 ∧ (list : Int) < n then leads + (n - list - 1) else leads
def gn (k n : Int) : Int := if k = 1 then (if n < 0 then -1 else 3) else if k = 2 then f0 n 2 6 2 (-1) else if k = 16 then f0 n 0 3 0 (-1) else if k = 18 then f0 n 1 2 0 (-1) else if k = 3 then f0 n 1 3 0 1 else if k = 4 then f0 n 1 2 0 1 else if k = 8 then f0 n 1 2 0 1 else if k = 22 then f0 n 1 2 0 1 else if k = 17 then f0 n 1 0 0 1 else if k = 19 then f0 n 3 3 0 3 else if k = 20 then f0 n 2 4 0 2 else if k = 21 then f0 n 2 1 0 2 else if k = 5 ∨ k = 6 ∨ k = 7 ∨ k = 9 ∨ k = 10 ∨ k = 11 ∨ k = 12 ∨ k = 13 ∨ k = 14 ∨ k = 15 then f0 n 0 1 0 0 else -1
theorem gg (a b c : Int) : bE a b c (if a < b then -1 else c) := iU 0 _ _ _ _ ⟨fun h => by rw [if_pos h], fun h => by rw [if_neg h]⟩
theorem sI (m : Nat) {n : Int} (h0 : 0 ≤ n) (h1 : n ≤ 1000000000) (a b c : Nat) (z : Int) (hb : b ≤ 10) (hc : c ≤ 2) (hz : ¬ (0 ≤ z ∧ z < n)) : da (m + 1) n a b c z (f0 n a b c z) := by
  refine jg m _ _ _ _ _ _ ⟨fun h => ⟨fun h' => ⟨by omega, by omega, by omega, _, gg _ _ _, ?_⟩, fun h' => ⟨_, gg _ _ _, ?_⟩⟩, fun h => ⟨_, gg _ _ _, ?_⟩⟩
  · simp only [f0, if_neg hz, h, h', true_and, if_true]
  · simp only [f0, if_neg hz, h, h', true_and, if_false]
  · simp only [f0, if_neg hz, h, false_and, if_false]
theorem su (m : Nat) {n : Int} (h0 : 0 ≤ n) (h1 : n ≤ 1000000000) (a b c : Nat) (z : Int) (hb : b ≤ 10) (hc : c ≤ 2) : ak (m + 2) n a b c z (f0 n a b c z) := by
  refine jh (m + 1) _ _ _ _ _ _ ⟨fun h => ⟨fun h' => ?_, fun h' => sI m h0 h1 _ _ _ _ hb hc (by omega)⟩, fun h => sI m h0 h1 _ _ _ _ hb hc (by omega)⟩
  simp [f0, h, h']
theorem qK {k n : Int} (h0 : 0 ≤ n) (h1 : n ≤ 1000000000) : eJ k n (gn k n) := by
  have l0 : ∀ {r : Int} (a b c : Nat) (z : Int), b ≤ 10 → c ≤ 2 → r = f0 n a b c z → ak 3 n a b c z r := fun a b c z hb hc e => by rw [e]; exact su 1 h0 h1 a b c z hb hc
  have l0' : ∀ {r : Int} (a b c : Nat) (z : Int), b ≤ 10 → c ≤ 2 → r = f0 n a b c z → ak 4 n a b c z r := fun a b c z hb hc e => by rw [e]; exact su 2 h0 h1 a b c z hb hc
  refine jK 4 _ _ _ ?_
  repeat' first | (refine ⟨_, gg _ _ _, ?_⟩) | (refine And.intro (fun _ => ?_) (fun _ => ?_)) | (refine jo 3 _ _ _ _ ?_)
  all_goals first | (refine l0' _ _ _ _ (by decide) (by decide) ?_) | (refine l0 _ _ _ _ (by decide) (by decide) ?_) | skip
  all_goals simp_all [gn]
def nJ (x : List UInt8) : Bool := x == [43] || x == [45] || x == [42] || x == [60] || x == [61, 61]
def dT (k : Int) (x : List UInt8) : Bool := if k = 1 ∨ k = 3 then (bd x : Int) == 2 else if k = 2 ∨ k = 4 ∨ k = 12 ∨ k = 20 then (bd x : Int) == 1 else if k = 9 then (bd x : Int) == 2 || (bd x : Int) == 4 else if k = 16 then (bd x : Int) == 1 || (bd x : Int) == 3 else if k = 10 then (bd x : Int) == 5 else if k = 11 then (bd x : Int) == 6 else if k = 21 then nJ x else x == []
theorem ov (x : List UInt8) : dy x (nJ x) := by
  refine iw 0 _ _ ?_
  repeat' (refine And.intro (fun _ => ?_) (fun _ => ?_))
  all_goals simp_all [nJ]
theorem pJ (k : Int) (x : List UInt8) (hx : x.length ≤ 281474976710656) : d6 k x (dT k x) := by
  refine je 2 _ _ _ ?_
  refine ⟨_, qV x hx, ?_⟩
  repeat' first | (refine ⟨_, ov _, ?_⟩) | (refine And.intro (fun _ => ?_) (fun _ => ?_)) | (refine iS 1 _ _ _ _ _ ?_) | (refine iT 0 _ _ _ _ _ ?_)
  all_goals simp_all [dT]
def dG (k : Int) : Bool := decide (5 ≤ k ∧ k ≤ 9)
def g9 (k : Int) : Bool := decide (10 ≤ k ∧ k ≤ 22 ∧ k ≠ 17)
def n9 (k : Int) : Bool := g9 k && decide (k ≠ 19 ∧ k ≠ 20 ∧ k ≠ 21)
theorem pO (k : Int) : c8 k (dG k) := iZ 0 _ _ ⟨fun h => by simp [dG, h], fun h => by simp [dG, h]⟩
theorem m8 (a b : Int) : (a != b) = decide (a ≠ b) := by by_cases h : a = b <;> simp [h]
theorem lG (k : Int) : bo k (g9 k) := gw 0 _ _ ⟨fun h => ⟨fun h' => by simp [g9, h, h', m8], fun h' => by simp [g9, h, h']⟩, fun h => by simp [g9, h]⟩
theorem qi (k : Int) : d4 k (n9 k) := by
  refine i5 0 _ _ ⟨_, lG k, ?_⟩
  repeat' (refine And.intro (fun _ => ?_) (fun _ => ?_))
  all_goals simp_all [n9, m8]
def fp (k n : Int) (i : Int) (kk : Int) : Bool := if k = 1 then kk == 2 || kk == 3 else if k = 2 then (if i = n - 1 then g9 kk else if i = n - 2 then dG kk else kk == 4) else if k = 3 ∨ k = 4 ∨ k = 8 then dG kk else if k = 16 then kk == 17 else if k = 21 then n9 kk || (decide (i = 0) && kk == 21) else g9 kk
theorem rj {t u : Tree} {i : Nat} (hu : t.kids[i]? = some u) : eO t i (fp t.kind t.kids.length i u.kind) := by
  refine jE 1 _ _ _ ⟨i, rfl, u, hu, ?_⟩
  repeat' first | (refine ⟨_, lG _, ?_⟩) | (refine ⟨_, pO _, ?_⟩) | (refine ⟨_, qi _, ?_⟩) | (refine And.intro (fun _ => ?_) (fun _ => ?_)) | (refine jj 0 _ _ _ _ _ ?_)
  all_goals simp_all [fp]
mutual
def shapeK : Tree → Bool
  | .node k s _ ks => decide (0 ≤ gn k ks.length) && dT k s && shapeKs k ks.length 0 ks
def shapeKs (k n : Int) : Nat → List Tree → Bool
  | _, [] => true
  | i, t :: r => fp k n i t.kind && shapeK t && shapeKs k n (i + 1) r
end
theorem ci (t : Tree) : shapeK t = (decide (0 ≤ gn t.kind t.kids.length) && dT t.kind t.text && shapeKs t.kind t.kids.length 0 t.kids) := by cases t; simp only [shapeK]; rfl
theorem fL : ∀ t : Tree, tbulk t ≤ 1000000000 → bN t (shapeK t) := dN fun t ih hb => by
  have hk := fX t
  have ht := jb t
  have loop : ∀ m i, t.kids.length - i ≤ m → (0 ≤ gn t.kind t.kids.length ∧ dT t.kind t.text = true) → cS (m + 1) t i (shapeKs t.kind t.kids.length i (t.kids.drop i)) := fun m => by
    induction m with
    | zero =>
      intro i hi hw
      refine fk 0 _ _ _ ⟨fun h => by omega, fun h => ?_⟩
      rw [List.drop_of_length_le (by omega), shapeKs]
    | succ m ihm =>
      intro i hi hw
      refine fk (m + 1) _ _ _ ⟨fun h => ?_, fun h => ?_⟩
      · obtain ⟨u, hu, _⟩ | h' := dp t.kids i
        · rw [dL hu, shapeKs]
          have hbu := cI hu
          refine ⟨u, hu, _, rj hu, fun h1 => by simp [h1], fun h1 => ⟨_, ih i u hu (by omega), fun h2 => by simp [h1, h2], fun h2 => ⟨by omega, ?_⟩⟩⟩
          simp only [h1, h2, Bool.true_and]
          exact ihm (i + 1) (by omega) hw
        · exact absurd h h'
      · rw [List.drop_of_length_le (by omega), shapeKs]
  rw [ci]
  refine i7 (t.kids.length + 1) _ _ ⟨_, qK (by omega) (by omega), fun h => ?_, fun h => ⟨_, pJ _ _ (by omega), fun h1 => by simp [h1], fun h1 => ?_⟩⟩
  · rw [decide_eq_false (by omega)]; rfl
  · rw [decide_eq_true (by omega), h1]
    exact loop _ 0 (by omega) ⟨by omega, h1⟩
end Go.Proofs.Ytiknldgpnhikhaa
namespace Go.Proofs.Ytiknldgpnhikhaa
open Go.RowKit
set_option maxRecDepth 100000
set_option maxHeartbeats 1000000 in
theorem nj (s : ByteArray) (c : Int) (w : World) : Calls Try.prog 62 #[.string s, .int .u8 c] w fun e w' => e = .returned (.int .i64 (Lib.indexByte s.data.toList c.toNat.toUInt8)) ∧ w = w' := by
  go_enter Try.func62, Try.ntmps62
  go_wp2
  rw [run_callFunc_extern Try.func67 (by kernel_rfl) (by kernel_rfl) (by kernel_rfl) (e := Extern.BytealgIndexByte.indexByte) (by kernel_rfl), Lib.run_indexByteString]
  simp only [Result.andThen]
  rw [Oper.upon_value]
  go_wp2
  go_ret
  exact ⟨rfl, rfl⟩
theorem nI (s : ByteArray) (c : Int) (w : World) : Calls Try.prog 52 #[.string s, .int .u8 c] w fun e w' => e = .returned (.int .i64 (Lib.indexByte s.data.toList c.toNat.toUInt8)) ∧ w = w' := by
  go_enter Try.func52, Try.ntmps52
  go_wp2_with (go_at_call 62; refine (nj _ _ _).mono ?_; rintro e w' ⟨rfl, rfl⟩)
  go_ret
  exact ⟨rfl, rfl⟩
end Go.Proofs.Ytiknldgpnhikhaa
namespace Go.Proofs.Ytiknldgpnhikhaa
open Go.RowKit Lx Sx
set_option maxHeartbeats 1000000
def bI (s : List UInt8) : List Tree → Nat → Int
  | [], _ => -1
  | t :: r, i => if t.text = s then (i : Int) else bI s r (i + 1)
theorem fM (s : List UInt8) : ∀ (l : List Tree) (i : Nat), bI s l i = -1 ∨ ∃ k t, bI s l i = ((i + k : Nat) : Int) ∧ l[k]? = some t ∧ t.text = s ∧ ∀ j u, j < k → l[j]? = some u → u.text ≠ s
  | [], i => .inl rfl
  | t :: r, i => by
    simp only [bI]
    split
    · rename_i h
      exact .inr ⟨0, t, rfl, rfl, h, fun j u hj _ => by omega⟩
    · rename_i h
      rcases fM s r (i + 1) with h1 | ⟨k, u, h1, h2, h3, h4⟩
      · exact .inl h1
      · refine .inr ⟨k + 1, u, by rw [h1]; congr 1; omega, by simpa using h2, h3, fun j x hj hx => ?_⟩
        cases j with
        | zero => simp at hx; subst hx; exact h
        | succ j => exact h4 j x (by omega) (by simpa using hx)
theorem pI (t : Tree) (s : List UInt8) : ep t s (t.text == s) := jA 0 _ _ _ rfl
theorem mO (l : List Tree) (s : List UInt8) (hl : l.length ≤ 1000000000) : dl l s (bI s l 0) := by
  have loop : ∀ m i, l.length - i ≤ m → cf (m + 1) l s i (bI s (l.drop i) i) := fun m => by
    induction m with
    | zero =>
      intro i hi
      refine dV 0 _ _ _ _ ⟨fun h => by omega, fun h => ?_⟩
      rw [List.drop_of_length_le (by omega), bI]
    | succ m ihm =>
      intro i hi
      refine dV (m + 1) _ _ _ _ ⟨fun h => ?_, fun h => ?_⟩
      · obtain ⟨u, hu, _⟩ | h' := dp l i
        · rw [dL hu, bI]
          refine ⟨u, hu, _, pI u s, fun h1 => ?_, fun h1 => ⟨by omega, ?_⟩⟩
          · rw [if_pos (by simpa using h1)]
          · rw [if_neg (by simpa using h1)]; exact ihm (i + 1) (by omega)
        · exact absurd h h'
      · rw [List.drop_of_length_le (by omega), bI]
  exact ij _ _ _ _ (loop l.length 0 (by omega))
theorem mW (l : List Tree) (s : List UInt8) (hl : l.length ≤ 1000000000) : d5 l s (bI s l 0) := ld 0 _ _ _ ⟨_, mO l s hl, rfl⟩
def bv : List UInt8 → Nat → Int
  | [], _ => -1
  | c :: r, i => if c = 46 then (i : Int) else bv r (i + 1)
theorem jU : ∀ (l : List UInt8) (i : Nat), bv l i = -1 ∨ ∃ k, bv l i = ((i + k : Nat) : Int) ∧ k < l.length
  | [], i => .inl rfl
  | c :: r, i => by
    simp only [bv]
    split
    · exact .inr ⟨0, rfl, by simp⟩
    · rcases jU r (i + 1) with h1 | ⟨k, h1, h2⟩
      · exact .inl h1
      · exact .inr ⟨k + 1, by rw [h1]; congr 1; omega, by simp; omega⟩
theorem qH (c : UInt8) : ∀ (l : List UInt8), -1 ≤ Lib.indexByte l c
  | [] => by simp [Lib.indexByte]
  | b :: r => by
    have := qH c r
    simp only [Lib.indexByte]
    split
    · omega
    · split <;> omega
theorem ii : ∀ (l : List UInt8) (i : Nat), bv l i = if Lib.indexByte l 46 = -1 then -1 else Lib.indexByte l 46 + (i : Int)
  | [], i => by simp [bv, Lib.indexByte]
  | c :: r, i => by
    have ih := ii r (i + 1)
    have := qH 46 r
    simp only [bv, Lib.indexByte, ih]
    by_cases h : c = 46
    · simp [h]
    · have h' : (c == 46) = false := by simpa using h
      simp only [if_neg h, h']
      by_cases h2 : Lib.indexByte r 46 = -1
      · simp [h2]
      · have h3 : (Lib.indexByte r 46 == -1) = false := by simpa using h2
        simp only [if_neg h2, h3, Bool.false_eq_true, if_false]
        rw [if_neg (by omega)]; omega
theorem mK (l : List UInt8) : bZ l 46 (bv l 0) := sum0_calls rfl rfl fun S w ρ xs hx => by
  simp only [LRel] at hx
  obtain ⟨x, ys, rfl, h1, y, zs, rfl, h2, rfl⟩ := hx
  simp only [VRel] at h1 h2; subst h1 h2
  refine (nj _ _ w).mono fun e w' ⟨h1, h2⟩ => ⟨_, h1, ?_, h2 ▸ Chg.refl _ _⟩
  simp only [VRel]
  have e : bv l 0 = Lib.indexByte l 46 := by
    rw [ii]; split
    · rename_i h; rw [h]
    · simp
  rw [e]; rfl
theorem rx (l : List UInt8) : bj l (bv l 0) := by
  refine dA 1 _ _ ⟨fun h => ?_, fun h => dw 0 _ _ ?_⟩
  · subst h; rfl
  · exact ⟨_, mK l, rfl⟩
theorem sx (l : List UInt8) (hl : l.length ≤ 1000000000) : dx l (if 0 ≤ bv l 0 then l.take (bv l 0).toNat else l) (if 0 ≤ bv l 0 then l.drop ((bv l 0).toNat + 1) else []) (decide (0 ≤ bv l 0)) := by
  refine iq 0 _ _ _ _ ⟨_, _, _, ?_, rfl, rfl, rfl⟩
  refine dS 0 _ _ _ _ ⟨_, rx l, fun h => ?_, fun h => ?_⟩
  · rcases jU l 0 with h1 | ⟨k, h1, h2⟩
    · rw [h1] at h; omega
    · rw [h1]
      exact ⟨k, by simp, by omega, by omega, k + 1, by simp, by omega, by simp, by simp, by simp⟩
  · simp [h]
def inK (p : List Tree) (m : Int) (w : List UInt8) : Int × Int × Bool := if m < 0 then (0, 0, false) else match p[m.toNat]? with
  | none => (0, 0, false)
  | some t => if bI w t.kids 0 < 0 then (0, 0, false) else (m, bI w t.kids 0, true)
def ar (p : List Tree) (m : Int) (w : List UInt8) : Int × Int × Bool := if 0 ≤ bv w 0 then inK p (bI (w.take (bv w 0).toNat) p 0) (w.drop ((bv w 0).toNat + 1)) else inK p m w
theorem nd {p : List Tree} {m : Int} {w : List UInt8} (hm : m < p.length) (hp : kbulk p ≤ 1000000000) : du 1 p m w (inK p m w).1 (inK p m w).2.1 (inK p m w).2.2 := by
  refine jN 0 _ _ _ _ _ _ ⟨fun h => by simp [inK, h], fun h => ?_⟩
  obtain ⟨t, ht, _⟩ | h' := dp p m.toNat
  · have := dg ht
    have := fX t
    refine ⟨m.toNat, by omega, t, ht, _, mW _ _ (by omega), fun h1 => ?_, fun h1 => ?_⟩
    · simp [inK, h, ht, h1]
    · simp [inK, h, ht, h1]
  · omega
theorem mE {p : List Tree} {m : Int} {w : List UInt8} (h0 : 0 ≤ m) (hm : m < p.length) (hp : kbulk p ≤ 1000000000) (hw : w.length ≤ 1000000000) : dE p m w (ar p m w).1 (ar p m w).2.1 (ar p m w).2.2 := by
  have hpl := dR p
  refine kv 1 _ _ _ _ _ _ ⟨fun h => by omega, fun h => ⟨fun h => by omega, fun h => ⟨_, _, _, sx w hw, fun h1 => ?_, fun h1 => ?_⟩⟩⟩
  · have h1 : 0 ≤ bv w 0 := by simpa using h1
    simp only [if_pos h1, ar]
    refine ⟨_, mW _ _ (by omega), ?_⟩
    refine nd ?_ hp
    rcases fM (w.take (bv w 0).toNat) p 0 with h2 | ⟨k, t, h2, h3, _⟩
    · rw [h2]; omega
    · have := (List.getElem?_eq_some_iff.1 h3).1
      rw [h2]; omega
  · have h1 : ¬ 0 ≤ bv w 0 := by simpa using h1
    simp only [ar, if_neg h1]
    exact nd hm hp
end Go.Proofs.Ytiknldgpnhikhaa
namespace Go.Proofs.Ytiknldgpnhikhaa
open Go.RowKit Lx Sx
set_option maxHeartbeats 1000000
mutual
def nodK : Tree → List Int → List (List Int × Tree)
  | .node k s ls ks, q => (q, .node k s ls ks) :: nodKs ks q 0
def nodKs : List Tree → List Int → Nat → List (List Int × Tree)
  | [], _, _ => []
  | t :: r, q, i => nodK t (q ++ [(i : Int)]) ++ nodKs r q (i + 1)
end
theorem ke (t : Tree) (q : List Int) : nodK t q = (q, t) :: nodKs t.kids q 0 := by cases t; simp only [nodK]; rfl
mutual
theorem nodK_len : ∀ (t : Tree) (q : List Int), (nodK t q).length ≤ tbulk t
  | .node k s ls ks, q => by have := nodKs_len ks q 0; simp only [nodK, tbulk, List.length_cons]; omega
theorem nodKs_len : ∀ (l : List Tree) (q : List Int) (i : Nat), (nodKs l q i).length ≤ kbulk l
  | [], _, _ => by simp [nodKs, kbulk]
  | t :: r, q, i => by have := nodK_len t (q ++ [(i : Int)]); have := nodKs_len r q (i + 1); simp only [nodKs, kbulk, List.length_append]; omega
end
def atK : Tree → List Int → Option Tree
  | t, [] => some t
  | t, i :: r => if i < 0 then none else match t.kids[i.toNat]? with
    | none => none
    | some u => atK u r
theorem m9 : ∀ (t : Tree) (q r : List Int), atK t (q ++ r) = (atK t q).bind fun u => atK u r
  | t, [], r => rfl
  | t, i :: q, r => by
    simp only [List.cons_append, atK]
    split
    · rfl
    · split
      · rfl
      · rename_i u hu; exact m9 u q r
theorem rb {t u : Tree} {i : Nat} (h : t.kids[i]? = some u) : atK t [(i : Int)] = some u := by
  simp [atK, h, show ¬ ((i : Int) < 0) by omega]
mutual
theorem nodK_at (root : Tree) : ∀ (t : Tree) (q : List Int), atK root q = some t → ∀ x ∈ nodK t q, atK root x.1 = some x.2
  | .node k s ls ks, q, h, x, hx => by
    simp only [nodK, List.mem_cons] at hx
    rcases hx with rfl | hx
    · exact h
    · exact nodKs_at root (.node k s ls ks) q h ks 0 rfl x hx
theorem nodKs_at (root t : Tree) (q : List Int) (h : atK root q = some t) : ∀ (l : List Tree) (i : Nat), t.kids.drop i = l → ∀ x ∈ nodKs l q i, atK root x.1 = some x.2
  | [], _, _, x, hx => by simp [nodKs] at hx
  | u :: r, i, hd, x, hx => by
    simp only [nodKs, List.mem_append] at hx
    have hu : t.kids[i]? = some u := by
      have := congrArg (·[0]?) hd
      simpa using this
    rcases hx with hx | hx
    · exact nodK_at root u (q ++ [(i : Int)]) (by rw [m9, h]; exact rb hu) x hx
    · exact nodKs_at root t q h r (i + 1) (by rw [← List.tail_drop, hd]; rfl) x hx
end
theorem pS (l : List Int) (hl : l.length ≤ 1000000000) : dM l l := iV 0 _ _ fun b hb => ⟨fun h => (List.length_eq_zero_iff.1 (hb h)).symm, fun _ => ⟨hl, rfl⟩⟩
end Go.Proofs.Ytiknldgpnhikhaa
namespace Go.Proofs.Ytiknldgpnhikhaa
open Go.RowKit Lx Sx
set_option maxHeartbeats 1000000
def eF (u : Tree) : Bool := u.kind == 16 || u.kind == 9
def tgK (p : List Tree) (m : Int) (q : List Int) (u : Tree) : GTarget := ⟨⟨m, q⟩, (ar p m u.text).1, (ar p m u.text).2.1, !(ar p m u.text).2.2⟩
def cU (p : List Tree) (m : Int) : List (List Int × Tree) → List GTarget
  | [] => []
  | x :: r => (if eF x.2 then [tgK p m x.1 x.2] else []) ++ cU p m r
theorem l5 (p : List Tree) (m : Int) : ∀ a b, cU p m (a ++ b) = cU p m a ++ cU p m b
  | [], b => rfl
  | x :: r, b => by simp only [List.cons_append, cU, l5 p m r b, List.append_assoc]
theorem hD (p : List Tree) (m : Int) : ∀ a, (cU p m a).length ≤ a.length
  | [] => Nat.le_refl _
  | x :: r => by have := hD p m r; simp only [cU, List.length_append, List.length_cons]; split <;> simp <;> omega
theorem rm {p : List Tree} {M : Int} (h0 : 0 ≤ M) (hM : M < p.length) (hp : kbulk p ≤ 1000000000) : ∀ (t : Tree) (q : List Int) (fd : List GTarget), q.length + tbulk t ≤ 1000000000 → fd.length + tbulk t ≤ 1000000000 → bH p M q fd t p M q (fd ++ cU p M (nodK t q)) := dN fun t ih q fd hq hf => by
  have hk := fX t
  have ht := jb t
  have hb := fP t
  have loop : ∀ k i fd, t.kids.length - i ≤ k → fd.length + kbulk (t.kids.drop i) ≤ 1000000000 → aZ (k + 1) t fd p M q i p M q (fd ++ cU p M (nodKs (t.kids.drop i) q i)) := fun k => by
    induction k with
    | zero =>
      intro i fd hi hf
      refine dj 0 _ _ _ _ _ _ _ _ _ _ ⟨fun h => by omega, fun h => ⟨rfl, rfl, rfl, ?_⟩⟩
      rw [List.drop_of_length_le (by omega)]; simp [nodKs, cU]
    | succ k ihk =>
      intro i fd hi hf
      refine dj (k + 1) _ _ _ _ _ _ _ _ _ _ ⟨fun h => ?_, fun h => ⟨rfl, rfl, rfl, ?_⟩⟩
      · obtain ⟨u, hu, _⟩ | h' := dp t.kids i
        · have hd := dL hu
          rw [hd, kbulk] at hf
          have hbu := cI hu
          have hl := nodK_len u (q ++ [(i : Int)])
          have hl2 := hD p M (nodK u (q ++ [(i : Int)]))
          refine ⟨u, hu, by simp; omega, _, _, _, _, ih i u hu (q ++ [(i : Int)]) fd (by simp; omega) (by omega), q.length, by simp, by simp, by omega, ?_⟩
          have := ihk (i + 1) (fd ++ cU p M (nodK u (q ++ [(i : Int)]))) (by omega) (by simp; omega)
          rw [hd, nodKs, l5, ← List.append_assoc]
          simpa using this
        · exact absurd h h'
      · rw [List.drop_of_length_le (by omega)]; simp [nodKs, cU]
  have key : ∀ b, b = eF t → bz (t.kids.length + 3) p M q fd t b p M q (fd ++ cU p M (nodK t q)) := fun b hbb => by
    rw [ke, cU]
    refine fY (t.kids.length + 2) _ _ _ _ _ _ _ _ _ _ ⟨fun h => ?_, fun h => ?_⟩
    · rw [if_pos (by rw [← hbb]; exact h)]
      refine ⟨_, _, _, mE h0 hM hp (by omega), _, pS q (by omega), fN (t.kids.length + 1) _ _ _ _ _ _ _ _ _ _ _ _ _ ⟨by simp; omega, ?_⟩⟩
      have := loop t.kids.length 0 (fd ++ [tgK p M q t]) (by omega) (by simp; omega)
      rw [← List.append_assoc]
      exact this
    · rw [if_neg (by rw [← hbb, h]; simp)]
      have := loop (t.kids.length + 1) 0 fd (by omega) (by simp; omega)
      simpa using this
  refine f5 (t.kids.length + 3) _ _ _ _ _ _ _ _ _ ⟨fun h => key _ (by simp [eF, h]), fun h => key _ (by simp [eF, h])⟩
def aM : List Tree → Bool
  | [] => true
  | t :: r => t.kind == 1 && shapeK t && aM r
theorem k7 (p : List Tree) (hp : kbulk p ≤ 1000000000) : dt p (aM p) := by
  have hl := dR p
  have loop : ∀ m i, p.length - i ≤ m → dc (m + 1) p i (aM (p.drop i)) := fun m => by
    induction m with
    | zero =>
      intro i hi
      refine fE 0 _ _ _ ⟨fun h => by omega, fun h => ?_⟩
      rw [List.drop_of_length_le (by omega), aM]
    | succ m ihm =>
      intro i hi
      refine fE (m + 1) _ _ _ ⟨fun h => ?_, fun h => ?_⟩
      · obtain ⟨u, hu, _⟩ | h' := dp p i
        · rw [dL hu, aM]
          have := dg hu
          refine ⟨u, hu, fun h1 => by simp [h1], fun h1 => ⟨_, fL u (by omega), fun h2 => by simp [h1, h2], fun h2 => ⟨by omega, ?_⟩⟩⟩
          simp only [h1, h2, beq_self_eq_true, Bool.true_and]
          exact ihm (i + 1) (by omega)
        · exact absurd h h'
      · rw [List.drop_of_length_le (by omega), aM]
  exact jT _ _ _ (loop p.length 0 (by omega))
def dX (p : List Tree) : Nat → List Tree → List GTarget
  | _, [] => []
  | i, t :: r => cU p i (nodK t []) ++ dX p (i + 1) r
theorem kS (p : List Tree) : ∀ (i : Nat) (l : List Tree), (dX p i l).length ≤ kbulk l
  | _, [] => Nat.le_refl _
  | i, t :: r => by
    have := kS p (i + 1) r
    have := hD p i (nodK t [])
    have := nodK_len t []
    simp only [dX, kbulk, List.length_append]; omega
def bh (p : List Tree) : List GTarget := if aM p then dX p 0 p else []
theorem o9 (p : List Tree) (hp : kbulk p ≤ 100000000) : eN p (bh p) := by
  have hl := dR p
  have loop : ∀ m i z fd, p.length - i ≤ m → fd.length + kbulk (p.drop i) ≤ 1000000000 → c9 (m + 1) p p z [] fd i (fd ++ dX p i (p.drop i)) := fun m => by
    induction m with
    | zero =>
      intro i z fd hi hf
      refine fU 0 _ _ _ _ _ _ _ ⟨fun h => by omega, fun h => ?_⟩
      rw [List.drop_of_length_le (by omega)]; simp [dX]
    | succ m ihm =>
      intro i z fd hi hf
      refine fU (m + 1) _ _ _ _ _ _ _ ⟨fun h => ?_, fun h => ?_⟩
      · obtain ⟨u, hu, _⟩ | h' := dp p i
        · have := dg hu
          have hd := dL hu
          rw [hd, kbulk] at hf
          have := hD p i (nodK u [])
          have := nodK_len u []
          refine ⟨u, hu, _, _, _, _, rm (p := p) (M := (i : Int)) (by omega) (by omega) (by omega) u [] fd (by simp; omega) (by omega), by omega, ?_⟩
          rw [hd, dX, ← List.append_assoc]
          exact ihm (i + 1) _ _ (by omega) (by simp; omega)
        · exact absurd h h'
      · rw [List.drop_of_length_le (by omega)]; simp [dX]
  refine jx (p.length + 1) _ _ ⟨_, k7 p (by omega), fun h => by simp [bh, h], fun h => ?_⟩
  have := loop p.length 0 0 [] (by omega) (by simp; omega)
  simpa [bh, h] using this
end Go.Proofs.Ytiknldgpnhikhaa
namespace Go.Proofs.Ytiknldgpnhikhaa
open Go.RowKit Lx Sx
set_option maxRecDepth 100000
theorem ju {p : List Tree} {M : Int} {w : List UInt8} (h : (inK p M w).2.2 = true) : ∃ (i d : Nat) (t u : Tree), M = (i : Int) ∧ (inK p M w).1 = (i : Int) ∧ (inK p M w).2.1 = (d : Int) ∧ p[i]? = some t ∧ t.kids[d]? = some u ∧ u.text = w ∧ ∀ j v, j < d → t.kids[j]? = some v → v.text ≠ w := by
  unfold inK at h ⊢
  by_cases hM : M < 0
  · rw [if_pos hM] at h; cases h
  · rw [if_neg hM] at h ⊢
    cases ht : p[M.toNat]? with
    | none => rw [ht] at h; cases h
    | some t =>
      rw [ht] at h
      simp only at h ⊢
      rcases fM w t.kids 0 with e | ⟨k, u, e1, e2, e3, e4⟩
      · simp [e] at h
      · have hn : ¬ bI w t.kids 0 < 0 := by omega
        rw [if_neg hn]
        exact ⟨M.toNat, k, t, u, by omega, by simp only []; omega, by simp only []; omega, ht, e2, e3, e4⟩
theorem ql {p : List Tree} {M : Int} {w : List UInt8} (h : (ar p M w).2.2 = true) : ∃ (i d : Nat) (t u : Tree), (ar p M w).1 = (i : Int) ∧ (ar p M w).2.1 = (d : Int) ∧ p[i]? = some t ∧ t.kids[d]? = some u := by
  unfold ar at h ⊢
  split at h
  · rename_i hd
    rw [if_pos hd]
    obtain ⟨i, d, t, u, _, a1, a2, a3, a4, _⟩ := ju h
    exact ⟨i, d, t, u, a1, a2, a3, a4⟩
  · rename_i hd
    rw [if_neg hd]
    obtain ⟨i, d, t, u, _, a1, a2, a3, a4, _⟩ := ju h
    exact ⟨i, d, t, u, a1, a2, a3, a4⟩
theorem kL {w : List UInt8} {k : Nat} (h : bd w = k) (hk : 0 < k ∧ k < 5) : (aF w).2.1 = w.length ∧ (aF w).1 = k := by
  unfold bd at h
  split at h
  · omega
  · split at h
    · rename_i hc
      have e : tokenT w = aF w := by
        unfold tokenT at h ⊢
        simp only [] at h ⊢
        repeat' split at h
        all_goals simp_all
        all_goals omega
      rw [e] at hc h
      exact ⟨hc.2, h⟩
    · omega
theorem qE {w : List UInt8} {k : Nat} (h : bd w = k) (hk : k = 1 ∨ k = 2) : spanN az w = w.length ∧ (k = 1 ↔ cG (w.getD 0 0) = true) := by
  obtain ⟨h1, h2⟩ := kL h (by omega)
  unfold aF at h1 h2
  split at h1
  · rename_i hc
    rw [if_pos hc] at h2
    unfold cR at h2
    repeat' split at h2
    all_goals simp only at h2
    all_goals omega
  · rename_i hc
    rw [if_neg hc] at h2
    unfold bb at h1 h2
    split at h2
    · simp only at h2; omega
    · rename_i a1
      rw [if_neg a1] at h1
      split at h2
      · simp only at h2; omega
      · rename_i a2
        rw [if_neg a2] at h1
        split at h2
        · rename_i a3
          rw [if_pos a3] at h1
          simp only at h1 h2
          exact ⟨h1, fun _ => a3, fun _ => h2.symm⟩
        · rename_i a3
          rw [if_neg a3] at h1
          simp only at h1 h2
          exact ⟨h1, fun h => by omega, fun h => absurd h a3⟩
theorem qt {w : List UInt8} {k : Nat} (h : bd w = k) (hk : k = 3 ∨ k = 4) : spanN az w < w.length ∧ w.getD (spanN az w) 0 = 46 ∧ (k = 3 ↔ cG (w.getD (spanN az w + 1) 0) = true) := by
  obtain ⟨h1, h2⟩ := kL h (by omega)
  unfold aF at h1 h2
  split at h1
  · rename_i hc
    rw [if_pos hc] at h2
    have hc' := hc
    simp only [a6, Bool.and_eq_true, decide_eq_true_eq, beq_iff_eq] at hc'
    refine ⟨by omega, ?_, ?_⟩
    · have := hc'.1.2
      exact UInt8.toNat_inj.1 (by rw [this]; rfl)
    · unfold cR at h2
      repeat' split at h2
      all_goals simp only at h2
      all_goals first
        | omega
        | (rename_i a3; exact ⟨fun _ => a3, fun _ => h2.symm⟩)
        | (rename_i a3; exact ⟨fun h => by omega, fun h => absurd h a3⟩)
  · rename_i hc
    rw [if_neg hc] at h2
    unfold bb at h2
    repeat' split at h2
    all_goals simp only at h2
    all_goals omega
theorem jM (c : UInt8) (r : List UInt8) : spanN az (c :: r) = if az c = true then spanN az r + 1 else 0 := by
  unfold spanN; rw [List.takeWhile_cons]; split <;> simp
theorem mB : ∀ (w : List UInt8) (i : Nat), spanN az w = w.length → bv w i = -1
  | [], i, h => rfl
  | c :: r, i, h => by
    rw [jM] at h
    split at h
    · rename_i hc
      have : c ≠ 46 := fun e => by subst e; revert hc; decide
      rw [bv, if_neg this]
      exact mB r (i + 1) (by simpa using h)
    · simp at h
theorem oB : ∀ (w : List UInt8) (i : Nat), spanN az w < w.length → w.getD (spanN az w) 0 = 46 → bv w i = ((i + spanN az w : Nat) : Int)
  | [], i, h, _ => by simp at h
  | c :: r, i, h, h2 => by
    rw [jM] at h h2 ⊢
    split at h
    · rename_i hc
      rw [if_pos hc] at h2 ⊢
      have : c ≠ 46 := fun e => by subst e; revert hc; decide
      rw [bv, if_neg this, oB r (i + 1) (by simpa using h) (by simpa using h2)]
      congr 1; omega
    · rename_i hc
      rw [if_neg hc] at h2 ⊢
      have : c = 46 := by simpa using h2
      rw [bv, if_pos this]; rfl
theorem fz {k n : Int} : ∀ {l : List Tree} {i j : Nat} {u : Tree}, shapeKs k n i l = true → l[j]? = some u → fp k n ((i + j : Nat) : Int) u.kind = true ∧ shapeK u = true
  | [], i, j, u, _, h => by simp at h
  | t :: r, i, 0, u, h, hj => by
    simp only [shapeKs, Bool.and_eq_true] at h
    simp only [List.getElem?_cons_zero, Option.some.injEq] at hj
    subst hj
    exact ⟨by simpa using h.1.1, h.1.2⟩
  | t :: r, i, j + 1, u, h, hj => by
    simp only [shapeKs, Bool.and_eq_true] at h
    have := fz (i := i + 1) (j := j) h.2 (by simpa using hj)
    exact ⟨by rw [show i + (j + 1) = i + 1 + j by omega]; exact this.1, this.2⟩
theorem dP : ∀ {p : List Tree} {i : Nat} {t : Tree}, aM p = true → p[i]? = some t → t.kind = 1 ∧ shapeK t = true
  | [], i, t, _, h => by simp at h
  | v :: r, 0, t, h, hi => by
    simp only [aM, Bool.and_eq_true, beq_iff_eq] at h
    simp only [List.getElem?_cons_zero, Option.some.injEq] at hi
    subst hi; exact h.1
  | v :: r, i + 1, t, h, hi => by
    simp only [aM, Bool.and_eq_true] at h
    exact dP h.2 (by simpa using hi)
end Go.Proofs.Ytiknldgpnhikhaa
namespace Go.Proofs.Ytiknldgpnhikhaa
open Go.RowKit Lx Sx
set_option maxRecDepth 100000
mutual
def leafK : Tree → Tree
  | .node k s ls ks => if k = 8 then leafH (.node k s ls ks) ks else .node k s ls ks
def leafH (d : Tree) : List Tree → Tree
  | [] => d
  | t :: _ => leafK t
end
mutual
def lisK : Tree → Nat
  | .node k s ls ks => if k = 8 then lisH ks + 1 else 0
def lisH : List Tree → Nat
  | [] => 0
  | t :: _ => lisK t
end
def cQ : Nat → Tree → Tree
  | 0, t => t
  | n + 1, t => .node 8 [] [] [cQ n t]
mutual
def bareK : Tree → Tree
  | .node k s _ ks => .node k s [] (baresK ks)
def baresK : List Tree → List Tree
  | [] => []
  | t :: r => bareK t :: baresK r
end
theorem fC {t u : Tree} {r : List Tree} (h8 : t.kind = 8) (hk : t.kids = u :: r) : leafK t = leafK u ∧ lisK t = lisK u + 1 := by
  cases t
  simp only [Tree.kind, Tree.kids] at h8 hk
  subst h8 hk
  constructor
  · rw [leafK, if_pos rfl, leafH]
  · rw [lisK, if_pos rfl, lisH]
theorem ds {t : Tree} (h : t.kind ≠ 8) : leafK t = t ∧ lisK t = 0 := by
  cases t
  simp only [Tree.kind] at h
  constructor
  · rw [leafK, if_neg h]
  · rw [lisK, if_neg h]
theorem mc (t : Tree) : bareK t = .node t.kind t.text [] (baresK t.kids) := by cases t; simp only [bareK]; rfl
def tyK (t : Tree) : Prop := shapeK t = true ∧ dG t.kind = true
theorem iG {t : Tree} (h : tyK t) : (t.kind = 8 ∧ t.text = [] ∧ ∃ u, t.kids = [u] ∧ tyK u) ∨ (t.kind ≠ 8 ∧ t.kids = [] ∧ (t.kind ≠ 9 → t.text = [])) := by
  obtain ⟨hs, hk⟩ := h
  rw [ci] at hs
  simp only [Bool.and_eq_true, decide_eq_true_eq] at hs
  have hk' : 5 ≤ t.kind ∧ t.kind ≤ 9 := by simpa [dG] using hk
  by_cases h8 : t.kind = 8
  · refine .inl ⟨h8, ?_, ?_⟩
    · have := hs.1.2; rw [h8] at this; simpa [dT] using this
    · have hl := hs.1.1
      have e : gn t.kind t.kids.length = f0 t.kids.length 1 2 0 1 := by rw [h8]; rfl
      rw [e] at hl
      have hn : t.kids.length = 1 := by
        unfold f0 at hl
        split at hl
        · omega
        · split at hl
          · omega
          · omega
      obtain ⟨u, hu⟩ : ∃ u, t.kids = [u] := by
        match hkk : t.kids, hn with
        | [u], _ => exact ⟨u, rfl⟩
      refine ⟨u, hu, ?_⟩
      have hss := hs.2
      rw [hu] at hss
      simp only [shapeKs, Bool.and_eq_true] at hss
      refine ⟨hss.1.2, ?_⟩
      have := hss.1.1
      rw [h8] at this
      simpa [fp] using this
  · refine .inr ⟨h8, ?_, fun h9 => ?_⟩
    · have hl := hs.1.1
      have e : gn t.kind t.kids.length = f0 t.kids.length 0 1 0 0 := by
        have : t.kind = 5 ∨ t.kind = 6 ∨ t.kind = 7 ∨ t.kind = 9 := by omega
        rcases this with e | e | e | e <;> rw [e] <;> rfl
      rw [e] at hl
      have : t.kids.length = 0 := by
        unfold f0 at hl
        split at hl
        · omega
        · omega
      exact List.length_eq_zero_iff.1 this
    · have : t.kind = 5 ∨ t.kind = 6 ∨ t.kind = 7 := by omega
      have hw := hs.1.2
      rcases this with e | e | e <;> (rw [e] at hw; simpa [dT] using hw)
theorem j9 : ∀ t, tyK t → tyK (leafK t) ∧ (leafK t).kind ≠ 8 ∧ bareK t = cQ (lisK t) (.node (leafK t).kind (leafK t).text [] []) := dN fun t ih h => by
  rcases iG h with ⟨h8, hx, u, hu, hty⟩ | ⟨h8, hk, _⟩
  · obtain ⟨e1, e2⟩ := fC h8 hu
    obtain ⟨g1, g2, g3⟩ := ih 0 u (by rw [hu]; rfl) hty
    rw [e1, e2]
    refine ⟨g1, g2, ?_⟩
    rw [mc, h8, hx, hu, cQ]
    simp only [baresK, g3]
  · obtain ⟨e1, e2⟩ := ds h8
    rw [e1, e2]
    refine ⟨h, h8, ?_⟩
    rw [mc, hk, cQ, baresK]
theorem j0 : ∀ t, tbulk (leafK t) ≤ tbulk t ∧ lisK t ≤ tbulk t := dN fun t ih => by
  by_cases h8 : t.kind = 8
  · cases hk : t.kids with
    | nil =>
      have hp := iF t
      cases t
      simp only [Tree.kind, Tree.kids] at h8 hk
      subst h8 hk
      rw [leafK, if_pos rfl, leafH, lisK, if_pos rfl, lisH]
      exact ⟨Nat.le_refl _, hp⟩
    | cons u r =>
      obtain ⟨e1, e2⟩ := fC h8 hk
      have h0 : t.kids[0]? = some u := by rw [hk]; rfl
      obtain ⟨g1, g2⟩ := ih 0 u h0
      have := cI h0
      rw [e1, e2]
      omega
  · obtain ⟨e1, e2⟩ := ds h8
    rw [e1, e2]
    exact ⟨Nat.le_refl _, Nat.zero_le _⟩
theorem i6 {t u : Tree} {d : Nat} (ht : t.kind = 1) (hs : shapeK t = true) (hu : t.kids[d]? = some u) : (u.kind = 2 ∧ bd u.text = 1) ∨ (u.kind = 3 ∧ bd u.text = 2) := by
  rw [ci] at hs
  simp only [Bool.and_eq_true] at hs
  obtain ⟨h1, h2⟩ := fz hs.2 hu
  rw [ht] at h1
  simp [fp] at h1
  rw [ci] at h2
  simp only [Bool.and_eq_true] at h2
  have h3 := h2.1.2
  rcases h1 with e | e
  · rw [e] at h3
    simp [dT] at h3
    exact .inl ⟨e, by omega⟩
  · rw [e] at h3
    simp [dT] at h3
    exact .inr ⟨e, by omega⟩
theorem rc {w : List UInt8} {k : Nat} (h : bd w = k) (hk : k = 3 ∨ k = 4) : bv w 0 = ((spanN az w : Nat) : Int) := by
  obtain ⟨h1, h2, _⟩ := qt h hk
  have := oB w 0 h1 h2
  simpa using this
theorem n4 {p : List Tree} {m : Int} {u : Tree} (hp : aM p = true) (h9 : u.kind = 9) (hu : shapeK u = true) (h : (ar p m u.text).2.2 = true) : ∃ (i d : Nat) (t a b : Tree), (ar p m u.text).1 = (i : Int) ∧ (ar p m u.text).2.1 = (d : Int) ∧ p[i]? = some t ∧ t.kids[d]? = some a ∧ a.kind = 3 ∧ a.kids = [b] ∧ tyK b := by
  have hw : bd u.text = 2 ∨ bd u.text = 4 := by
    rw [ci, h9] at hu
    simp only [Bool.and_eq_true] at hu
    have := hu.1.2
    simp only [dT] at this
    simp at this
    omega
  have fin : ∀ (i d : Nat) (t a : Tree), p[i]? = some t → t.kids[d]? = some a → ¬ a.kind = 2 → a.kind = 3 ∧ ∃ b, a.kids = [b] ∧ tyK b := fun i d t a ht ha hn => by
    obtain ⟨t1, t2⟩ := dP hp ht
    rcases i6 t1 t2 ha with ⟨k2, _⟩ | ⟨k3, _⟩
    · exact absurd k2 hn
    · refine ⟨k3, ?_⟩
      rw [ci] at t2
      simp only [Bool.and_eq_true] at t2
      obtain ⟨_, g2⟩ := fz t2.2 ha
      rw [ci, k3] at g2
      simp only [Bool.and_eq_true, decide_eq_true_eq] at g2
      have hl := g2.1.1
      have e : gn 3 a.kids.length = f0 a.kids.length 1 3 0 1 := rfl
      rw [e] at hl
      have hn : a.kids.length = 1 := by
        unfold f0 at hl
        split at hl
        · omega
        · split at hl
          · omega
          · omega
      match hkk : a.kids, hn with
      | [b], _ =>
        have hss := g2.2
        rw [hkk] at hss
        simp only [shapeKs, Bool.and_eq_true] at hss
        exact ⟨b, rfl, hss.1.2, by have := hss.1.1; simpa [fp] using this⟩
  unfold ar at h ⊢
  rcases hw with hw | hw
  · have hd : bv u.text 0 = -1 := mB _ _ (qE hw (.inr rfl)).1
    rw [if_neg (by omega)] at h ⊢
    obtain ⟨i, d, t, a, _, a1, a2, a3, a4, a5, _⟩ := ju h
    obtain ⟨t1, t2⟩ := dP hp a3
    obtain ⟨f1, b, f2, f3⟩ := fin i d t a a3 a4 fun k2 => by
      rcases i6 t1 t2 a4 with ⟨_, k⟩ | ⟨k, _⟩
      · rw [a5, hw] at k; cases k
      · omega
    exact ⟨i, d, t, a, b, a1, a2, a3, a4, f1, f2, f3⟩
  · have hd := rc hw (.inr rfl)
    rw [if_pos (by omega)] at h ⊢
    obtain ⟨i, d, t, a, _, a1, a2, a3, a4, a5, _⟩ := ju h
    obtain ⟨t1, t2⟩ := dP hp a3
    obtain ⟨f1, b, f2, f3⟩ := fin i d t a a3 a4 fun k2 => by
      rcases i6 t1 t2 a4 with ⟨_, k⟩ | ⟨k, _⟩
      · have g := (qE k (.inl rfl)).2.1 rfl
        have g3 := (qt hw (.inr rfl)).2.2
        rw [a5, hd, Int.toNat_natCast] at g
        have e : (u.text.drop (spanN az u.text + 1)).getD 0 0 = u.text.getD (spanN az u.text + 1) 0 := by
          simp [List.getD_eq_getElem?_getD, List.getElem?_drop]
        rw [e] at g
        have := g3.2 g
        cases this
      · omega
    exact ⟨i, d, t, a, b, a1, a2, a3, a4, f1, f2, f3⟩
end Go.Proofs.Ytiknldgpnhikhaa
namespace Go.Proofs.Ytiknldgpnhikhaa
open Go.RowKit Lx Sx
set_option maxRecDepth 100000
def fu : Tree := .node 0 [] [] []
def df (p : List Tree) (i d : Int) : Tree := match p[i.toNat]? with
  | none => fu
  | some t => match t.kids[d.toNat]? with
    | none => fu
    | some a => match a.kids with
      | [] => fu
      | b :: _ => b
def ct (p : List Tree) : Nat → List (Int × Int) → Nat → Int → Tree → Tree × Int
  | 0, _, _, _, _ => (fu, 0)
  | f + 1, seen, n, m, u =>
    if u.kind = 9 then
      if (ar p m u.text).2.2 = false then (fu, 7)
      else if ((ar p m u.text).1, (ar p m u.text).2.1) ∈ seen then (fu, 19)
      else ct p f (((ar p m u.text).1, (ar p m u.text).2.1) :: seen) (n + lisK (df p (ar p m u.text).1 (ar p m u.text).2.1)) (ar p m u.text).1 (leafK (df p (ar p m u.text).1 (ar p m u.text).2.1))
    else (cQ n (.node u.kind [] [] []), 0)
theorem k0 {α : Type} [BEq α] [LawfulBEq α] : ∀ (l m : List α), l.Nodup → (∀ x ∈ l, x ∈ m) → l.length ≤ m.length
  | [], m, _, _ => Nat.zero_le _
  | x :: l, m, hn, hs => by
    obtain ⟨h1, h2⟩ := List.nodup_cons.1 hn
    have hx : x ∈ m := hs x (by simp)
    have ih := k0 l (m.erase x) h2 fun y hy => by
      have hne : y ≠ x := fun e => h1 (e ▸ hy)
      exact (List.mem_erase_of_ne hne).2 (hs y (by simp [hy]))
    rw [List.length_erase_of_mem hx] at ih
    have := List.length_pos_of_mem hx
    simp only [List.length_cons]; omega
def io (i : Nat) (l : List Tree) : List (Int × Int) := (List.range l.length).map fun (d : Nat) => ((i : Int), (d : Int))
def ft : Nat → List Tree → List (Int × Int)
  | _, [] => []
  | i, t :: r => io i t.kids ++ ft (i + 1) r
theorem kQ : ∀ (i : Nat) (p : List Tree), (ft i p).length ≤ kbulk p
  | _, [] => Nat.le_refl _
  | i, t :: r => by
    have := kQ (i + 1) r
    have := fX t
    simp only [ft, List.length_append, io, List.length_map, List.length_range, kbulk]; omega
theorem kZ : ∀ {j : Nat} {p : List Tree} {i d : Nat} {t a : Tree}, p[i]? = some t → t.kids[d]? = some a → (((j + i : Nat) : Int), (d : Int)) ∈ ft j p
  | j, [], i, d, t, a, h, _ => by simp at h
  | j, u :: r, 0, d, t, a, h, ha => by
    simp only [List.getElem?_cons_zero, Option.some.injEq] at h
    subst h
    have := (List.getElem?_eq_some_iff.1 ha).1
    simp only [ft, List.mem_append, io, List.mem_map, List.mem_range]
    exact .inl ⟨d, this, rfl⟩
  | j, u :: r, i + 1, d, t, a, h, ha => by
    have := kZ (j := j + 1) (p := r) (i := i) (by simpa using h) ha
    simp only [ft, List.mem_append]
    rw [show j + (i + 1) = j + 1 + i by omega]
    exact .inr this
theorem iL {p : List Tree} {i d : Nat} {t a b : Tree} (h1 : p[i]? = some t) (h2 : t.kids[d]? = some a) (h3 : a.kids = [b]) : df p i d = b := by
  unfold df
  rw [Int.toNat_natCast, h1]
  simp only [Int.toNat_natCast, h2, h3]
def dB (p : List Tree) (l : List (Int × Int)) : Prop := l.Nodup ∧ ∀ x ∈ l, x ∈ ft 0 p
theorem ic {p : List Tree} {l : List (Int × Int)} (h : dB p l) : l.length ≤ kbulk p := Nat.le_trans (k0 _ _ h.1 h.2) (kQ 0 p)
end Go.Proofs.Ytiknldgpnhikhaa
namespace Go.Proofs.Ytiknldgpnhikhaa
open Go.RowKit Lx Sx
section
variable {P : Program} {T : Tab} {K : Ctx} {Q : Exit → Act → World → Prop} {s : List EI} {n : Nat} {F : Fm} {H : Hp} {all : Array Oper} {rest : List Oper} {o : Oper}
theorem ti {f : Nat → Option Value} {a : Act} {w : World} {ty src dst : TypeId} {x : Operand} {k k' k1 : IntKind} {m : Int} (h : Fr a n f) (hs : P.underlying src = some (.int k1)) (ht : P.underlying dst = some (.int k)) (hx : am f x = some (.int k' m)) (hw : k.wrap m = m) : Runs P a ty (.convert src dst x) w (.value (.int k m)) w := fun _ _ _ _ => by
  simp only [execOp, h.eval hx]
  simp [go_sem, convert, run_underlying hs, run_underlying ht, Conv.intToInt, hw]
theorem yCv {src dst ty : TypeId} {x : Operand} {k k' k1 : IntKind} {m : Int} (hs : P.underlying src = some (.int k1)) (ht : P.underlying dst = some (.int k)) (hx : an F x = some (.int k' m)) (hw : k.wrap m = m) : ∀ S w ρ a, HRel S w ρ H.get → FRel S w ρ a n F → Yld P S w ρ a ty (.convert src dst x) (.int k m) := fun S w ρ a hr hF => ⟨_, by simp only [VRel], fun w' _ => ti hF.fr hs ht (ax (ae hF hx)) hw⟩
end
end Go.Proofs.Ytiknldgpnhikhaa
namespace Go.Proofs.Ytiknldgpnhikhaa
open Go.RowKit Lx Sx
section
variable {α β : Type} [DecidableEq α]
def mlook (a : α) : List (α × β) → Option β
  | [] => none
  | p :: r => if p.1 = a then some p.2 else mlook a r
def mput (a : α) (b : β) : List (α × β) → List (α × β)
  | [] => [(a, b)]
  | p :: r => if p.1 = a then (a, b) :: r else p :: mput a b r
theorem dW (a c : α) (b : β) : ∀ l : List (α × β), mlook c (mput a b l) = if c = a then some b else mlook c l
  | [] => by
    simp only [mput, mlook]
    by_cases h : c = a
    · rw [if_pos h, if_pos h.symm]
    · rw [if_neg h, if_neg (fun e => h e.symm)]
  | p :: r => by
    simp only [mput]
    split
    · rename_i hp
      simp only [mlook]
      by_cases h : c = a
      · rw [if_pos h, if_pos h.symm]
      · rw [if_neg h, if_neg (fun e => h e.symm), if_neg (fun e => h (by rw [← e, hp]))]
    · rename_i hp
      simp only [mlook, dW a c b r]
      by_cases h : p.1 = c
      · rw [if_pos h, if_pos h, if_neg (fun e => hp (by rw [h, e]))]
      · rw [if_neg h, if_neg h]
def d7 (a : α) : List (α × β) → List MapEntry → Nat → Option (Nat × Value)
  | p :: r, e :: es, i => if p.1 = a then some (i, e.val) else d7 a r es (i + 1)
  | _, _, _ => none
end
structure KeyT (P : Program) (kt : TypeId) (α : Type) [DecidableEq α] (enc : α → V) where
  val : α → Value
  rel : ∀ a S w ρ x, VRel S w ρ (enc a) x ↔ x = val a
  chk : ∀ w em a, (Instr.checkKey em 10000 kt (val a)).run P w = .ok () w
  fnd : ∀ w a (β : Type) (l : List (α × β)) (es : List MapEntry), es.map (·.key) = l.map (fun p => val p.1) → (Instr.findKey kt (val a) es).run P w = .ok (d7 a l es 0) w
  stay : ∀ w a, (Instr.keyThatStays (val a) (val a)).run P w = .ok (val a) w
section
variable {P : Program} {α β : Type} [DecidableEq α] {enc : α → V} {kt : TypeId}
theorem ip (val : α → Value) (a : α) : ∀ (l : List (α × β)) (es : List MapEntry) (i : Nat), es.map (·.key) = l.map (fun p => val p.1) →
    (d7 a l es i = none ∧ mlook a l = none ∧ ∀ b, mput a b l = l ++ [(a, b)]) ∨ ∃ j e d, d7 a l es i = some (i + j, e.val) ∧ es[j]? = some e ∧ e.key = val a ∧ l[j]? = some (a, d) ∧ mlook a l = some d ∧ ∀ b, mput a b l = l.set j (a, b)
  | [], [], i, h => .inl ⟨rfl, rfl, fun b => rfl⟩
  | [], e :: es, i, h => by simp at h
  | p :: r, [], i, h => by simp at h
  | p :: r, e :: es, i, h => by
    simp only [List.map_cons, List.cons.injEq] at h
    by_cases hp : p.1 = a
    · refine .inr ⟨0, e, p.2, by simp only [d7, if_pos hp]; rfl, rfl, by rw [h.1, hp], by rw [← hp]; rfl, by simp only [mlook, if_pos hp], fun b => by simp only [mput, if_pos hp]; rfl⟩
    · rcases ip val a r es (i + 1) h.2 with ⟨h1, h2, h3⟩ | ⟨j, e', d, h1, h2, h3, h4, h5, h6⟩
      · exact .inl ⟨by simp only [d7, if_neg hp, h1], by simp only [mlook, if_neg hp, h2], fun b => by simp only [mput, if_neg hp, h3 b]; rfl⟩
      · exact .inr ⟨j + 1, e', d, by simp only [d7, if_neg hp, h1, show i + 1 + j = i + (j + 1) by omega], by simpa using h2, h3, by simpa using h4, by simp only [mlook, if_neg hp, h5], fun b => by simp only [mput, if_neg hp, h6 b]; rfl⟩
theorem iu {val : α → Value} {w : World} (hs : ∀ a b, (Op.equal kt (val a) (val b)).run P w = .ok (decide (b = a)) w) (a : α) : ∀ (l : List (α × β)) (es : List MapEntry) (i : Nat), es.map (·.key) = l.map (fun p => val p.1) → (Instr.findAsking kt (val a) es i).run P w = .ok (d7 a l es i) w
  | [], [], i, h => by simp [Instr.findAsking, d7]
  | [], e :: es, i, h => by simp at h
  | p :: r, [], i, h => by simp at h
  | p :: r, e :: es, i, h => by
    simp only [List.map_cons, List.cons.injEq] at h
    unfold Instr.findAsking
    by_cases hp : p.1 = a
    · simp [h.1, hs, hp, d7]
    · have := iu hs a r es (i + 1) h.2
      simp [h.1, hs, hp, d7, this]
theorem kR {w : World} {f0 f1 : Field} {a b c d : Value} {x y : Bool} (ht : P.underlying kt = some (.struct #[f0, f1])) (hs : P.stoodInHeld kt = false) (n0 : (f0.name != "_") = true) (n1 : (f1.name != "_") = true) (o0 : f0.offset = 0) (o1 : f1.offset = 1) (p0 : P.plainKey f0.type = true) (p1 : P.plainKey f1.type = true)
    (h0 : (Op.equalIn 9999 f0.type a c).run P w = .ok x w) (h1 : (Op.equalIn 9999 f1.type b d).run P w = .ok y w) : (Op.equal kt (.agg #[a, b]) (.agg #[c, d])).run P w = .ok (x && y) w := by
  have hf : P.fieldsOf kt = #[f0, f1] := by simp [Program.fieldsOf, ht]
  show (Op.equalIn (9999 + 1) kt (.agg #[a, b]) (.agg #[c, d])).run P w = _
  rw [run_equalIn_struct w 9999 kt _ _ (by rw [ht, hf]) hs, hf]
  have q0 := run_part_plain w p0 (xs := #[a, b]) (off := f0.offset) (v := a) (by rw [o0]; rfl)
  have q1 := run_part_plain w p0 (xs := #[c, d]) (off := f0.offset) (v := c) (by rw [o0]; rfl)
  have q2 := run_part_plain w p1 (xs := #[a, b]) (off := f1.offset) (v := b) (by rw [o1]; rfl)
  have q3 := run_part_plain w p1 (xs := #[c, d]) (off := f1.offset) (v := d) (by rw [o1]; rfl)
  have m0 : f0.name ≠ "_" := by simpa using n0
  have m1 : f1.name ≠ "_" := by simpa using n1
  cases x <;> cases y <;> simp [Op.eqFields, m0, m1, q0, q1, q2, q3, h0, h1, Result.andThen]
theorem qO {w : World} {f0 f1 : Field} {a b : Value} {em : Bool} (ht : P.underlying kt = some (.struct #[f0, f1])) (n0 : (f0.name != "_") = true) (n1 : (f1.name != "_") = true) (o0 : f0.offset = 0) (o1 : f1.offset = 1) (p0 : P.plainKey f0.type = true) (p1 : P.plainKey f1.type = true)
    (h0 : (Instr.checkKey em 9999 f0.type a).run P w = .ok () w) (h1 : (Instr.checkKey em 9999 f1.type b).run P w = .ok () w) : (Instr.checkKey em 10000 kt (.agg #[a, b])).run P w = .ok () w := by
  show (Instr.checkKey em (9999 + 1) kt (.agg #[a, b])).run P w = _
  have q0 := run_part_plain w p0 (xs := #[a, b]) (off := f0.offset) (v := a) (by rw [o0]; rfl)
  have q2 := run_part_plain w p1 (xs := #[a, b]) (off := f1.offset) (v := b) (by rw [o1]; rfl)
  have m0 : f0.name ≠ "_" := by simpa using n0
  have m1 : f1.name ≠ "_" := by simpa using n1
  unfold Instr.checkKey
  simp only [Sem.run_bind, run_underlying ht, Result.andThen_ok]
  rw [← Array.forIn_toList]
  simp [m0, m1, q0, q2, h0, h1, Result.andThen]
def tj {γ : Type} [DecidableEq γ] {f0 f1 : Field} (g0 g1 : γ → Int) (hg : ∀ x y, g0 x = g0 y → g1 x = g1 y → x = y) (ht : P.underlying kt = some (.struct #[f0, f1])) (hs : P.stoodInHeld kt = false) (n0 : (f0.name != "_") = true) (n1 : (f1.name != "_") = true) (o0 : f0.offset = 0) (o1 : f1.offset = 1) (u0 : P.underlying f0.type = some (.int .i64)) (u1 : P.underlying f1.type = some (.int .i64)) : KeyT P kt γ (fun x => .agg [.int .i64 (g0 x), .int .i64 (g1 x)]) where
  val x := .agg #[.int .i64 (g0 x), .int .i64 (g1 x)]
  rel a S w ρ x := by
    simp only [VRel, LRel]
    constructor
    · rintro ⟨xs, rfl, _, _, rfl, rfl, _, _, rfl, rfl, rfl⟩; rfl
    · rintro rfl; exact ⟨_, rfl, _, _, rfl, rfl, _, _, rfl, rfl, rfl⟩
  chk w em a := qO ht n0 n1 o0 o1 (by simp [Program.plainKey, u0]) (by simp [Program.plainKey, u1])
    (by show (Instr.checkKey em (9998 + 1) f0.type _).run P w = _; unfold Instr.checkKey; simp [run_underlying u0])
    (by show (Instr.checkKey em (9998 + 1) f1.type _).run P w = _; unfold Instr.checkKey; simp [run_underlying u1])
  fnd w a β l es h := by
    rw [run_findKey_eq w (by simp [ht])]
    refine iu (val := fun x => Value.agg #[.int .i64 (g0 x), .int .i64 (g1 x)]) (fun x y => ?_) a l es 0 h
    rw [kR ht hs n0 n1 o0 o1 (by simp [Program.plainKey, u0]) (by simp [Program.plainKey, u1]) (run_equalIn_int w 9998 _ _ _ _ _ u0) (run_equalIn_int w 9998 _ _ _ _ _ u1)]
    congr 1
    by_cases e : y = x
    · subst e; simp
    · have : ¬ (g0 x = g0 y ∧ g1 x = g1 y) := fun h' => e (hg _ _ h'.1 h'.2).symm
      rw [decide_eq_false e]
      simpa using fun h0 h1 => this ⟨h0, h1⟩
  stay w a := by
    have : ∀ z : Int, Instr.sameBits 9999 (.int .i64 z) (.int .i64 z) = true := fun z => by unfold Instr.sameBits; simp
    have h2 : Instr.sameBits 10000 (.agg #[.int .i64 (g0 a), .int .i64 (g1 a)]) (.agg #[.int .i64 (g0 a), .int .i64 (g1 a)]) = true := by
      show Instr.sameBits (9999 + 1) _ _ = true
      unfold Instr.sameBits; simp [this]
    simp [Instr.keyThatStays, h2]
variable {S : Nat → Prop} {w w' : World} {ρ ρ' : Nat → Option Value} {h h' : Nat → Ob} {a : Act} {n : Nat} {ty : TypeId}
theorem lF {t : TypeId} : Runs P a ty (.makeMap t none) w (.value (.map (some w.heap.size))) (w.alloc (.map #[] 0)) := fun _ _ _ _ => by
  simp only [execOp, Option.map_none]
  simp [run_makeMap]
theorem e_mkMap {t kt et : TypeId} {nid : Nat} (hr : HRel S w ρ h) (hf : h nid = .free) : Does P S w ρ h a ty (.makeMap t none) (some (.sl nid)) (aX h nid (.mp kt et [] [])) (fun _ => False) := by
  have hc : Chg [] w (w.alloc (.map #[] 0)) := Chg.alloc w _
  refine ⟨_, _, bG ρ nid (.map (some w.heap.size)), lF, eff_new hr hf hc ⟨w.heap.size, #[], 0, aq _ _ _, heap_alloc_new w _, by simp [LRel], by simp [LRel]⟩ (fun b hb => ?_), _, rfl, ?_⟩
  · simp only [own] at hb
    rw [aq] at hb
    simp only [Option.some.injEq, Value.map.injEq] at hb
    omega
  · simp only [VRel]; exact ⟨aq _ _ _, rfl⟩
def oa (c : Bool) (o : Option β) (encV : β → V) (zv : V) : V := match o with
  | some d => match c with | true => .tup [encV d, .bool true] | false => encV d
  | none => match c with | true => .tup [zv, .bool false] | false => zv
theorem qF {id : Nat} {ks vs : List V} {et : TypeId} (hr : HRel S w ρ h) (ho : h id = .mp kt et ks vs) : ∃ b es clock, ρ id = some (.map (some b)) ∧ w.heap[b]? = some (.map es clock) ∧ LRel S w ρ0 ks (es.toList.map (·.key)) ∧ LRel S w ρ0 vs (es.toList.map (·.val)) := by
  have := hr.ob id
  rw [ho] at this
  exact this
theorem js (D : KeyT P kt α enc) {f : β → α} : ∀ {l : List β} {xs : List Value}, LRel S w ρ0 (l.map fun p => enc (f p)) xs → xs = l.map fun p => D.val (f p)
  | [], xs, h => by simp only [List.map_nil, LRel] at h; simp [h]
  | p :: r, xs, h => by
    simp only [List.map_cons, LRel] at h
    obtain ⟨x, ys, rfl, h1, h2⟩ := h
    rw [(D.rel _ _ _ _ _).1 h1, js D h2]; rfl
theorem mw {f : β → V} : ∀ {l : List β} {xs : List Value} {j : Nat} {x : Value} {d : β}, LRel S w ρ0 (l.map f) xs → xs[j]? = some x → l[j]? = some d → VRel S w ρ0 (f d) x
  | [], xs, j, x, d, h, _, hd => by simp at hd
  | p :: r, xs, 0, x, d, h, hx, hd => by
    simp only [List.map_cons, LRel] at h
    obtain ⟨y, ys, rfl, h1, h2⟩ := h
    simp only [List.getElem?_cons_zero, Option.some.injEq] at hx hd
    subst hx hd; exact h1
  | p :: r, xs, j + 1, x, d, h, hx, hd => by
    simp only [List.map_cons, LRel] at h
    obtain ⟨y, ys, rfl, h1, h2⟩ := h
    exact mw h2 (by simpa using hx) (by simpa using hd)
theorem nz (D : KeyT P kt α enc) {encV : β → V} {t et : TypeId} {x y : Operand} {id : Nat} {k : α} {l : List (α × β)} {c : Bool} {zv : V} {z : Value} (hr : HRel S w ρ h) (fr : Fr a n (fA a)) (hx : Opd S w ρ a x (.sl id)) (hy : Opd S w ρ a y (enc k)) (ho : h id = .mp kt et (l.map fun p => enc p.1) (l.map fun p => encV p.2)) (ht : P.underlying t = some (.map kt et)) (hz : (zeroValue et).run P w = .ok z w) (hzv : VRel S w ρ zv z) :
    Does P S w ρ h a ty (.lookup t x y c) (some (oa c (mlook k l) encV zv)) h (fun _ => False) := by
  obtain ⟨u, k1, k2⟩ := hx
  obtain ⟨q, k3, k4⟩ := hy
  simp only [VRel] at k2
  obtain ⟨b, es, ck, h1, h2, h3, h4⟩ := qF hr ho
  rw [k2.1] at h1; cases h1
  rw [D.rel] at k4; subst k4
  have hks := js D h3
  have hfd := D.fnd w k β l es.toList hks
  have key : ∀ v, (Instr.lookup t (.map (some b)) (D.val k) c).run P w = .ok v w → Runs P a ty (.lookup t x y c) w (.value v) w := fun v hv _ _ _ _ => by
    simp only [execOp, fr.eval k1, fr.eval k3]
    simp [hv]
  rcases ip D.val k l es.toList 0 hks with ⟨g1, g2, _⟩ | ⟨j, e, d, g1, g2, g3, g4, g5, _⟩
  · rw [g1] at hfd
    refine ⟨_, w, ρ, key (if c then .tuple #[z, .bool false] else z) ?_, Eff.refl hr, _, rfl, ?_⟩
    · simp [Instr.lookup, run_underlying ht, MapKept.run_getObj_map h2, D.chk, hfd, hz, Result.andThen]
    · rw [g2]
      cases c with
      | true => simp only [oa, if_true, VRel]; exact ⟨[z, .bool false], rfl, z, _, rfl, hzv, _, _, rfl, rfl, rfl⟩
      | false => exact hzv
  · rw [g1] at hfd
    have hv : VRel S w ρ (encV d) e.val := (mw (f := fun p : α × β => encV p.2) h4 (by rw [List.getElem?_map, g2]; rfl) g4).up up0
    refine ⟨_, w, ρ, key (if c then .tuple #[e.val, .bool true] else e.val) ?_, Eff.refl hr, _, rfl, ?_⟩
    · simp [Instr.lookup, run_underlying ht, MapKept.run_getObj_map h2, D.chk, hfd, Result.andThen]
    · rw [g5]
      cases c with
      | true => simp only [oa, if_true, VRel]; exact ⟨[e.val, .bool true], rfl, e.val, _, rfl, hv, _, _, rfl, rfl, rfl⟩
      | false => exact hv
theorem so (D : KeyT P kt α enc) {encV : β → V} {t et : TypeId} {x y z : Operand} {id : Nat} {k : α} {d : β} {l : List (α × β)} (hr : HRel S w ρ h) (fr : Fr a n (fA a)) (hx : Opd S w ρ a x (.sl id)) (hy : Opd S w ρ a y (enc k)) (hz : Opd S w ρ a z (encV d)) (hp : (encV d).pure = true) (ho : h id = .mp kt et (l.map fun p => enc p.1) (l.map fun p => encV p.2)) (ht : P.underlying t = some (.map kt et)) :
    Does P S w ρ h a ty (.mapUpdate t x y z) none (aX h id (.mp kt et ((mput k d l).map fun p => enc p.1) ((mput k d l).map fun p => encV p.2))) (· = id) := by
  obtain ⟨u, k1, k2⟩ := hx
  obtain ⟨q, k3, k4⟩ := hy
  obtain ⟨v, k5, k6⟩ := hz
  simp only [VRel] at k2
  obtain ⟨b, es, ck, h1, h2, h3, h4⟩ := qF hr ho
  rw [k2.1] at h1; cases h1
  rw [D.rel] at k4; subst k4
  have hks := js D h3
  have hfd := D.fnd w k β l es.toList hks
  have hlt : b < w.heap.size := by
    rcases Nat.lt_or_ge b w.heap.size with h5 | h5
    · exact h5
    · rw [Array.getElem?_eq_none h5] at h2; cases h2
  have key : ∀ w', (Instr.mapUpdate t (.map (some b)) (D.val k) v).run P w = .ok () w' → Runs P a ty (.mapUpdate t x y z) w .skip w' := fun w' hv _ _ _ _ => by
    simp only [execOp, fr.eval k1, fr.eval k3, fr.eval k5]
    simp [hv]
  have hX : ∀ c, c ∈ [b] → own ρ id (h id) c := fun c hc => by simp only [List.mem_singleton] at hc; subst hc; rw [ho]; exact k2.1
  have hc : ∀ o, Chg [b] w { w with heap := w.heap.setIfInBounds b o } := fun o => ⟨rfl, rfl, rfl, by simp, fun c hc hcb => by
    simp only [List.mem_singleton] at hcb
    simp only [Array.getElem?_setIfInBounds]
    rw [if_neg (fun e => hcb e.symm)]⟩
  have hob : ∀ o, ({ w with heap := w.heap.setIfInBounds b o } : World).heap[b]? = some o := fun o => by simp [Array.getElem?_setIfInBounds, hlt]
  have up : ∀ o, Up S S w { w with heap := w.heap.setIfInBounds b o } ρ0 ρ0 := fun o => ⟨fun _ h => h, fun c hc' hcl => (hc o).block c hcl (fun hcb => by simp only [List.mem_singleton] at hcb; subst hcb; exact hr.sep id c (hX c (by simp)) hc'), fun _ _ h => h⟩
  have hown : ∀ ks vs c, own ρ id (.mp kt et ks vs) c → own ρ id (h id) c := fun ks vs c hb => by rw [ho]; exact hb
  have hv0 : VRel S w ρ0 (encV d) v := k6.pure hp
  rcases ip D.val k l es.toList 0 hks with ⟨g1, _, g3⟩ | ⟨j, e, d', g1, g2, g3, g4, _, g6⟩
  · rw [g1] at hfd
    refine ⟨_, _, ρ, key { w with heap := w.heap.setIfInBounds b (.map (es.push ⟨D.val k, v, ck⟩) (ck + 1)) } ?_, iR hr (hc _) hX ⟨b, _, _, k2.1, hob _, ?_, ?_⟩ (hown _ _), rfl⟩
    · simp [Instr.mapUpdate, run_underlying ht, MapKept.run_getObj_map h2, D.chk, hfd, MapKept.run_setObj_map _ h2, Result.andThen]
    · rw [g3]
      simp only [List.map_append, List.map_cons, List.map_nil, Array.toList_push]
      exact (LRel.up (up _) h3).append ⟨_, _, rfl, (D.rel _ _ _ _ _).2 rfl, rfl⟩
    · rw [g3]
      simp only [List.map_append, List.map_cons, List.map_nil, Array.toList_push]
      exact (LRel.up (up _) h4).append ⟨_, _, rfl, VRel.up (up _) hv0, rfl⟩
  · rw [g1, Nat.zero_add] at hfd
    have hj : es[j]? = some e := by simpa using g2
    have hlist : (es.modify j (fun e' => { e' with key := D.val k, val := v })).toList = es.toList.set j { e with key := D.val k, val := v } := by rw [Array.toList_modify, ChangeMaps.modify_eq_set _ _ _ _ g2]
    refine ⟨_, _, ρ, key { w with heap := w.heap.setIfInBounds b (.map (es.modify j (fun e' => { e' with key := D.val k, val := v })) ck) } ?_, iR hr (hc _) hX ⟨b, _, _, k2.1, hob _, ?_, ?_⟩ (hown _ _), rfl⟩
    · simp [Instr.mapUpdate, run_underlying ht, MapKept.run_getObj_map h2, D.chk, hfd, hj, g3, D.stay, MapKept.run_setObj_map _ h2, Result.andThen]
    · rw [g6, hlist]
      simp only [List.map_set]
      exact (LRel.up (up _) h3).set ((D.rel _ _ _ _ _).2 rfl)
    · rw [g6, hlist]
      simp only [List.map_set]
      exact (LRel.up (up _) h4).set (VRel.up (up _) hv0)
end
end Go.Proofs.Ytiknldgpnhikhaa
namespace Go.Proofs.Ytiknldgpnhikhaa
open Go.RowKit Lx Sx
section
variable {P : Program} {T : Tab} {K : Ctx} {Q : Exit → Act → World → Prop} {p : EP} {s : List EI} {n : Nat} {F F1 : Fm} {H H1 : Hp} {α β : Type} [DecidableEq α] {enc : α → V} {kt : TypeId}
theorem dMM {t : TypeId} {ty : TypeId} (kt et : TypeId) : ∀ S w ρ a, HRel S w ρ H.get → FRel S w ρ a n F → Does P S w ρ H.get a ty (.makeMap t none) (some (.sl H.nx)) ((ED.new (.mp kt et [] [])).app H.get H.nx) (ED.new (.mp kt et [] [])).tch := fun S w ρ a hr hF =>
  e_mkMap hr H.get_free
theorem lY (D : KeyT P kt α enc) {encV : β → V} {t et : TypeId} {x y : Operand} {id : Nat} {k : α} {l : List (α × β)} {c : Bool} {zv v : V} {z : Value} {ty : TypeId} (hq : mlook k l = none) (ht : P.underlying t = some (.map kt et)) (hz : ∀ w, (zeroValue et).run P w = .ok z w) (hzv : zEq z zv = true) (hx : an F x = some (.sl id)) (hy : an F y = some (enc k)) (ho : H.get id = .mp kt et (l.map fun p => enc p.1) (l.map fun p => encV p.2)) (hv : (match c with | true => V.tup [zv, .bool false] | false => zv) = v) :
    ∀ S w ρ a, HRel S w ρ H.get → FRel S w ρ a n F → Does P S w ρ H.get a ty (.lookup t x y c) (some v) (ED.nop.app H.get H.nx) ED.nop.tch := fun S w ρ a hr hF => by
  have := nz (ty := ty) (c := c) (zv := zv) D hr hF.fr (ae hF hx) (ae hF hy) ho ht (hz w) (lV hzv)
  rw [hq] at this
  subst hv
  exact this
theorem mm (D : KeyT P kt α enc) {encV : β → V} {t et : TypeId} {x y : Operand} {id : Nat} {k : α} {l : List (α × β)} {c : Bool} {v : V} {z : Value} {ty : TypeId} {d : β} {zv : V} (hq : mlook k l = some d) (ht : P.underlying t = some (.map kt et)) (hz : ∀ w, (zeroValue et).run P w = .ok z w) (hzv : zEq z zv = true) (hx : an F x = some (.sl id)) (hy : an F y = some (enc k)) (ho : H.get id = .mp kt et (l.map fun p => enc p.1) (l.map fun p => encV p.2)) (hv : (match c with | true => V.tup [encV d, .bool true] | false => encV d) = v) :
    ∀ S w ρ a, HRel S w ρ H.get → FRel S w ρ a n F → Does P S w ρ H.get a ty (.lookup t x y c) (some v) (ED.nop.app H.get H.nx) ED.nop.tch := fun S w ρ a hr hF => by
  have := nz (ty := ty) (c := c) (zv := zv) D hr hF.fr (ae hF hx) (ae hF hy) ho ht (hz w) (lV hzv)
  rw [hq] at this
  subst hv
  exact this
theorem qr (D : KeyT P kt α enc) {encV : β → V} {t et : TypeId} {x y z : Operand} {id : Nat} {k : α} {d : β} {l : List (α × β)} {v : V} {ty : TypeId} {ks vs : List V} (ht : P.underlying t = some (.map kt et)) (hx : an F x = some (.sl id)) (hy : an F y = some (enc k)) (hz : an F z = some v) (hv : v = encV d) (hp : v.pure = true) (ho : H.get id = .mp kt et (l.map fun p => enc p.1) (l.map fun p => encV p.2)) (hk : ((mput k d l).map fun p => enc p.1) = ks) (hvs : ((mput k d l).map fun p => encV p.2) = vs) :
    ∀ S w ρ a, HRel S w ρ H.get → FRel S w ρ a n F → Does P S w ρ H.get a ty (.mapUpdate t x y z) none ((ED.set id (.mp kt et ks vs)).app H.get H.nx) (ED.set id (.mp kt et ks vs)).tch := fun S w ρ a hr hF => by
  subst hv hk hvs
  exact so D hr hF.fr (ae hF hx) (ae hF hy) (ae hF hz) hp ho ht
theorem okM {kt et : TypeId} {ks vs : List V} {id : Nat} {o' : Ob} (ho : H.get id = .mp kt et ks vs) : (ED.set id o').ok H.get := by exact ⟨by rw [ho]; simp, by rw [ho]; simp⟩
theorem gHM {kt et : TypeId} {ks vs : List V} (id : Nat) (ks' vs' : List V) (ho : H.get id = .mp kt et ks vs) (h1 : ks = ks') (h2 : vs = vs') (h3 : H.ap (.set id (.mp kt et ks' vs')) _root_.id = H1) (k : Go P K Q p s n F H1) : Go P K Q p s n F H := by
  subst h1 h2
  rw [Hp.ap_eq] at h3; subst h3
  have hg : (H.app (.set id (.mp kt et ks vs))).get = H.get := by
    rw [Hp.get_app (by exact ⟨by rw [ho]; simp, by rw [ho]; simp⟩)]
    exact l6 ho
  intro S w ρ a hr hi hF
  exact k S w ρ a (by rw [id_eq, hg]; exact hr) (by rw [id_eq, hg]; exact hi) hF
theorem tO {a b c d : Int} (h : (a == b && c == d) = true) : a = b ∧ c = d := by simpa using h
theorem tS {a b c d : Int} (h : (a == b && c == d) = false) : ¬ (a = b ∧ c = d) := fun ⟨e1, e2⟩ => by subst e1 e2; simp at h
theorem tP {neg : Bool} {f0 f1 : Field} {t u ty : TypeId} {x y : Operand} {a0 a1 b0 b1 : V} {x0 x1 y0 y1 : Value} {r0 r1 : Bool} (ht : P.underlying t = some (.struct #[f0, f1])) (hs : P.stoodInHeld t = false) (hm : P.eqGuardType P.depth t = false) (n0 : (f0.name != "_") = true) (n1 : (f1.name != "_") = true) (o0 : f0.offset = 0) (o1 : f1.offset = 1) (p0 : P.plainKey f0.type = true) (p1 : P.plainKey f1.type = true)
    (hx : an F x = some (.agg [a0, a1])) (hy : an F y = some (.agg [b0, b1])) (q0 : ∀ S w ρ z, VRel S w ρ a0 z → z = x0) (q1 : ∀ S w ρ z, VRel S w ρ a1 z → z = x1) (q2 : ∀ S w ρ z, VRel S w ρ b0 z → z = y0) (q3 : ∀ S w ρ z, VRel S w ρ b1 z → z = y1)
    (h0 : ∀ w, (Op.equalIn 9999 f0.type x0 y0).run P w = .ok r0 w) (h1 : ∀ w, (Op.equalIn 9999 f1.type x1 y1).run P w = .ok r1 w) :
    ∀ S w ρ a, HRel S w ρ H.get → FRel S w ρ a n F → Yld P S w ρ a ty (.binOp (if neg then .neq else .eql) t x y u) (.bool (if neg then !(r0 && r1) else (r0 && r1))) := fun S w ρ a hr hF => by
  obtain ⟨v, k1, k2⟩ := ae hF hx
  obtain ⟨v', k3, k4⟩ := ae hF hy
  simp only [VRel, LRel] at k2 k4
  obtain ⟨xs, rfl, z0, _, rfl, m0, z1, _, rfl, m1, rfl⟩ := k2
  obtain ⟨ys, rfl, z2, _, rfl, m2, z3, _, rfl, m3, rfl⟩ := k4
  rw [q0 _ _ _ _ m0, q1 _ _ _ _ m1] at k1
  rw [q2 _ _ _ _ m2, q3 _ _ _ _ m3] at k3
  refine ⟨.bool (if neg then !(r0 && r1) else (r0 && r1)), by simp only [VRel], fun w' _ _ _ _ _ => ?_⟩
  have he := fun w => kR (w := w) ht hs n0 n1 o0 o1 p0 p1 (h0 w) (h1 w)
  have he' : ∀ w, (Op.equalIn 10000 t (.agg #[x0, x1]) (.agg #[y0, y1])).run P w = .ok (r0 && r1) w := he
  simp only [execOp, hF.fr.eval k1, hF.fr.eval k3]
  cases neg
  · simp [run_eqGuard_agg _ _ _ _ _ _ _ hm, run_eql_struct, he', Result.andThen]
  · simp [run_eqGuard_agg _ _ _ _ _ _ _ hm, run_neq_struct, he', Result.andThen]
theorem qI {k : IntKind} {z : Int} : ∀ S w ρ x, VRel S w ρ (.int k z) x → x = Value.int k z := fun S w ρ x h => by simpa only [VRel] using h
theorem eI {t : TypeId} {a b : Int} (h : P.underlying t = some (.int .i64)) : ∀ w, (Op.equalIn 9999 t (.int .i64 a) (.int .i64 b)).run P w = .ok (a == b) w := fun w => run_equalIn_int w 9998 t _ _ a b h
section
variable {t e u ty : TypeId} {x : Operand}
end
end
end Go.Proofs.Ytiknldgpnhikhaa
namespace Go.Proofs.Ytiknldgpnhikhaa
open Go.RowKit Lx Sx
section
variable {P : Program} {T : Tab} {n : Nat} {F : Fm} {H : Hp}
theorem yMn {ty : TypeId} : ∀ S w ρ a, HRel S w ρ H.get → FRel S w ρ a n F → Yld P S w ρ a ty (.assign (.const (.map none))) (.raw (.map none)) := fun S w ρ a hr hF =>
  ⟨.map none, by simp only [VRel]; exact ⟨trivial, rfl⟩, fun w' _ _ _ _ _ => by simp only [execOp, hF.fr.eval (x := .const (.map none)) rfl]; rfl⟩
theorem n3 {m : Int} (h : 0 ≤ m ∧ m ≤ 255) : IntKind.u8.wrap m = m := by
  simp only [IntKind.wrap, IntKind.bits, IntKind.signed]
  simp
  omega
theorem tg {f : Nat → Option Value} {a : Act} {w : World} {src dst e' ty : TypeId} {x : Operand} {g cap : Nat} {m : Int} (h : Fr a n f) (hs : P.underlying src = some (.slice e')) (he : P.underlying e' = some (.int .u8)) (hd : P.underlying dst = some .string) (hx : am f x = some (.slice (some ⟨g, 0, none⟩) 1 cap)) (hc : w.cell? ⟨g, 0, none⟩ = some (.int .u8 m)) : Runs P a ty (.convert src dst x) w (.value (.string ⟨#[UInt8.ofNat m.toNat]⟩)) w := fun _ _ _ _ => by
  have := run_convert_bytes_arg (P := P) w src e' hs he g 0 1 cap [m] rfl (fun i hi => by
    obtain rfl : i = 0 := by omega
    exact hc) dst hd
  simp only [execOp, h.eval hx]
  simp [this, strOfNums]
theorem dCb {src dst e e' ty : TypeId} {x : Operand} {id : Nat} {m : Int} (hs : P.underlying src = some (.slice e')) (he : P.underlying e' = some (.int .u8)) (hd : P.underlying dst = some .string) (hx : an F x = some (.sl id)) (ho : H.get id = .row e 1 [.int .u8 m]) :
    ∀ S w ρ a, HRel S w ρ H.get → FRel S w ρ a n F → Does P S w ρ H.get a ty (.convert src dst x) (some (.str [UInt8.ofNat m.toNat])) (ED.nop.app H.get H.nx) ED.nop.tch := fun S w ρ a hr hF => by
  obtain ⟨u, k1, k2⟩ := ae hF hx
  simp only [VRel] at k2
  obtain ⟨u', xs, h1, h2, h3⟩ := dn hr ho
  rw [k2.1] at h1
  cases h1
  simp only [CRel] at h3
  obtain ⟨z, zs, hz, hzs, rfl, rfl⟩ := h3
  rcases h2.2 with ⟨_, h0⟩ | ⟨g, cap, cur, rfl, hb, hg, h4, h5, h6, h7⟩
  · cases h0
  have hc := fF h2 (j := 0) (Nat.lt_of_lt_of_eq Nat.zero_lt_one rfl)
  have hc' : w.cell? ⟨g, 0, none⟩ = some (.int .u8 m) := by rw [hc, hz]; rfl
  exact ⟨_, w, ρ, tg hF.fr hs he hd k1 hc', Eff.refl hr, _, rfl, by simp only [VRel]⟩
end
end Go.Proofs.Ytiknldgpnhikhaa
namespace Go.Proofs.Ytiknldgpnhikhaa
open Go.RowKit Lx Sx
set_option maxRecDepth 100000
set_option maxHeartbeats 4000000
structure GTypesAlias where
  module : Int
  def_ : Int
abbrev GTypesAlias.c (x : GTypesAlias) : List V := [.int .i64 x.module, .int .i64 x.def_]
abbrev GTypesAlias.w (x : GTypesAlias) : V := .agg x.c
def aG : KeyT Try.prog 44 (Int × Int) (fun x => V.agg [(V.int .i64 x.1), (V.int .i64 x.2)]) := tj (fun x => x.1) (fun x => x.2) (fun x y h1 h2 => Prod.ext h1 h2) Try.underlying44 (by kernel_rfl) (by decide) (by decide) rfl rfl Try.underlying3 Try.underlying3
def dC (p0 : Tree) (r0 : Tree) (r1 : Int) : Prop := aI Try.prog 12 [.agg (aQ p0)] (.tup [.agg (aQ r0), .int .i64 r1])
def cZ (p0 : (List Tree)) (r0 : Bool) : Prop := aI Try.prog 10 [.row 4 (kidsV p0)] (.bool r0)
def dd (p0 : (List Tree)) (r0 : (List ((Int × Int) × GTypesAlias))) : Prop := eG [] Try.prog 14 [.row 4 (kidsV p0)] ⟨0, []⟩ (fun u G => u = .sl 0 ∧ G = ⟨1, [(0, .mp 44 44 (List.map (fun p => (fun x => V.agg [(V.int .i64 x.1), (V.int .i64 x.2)]) p.1) r0) (List.map (fun p => GTypesAlias.w p.2) r0))]⟩)
def bY (p0 : (List Tree)) (p1 : Int) (p2 : Tree) (r0 : Tree) (r1 : Int) : Prop := aI Try.prog 7 [.row 4 (kidsV p0), .int .i64 p1, .agg (aQ p2)] (.tup [.agg (aQ r0), .int .i64 r1])
def aT (p0 : (List Tree)) (p1 : Int) (p2 : Int) (r0 : Bool) : Prop := aI Try.prog 9 [.row 4 (kidsV p0), .int .i64 p1, .int .i64 p2] (.bool r0)
def dr (m : Nat) (t1v1 : Tree) (i1v2 : Nat) (r0 : Tree) (r1 : Int) : Prop := ∀ (K : Ctx) (j1 : Nat), bk K [] → m ≤ j1 → Go Try.prog K (bodyPost Try.prog Try.f12 (SP K (fun u _ => u = .tup [.agg (aQ r0), .int .i64 r1]))) (.code (cL (cK (cA (cB (cB (aj Try.f12))))))) [.loop (cL (cK (cA (cB (cB (aj Try.f12)))))) j1, .blk 0, .seq (cB (cB (cB (aj Try.f12))))] 16 (mkF 16 0 [(1, .ptr 0 0), (2, .ptr 1 0), (4, .int .i64 ((i1v2 : Nat) : Int))]) ⟨2, [(1, .var 27 [.int .i64 0, .str [], .nils, .nils]), (0, .var 27 (aQ t1v1))]⟩
theorem kh (m : Nat) (p0 : Tree) (r0 : Tree) (r1 : Int) (h : dr m p0 0 r0 r1) : dC p0 r0 r1 := by
 refine ⟨rfl, rfl, ?_⟩
 refine ao 16 [] Try.func12 rfl rfl rfl (aL rfl) fun K hK => ?_
 refine gR 14 rfl ?_
 refine go_loop m ?_
 exact gJ (h K _ hK (by omega)) [0, 1] [] rfl hK ⟨⟨_, rfl, .rfl⟩, ⟨_, rfl, .rfl⟩, ⟨_, rfl, .rfl⟩, trivial⟩ ⟨⟨_, rfl, ⟨rfl, ai.rfl⟩⟩, ⟨⟨_, rfl, ⟨rfl, ai.rfl⟩⟩, trivial⟩⟩ rfl
theorem gf (m : Nat) (t1v1 : Tree) (i1v2 : Nat) (r0 : Tree) (r1 : Int) (h : ((t1v1.kind = 8) → ∃ (t1_1 : Tree), t1v1.kids[0]? = some t1_1 ∧ i1v2 + 1 ≤ 9223372036854775807 ∧ dr m t1_1 (i1v2 + 1) r0 r1) ∧ ((t1v1.kind ≠ 8) → t1v1 = r0 ∧ ((i1v2 : Nat) : Int) = r1)) : dr (m + 1) t1v1 i1v2 r0 r1 := by
 intro K j1 hK hj1
 obtain ⟨j1, rfl⟩ : ∃ j, j1 = j + 1 := ⟨j1 - 1, by omega⟩
 refine gR 8 rfl ?_
 refine gB 7 rfl rfl rfl (fun hd => ?_) (fun hd => ?_)
 replace hd := (eq_of_beq hd)
 replace h := h.1 hd
 refine gR 8 rfl ?_
 obtain ⟨t1_1, hxt1_1, h⟩ := h
 refine gY (cc (aC hxt1_1) aa rfl rfl rfl rfl) rfl rfl ?_
 refine gR 6 rfl ?_
 obtain ⟨hb, h⟩ := h
 refine gR 1 rfl ?_
 refine gV 13 (.int .i64 ((i1v2 + 1 : Nat) : Int)) rfl (aO (by omega) (by omega)) rfl ?_
 refine gR 3 rfl ?_
 refine aH ?_
 exact gJ (h K _ hK (by omega)) [0, 1] [] rfl hK ⟨⟨_, rfl, .rfl⟩, ⟨_, rfl, .rfl⟩, ⟨_, rfl, .rfl⟩, trivial⟩ ⟨⟨_, rfl, ⟨rfl, ai.rfl⟩⟩, ⟨⟨_, rfl, ⟨rfl, ai.rfl⟩⟩, trivial⟩⟩ rfl
 replace hd := (ne_of_beq_false hd)
 replace h := h.2 hd
 refine gR 3 rfl ?_
 refine aK ?_
 refine gR 11 rfl ?_
 obtain ⟨rfl, rfl⟩ := h
 refine ab (F' := (mkF 16 0 [(2, .ptr 0 0), (3, .int .i64 ((i1v2 : Nat) : Int))])) (H' := ⟨1, [(0, .var 27 [.int .i64 t1v1.kind, .str t1v1.text, .row 1 (List.map V.str t1v1.leads), .row 4 (kidsV t1v1.kids)])]⟩) [1] [] rfl hK ⟨⟨_, rfl, .rfl⟩, ⟨_, rfl, .rfl⟩, trivial⟩ ⟨⟨_, rfl, ⟨rfl, ai.rfl⟩⟩, trivial⟩ rfl ?_
 exact ac aa (rs := [.cell 2 27, .tmp 3]) rfl rfl rfl
def cO (m : Nat) (p0 : (List Tree)) (i1v1 : Nat) (r0 : Bool) : Prop := ∀ (K : Ctx) (j1 : Nat), bk K [] → m ≤ j1 → Go Try.prog K (bodyPost Try.prog Try.f10 (SP K (fun u _ => u = .bool r0))) (.code (cL (cK (cB (cA (cB (aj Try.f10))))))) [.loop (cL (cK (cB (cA (cB (aj Try.f10)))))) j1, .blk 0, .seq (cB (cB (aj Try.f10)))] 20 (mkF 20 0 [(5, .row 4 (kidsV p0)), (6, .int .i64 ((p0.length : Nat) : Int)), (7, .int .i64 ((i1v1 : Nat) : Int))]) ⟨0, []⟩
theorem i2 (m : Nat) (p0 : (List Tree)) (r0 : Bool) (h : cO m p0 0 r0) : cZ p0 r0 := by
 refine ⟨rfl, rfl, ?_⟩
 refine ao 20 [] Try.func10 rfl rfl rfl (aL rfl) fun K hK => ?_
 refine gR 10 rfl ?_
 refine gV 6 (.int .i64 ((p0.length : Nat) : Int)) rfl (cD (bi _)) rfl ?_
 refine gLB 5 rfl (bi _) fun hl5 => ?_
 refine gR 4 rfl ?_
 refine go_loop m ?_
 exact gJ (h K _ hK (by omega)) [] [] rfl hK ⟨⟨_, rfl, .rfl⟩, ⟨_, rfl, .rfl⟩, ⟨_, rfl, .rfl⟩, trivial⟩ trivial rfl
theorem fi (m : Nat) (p0 : (List Tree)) (i1v1 : Nat) (r0 : Bool) (h : ((i1v1 < p0.length) → ∃ (t1_1 : Tree), p0[i1v1]? = some t1_1 ∧ ((t1_1.kind ≠ 1) → false = r0) ∧ ((t1_1.kind = 1) → ∃ (b1_2 : Bool), bN t1_1 b1_2 ∧ ((b1_2 = false) → false = r0) ∧ ((b1_2 = true) → i1v1 + 1 ≤ 9223372036854775807 ∧ cO m p0 (i1v1 + 1) r0))) ∧ ((¬ i1v1 < p0.length) → true = r0)) : cO (m + 1) p0 i1v1 r0 := by
 intro K j1 hK hj1
 obtain ⟨j1, rfl⟩ : ∃ j, j1 = j + 1 := ⟨j1 - 1, by omega⟩
 refine gR 6 rfl ?_
 refine gB 8 rfl rfl rfl (fun hd => ?_) (fun hd => ?_)
 replace hd := (gZ hd)
 replace h := h.1 hd
 refine gR 7 rfl ?_
 obtain ⟨t1_1, hxt1_1, h⟩ := h
 refine gY (cc (aC hxt1_1) aa rfl rfl rfl rfl) rfl rfl ?_
 refine gR 11 rfl ?_
 refine gB 14 rfl rfl rfl (fun hd => ?_) (fun hd => ?_)
 refine gT 13 rfl hd rfl ?_
 replace hd := (gP hd)
 replace h := h.1 hd
 refine gR 15 rfl ?_
 refine aS ?_
 refine gR 2 rfl ?_
 subst h
 refine ab (F' := (mkF 20 0 [(2, .bool false)])) (H' := ⟨0, []⟩) [] [] rfl hK ⟨⟨_, rfl, .rfl⟩, trivial⟩ trivial rfl ?_
 exact ac aa (rs := [.tmp 2]) rfl rfl rfl
 refine gF 13 rfl hd rfl ?_
 replace hd := (fw hd)
 replace h := h.2 hd
 refine gR 1 rfl ?_
 obtain ⟨b1_2, hs6, h⟩ := h
 refine gC0 hs6 (by kernel_rfl) rfl rfl .rfl rfl ?_
 refine gR 4 rfl ?_
 refine gB 18 rfl rfl rfl (fun hd => ?_) (fun hd => ?_)
 replace hd := (c7 hd)
 replace h := h.1 hd
 refine gR 9 rfl ?_
 refine aS ?_
 refine gR 2 rfl ?_
 subst h
 refine ab (F' := (mkF 20 0 [(2, .bool false)])) (H' := ⟨0, []⟩) [] [] rfl hK ⟨⟨_, rfl, .rfl⟩, trivial⟩ trivial rfl ?_
 exact ac aa (rs := [.tmp 2]) rfl rfl rfl
 replace hd := (cW hd)
 replace h := h.2 hd
 refine gR 5 rfl ?_
 obtain ⟨hb, h⟩ := h
 refine gR 1 rfl ?_
 refine gV 19 (.int .i64 ((i1v1 + 1 : Nat) : Int)) rfl (aO (by omega) (by omega)) rfl ?_
 refine gR 2 rfl ?_
 refine aH ?_
 exact gJ (h K _ hK (by omega)) [] [] rfl hK ⟨⟨_, rfl, .rfl⟩, ⟨_, rfl, .rfl⟩, ⟨_, rfl, .rfl⟩, trivial⟩ trivial rfl
 replace hd := (gQ hd)
 replace h := h.2 hd
 refine gR 3 rfl ?_
 refine aK ?_
 refine gR 8 rfl ?_
 subst h
 refine ab (F' := (mkF 20 0 [(2, .bool true)])) (H' := ⟨0, []⟩) [] [] rfl hK ⟨⟨_, rfl, .rfl⟩, trivial⟩ trivial rfl ?_
 exact ac aa (rs := [.tmp 2]) rfl rfl rfl
def bF (m : Nat) (p0 : (List Tree)) (r0_1 : (List GTarget)) (l1v1 : (List ((Int × Int) × GTypesAlias))) (i1v2 : Nat) (r0 : (List ((Int × Int) × GTypesAlias))) : Prop := ∀ (K : Ctx) (j1 : Nat), bk K [] → m ≤ j1 → Go Try.prog K (bodyPost Try.prog Try.f14 (SP K (fun u G => u = .sl 0 ∧ G = ⟨1, [(0, .mp 44 44 (List.map (fun p => (fun x => V.agg [(V.int .i64 x.1), (V.int .i64 x.2)]) p.1) r0) (List.map (fun p => GTypesAlias.w p.2) r0))]⟩))) (.code (cL (cK (cB (cA (cB (cB (aj Try.f14)))))))) [.loop (cL (cK (cB (cA (cB (cB (aj Try.f14))))))) j1, .blk 0, .seq (cB (cB (cB (aj Try.f14))))] 50 (mkF 50 0 [(0, .row 4 (kidsV p0)), (3, .sl 0), (9, .row 5 (List.map GTarget.w r0_1)), (10, .int .i64 ((r0_1.length : Nat) : Int)), (11, .int .i64 ((i1v2 : Nat) : Int))]) ⟨1, [(0, .mp 44 44 (List.map (fun p => (fun x => V.agg [(V.int .i64 x.1), (V.int .i64 x.2)]) p.1) l1v1) (List.map (fun p => GTypesAlias.w p.2) l1v1))]⟩
theorem ja (m : Nat) (p0 : (List Tree)) (r0 : (List ((Int × Int) × GTypesAlias))) (h : ∃ (r0_1 : (List GTarget)), eN p0 r0_1 ∧ bF m p0 r0_1 ([] : (List ((Int × Int) × GTypesAlias))) 0 r0) : dd p0 r0 := by
 refine ao 50 [] Try.func14 rfl rfl rfl (aL rfl) fun K hK => ?_
 refine gR 2 rfl ?_
 refine gY (yMn) rfl rfl ?_
 refine gR 4 rfl ?_
 refine gDo (.new (.mp 44 44 [] [])) (dMM 44 44) trivial rfl rfl rfl ?_
 refine gHM 0 (List.map (fun p => (fun x => V.agg [(V.int .i64 x.1), (V.int .i64 x.2)]) p.1) ([] : (List ((Int × Int) × GTypesAlias)))) (List.map (fun p => GTypesAlias.w p.2) ([] : (List ((Int × Int) × GTypesAlias)))) rfl rfl rfl rfl ?_
 refine gR 7 rfl ?_
 obtain ⟨r0_1, hs5, h⟩ := h
 refine gC0 hs5 (by kernel_rfl) rfl rfl .rfl rfl ?_
 refine gR 1 rfl ?_
 refine gV 10 (.int .i64 ((r0_1.length : Nat) : Int)) rfl (cD (eD GTarget.w _)) rfl ?_
 refine gLB 9 rfl (eD GTarget.w _) fun hl6 => ?_
 refine gR 4 rfl ?_
 refine go_loop m ?_
 exact gJ (h K _ hK (by omega)) [0] [] rfl hK ⟨⟨_, rfl, .rfl⟩, ⟨_, rfl, .rfl⟩, ⟨_, rfl, .rfl⟩, ⟨_, rfl, .rfl⟩, ⟨_, rfl, .rfl⟩, trivial⟩ ⟨⟨_, rfl, ⟨rfl, rfl, rfl, rfl⟩⟩, trivial⟩ rfl
theorem fj (m : Nat) (p0 : (List Tree)) (r0_1 : (List GTarget)) (l1v1 : (List ((Int × Int) × GTypesAlias))) (i1v2 : Nat) (r0 : (List ((Int × Int) × GTypesAlias))) (h : ((i1v2 < r0_1.length) → ∃ (x1_1 : GTarget), r0_1[i1v2]? = some x1_1 ∧ ∃ (n1_2 : Int), x1_1.Use.Path[0]? = some n1_2 ∧ ((x1_1.Free = false) → ∃ (k1_3 : Nat), x1_1.Use.Module = ((k1_3 : Nat) : Int) ∧ ∃ (t1_4 : Tree), p0[k1_3]? = some t1_4 ∧ ∃ (k1_5 : Nat), n1_2 = ((k1_5 : Nat) : Int) ∧ ∃ (t1_6 : Tree), t1_4.kids[k1_5]? = some t1_6 ∧ ((t1_6.kind = 3) → i1v2 + 1 ≤ 9223372036854775807 ∧ bF m p0 r0_1 (mput (x1_1.Use.Module, n1_2) (GTypesAlias.mk x1_1.Module x1_1.Def) l1v1) (i1v2 + 1) r0) ∧ ((t1_6.kind ≠ 3) → i1v2 + 1 ≤ 9223372036854775807 ∧ bF m p0 r0_1 l1v1 (i1v2 + 1) r0)) ∧ ((x1_1.Free = true) → i1v2 + 1 ≤ 9223372036854775807 ∧ bF m p0 r0_1 l1v1 (i1v2 + 1) r0)) ∧ ((¬ i1v2 < r0_1.length) → l1v1 = r0)) : bF (m + 1) p0 r0_1 l1v1 i1v2 r0 := by
 intro K j1 hK hj1
 obtain ⟨j1, rfl⟩ : ∃ j, j1 = j + 1 := ⟨j1 - 1, by omega⟩
 refine gR 6 rfl ?_
 refine gB 12 rfl rfl rfl (fun hd => ?_) (fun hd => ?_)
 replace hd := (gZ hd)
 replace h := h.1 hd
 refine gR 7 rfl ?_
 obtain ⟨x1_1, hxx1_1, h⟩ := h
 refine gY (cc (mapget (f := GTarget.w) hxx1_1) aa rfl rfl rfl rfl) rfl rfl ?_
 refine gR 10 rfl ?_
 obtain ⟨n1_2, hxn1_2, h⟩ := h
 refine gY (cc (mapget (f := (V.int .i64)) hxn1_2) aa rfl rfl rfl rfl) rfl rfl ?_
 refine gR 10 rfl ?_
 refine gB 23 rfl rfl rfl (fun hd => ?_) (fun hd => ?_)
 refine gT 22 rfl hd rfl ?_
 replace hd := (c7 hd)
 replace h := h.1 hd
 refine gR 4 rfl ?_
 obtain ⟨k1_3, ek1_3, h⟩ := h
 refine gV 27 (.int .i64 ((k1_3 : Nat) : Int)) rfl (eT ek1_3) rfl ?_
 obtain ⟨t1_4, hxt1_4, h⟩ := h
 refine gY (cc (aC hxt1_4) aa rfl rfl rfl rfl) rfl rfl ?_
 refine gR 3 rfl ?_
 obtain ⟨k1_5, ek1_5, h⟩ := h
 refine gV 31 (.int .i64 ((k1_5 : Nat) : Int)) rfl (eT ek1_5) rfl ?_
 obtain ⟨t1_6, hxt1_6, h⟩ := h
 refine gY (cc (aC hxt1_6) aa rfl rfl rfl rfl) rfl rfl ?_
 refine gR 6 rfl ?_
 refine gB 36 rfl rfl rfl (fun hd => ?_) (fun hd => ?_)
 replace hd := (eq_of_beq hd)
 replace h := h.1 hd
 refine gR 13 rfl ?_
 refine gDo (.set 0 (.mp 44 44 (List.map (fun p => (fun x => V.agg [(V.int .i64 x.1), (V.int .i64 x.2)]) p.1) (mput (x1_1.Use.Module, n1_2) (GTypesAlias.mk x1_1.Module x1_1.Def) l1v1)) (List.map (fun p => GTypesAlias.w p.2) (mput (x1_1.Use.Module, n1_2) (GTypesAlias.mk x1_1.Module x1_1.Def) l1v1)))) (qr aG (encV := GTypesAlias.w) (k := (x1_1.Use.Module, n1_2)) (d := (GTypesAlias.mk x1_1.Module x1_1.Def)) (l := l1v1) Try.underlying45 rfl rfl rfl rfl rfl rfl rfl rfl) (okM rfl) rfl rfl rfl ?_
 refine gR 4 rfl ?_
 obtain ⟨hb, h⟩ := h
 refine gR 1 rfl ?_
 refine gV 48 (.int .i64 ((i1v2 + 1 : Nat) : Int)) rfl (aO (by omega) (by omega)) rfl ?_
 refine gR 2 rfl ?_
 refine aH ?_
 exact gJ (h K _ hK (by omega)) [0] [] rfl hK ⟨⟨_, rfl, .rfl⟩, ⟨_, rfl, .rfl⟩, ⟨_, rfl, .rfl⟩, ⟨_, rfl, .rfl⟩, ⟨_, rfl, .rfl⟩, trivial⟩ ⟨⟨_, rfl, ⟨rfl, rfl, rfl, rfl⟩⟩, trivial⟩ rfl
 replace hd := (ne_of_beq_false hd)
 replace h := h.2 hd
 refine gR 5 rfl ?_
 obtain ⟨hb, h⟩ := h
 refine gR 1 rfl ?_
 refine gV 48 (.int .i64 ((i1v2 + 1 : Nat) : Int)) rfl (aO (by omega) (by omega)) rfl ?_
 refine gR 2 rfl ?_
 refine aH ?_
 exact gJ (h K _ hK (by omega)) [0] [] rfl hK ⟨⟨_, rfl, .rfl⟩, ⟨_, rfl, .rfl⟩, ⟨_, rfl, .rfl⟩, ⟨_, rfl, .rfl⟩, ⟨_, rfl, .rfl⟩, trivial⟩ ⟨⟨_, rfl, ⟨rfl, rfl, rfl, rfl⟩⟩, trivial⟩ rfl
 refine gF 22 rfl hd rfl ?_
 replace hd := (cW hd)
 replace h := h.2 hd
 refine gR 20 rfl ?_
 obtain ⟨hb, h⟩ := h
 refine gR 1 rfl ?_
 refine gV 48 (.int .i64 ((i1v2 + 1 : Nat) : Int)) rfl (aO (by omega) (by omega)) rfl ?_
 refine gR 2 rfl ?_
 refine aH ?_
 exact gJ (h K _ hK (by omega)) [0] [] rfl hK ⟨⟨_, rfl, .rfl⟩, ⟨_, rfl, .rfl⟩, ⟨_, rfl, .rfl⟩, ⟨_, rfl, .rfl⟩, ⟨_, rfl, .rfl⟩, trivial⟩ ⟨⟨_, rfl, ⟨rfl, rfl, rfl, rfl⟩⟩, trivial⟩ rfl
 replace hd := (gQ hd)
 replace h := h.2 hd
 refine gR 3 rfl ?_
 refine aK ?_
 refine gR 9 rfl ?_
 subst h
 refine ab (F' := (mkF 50 0 [(2, .sl 0)])) (H' := ⟨1, [(0, .mp 44 44 (List.map (fun p => (fun x => V.agg [(V.int .i64 x.1), (V.int .i64 x.2)]) p.1) l1v1) (List.map (fun p => GTypesAlias.w p.2) l1v1))]⟩) [0] [] rfl hK ⟨⟨_, rfl, .rfl⟩, trivial⟩ ⟨⟨_, rfl, ⟨rfl, rfl, rfl, rfl⟩⟩, trivial⟩ rfl ?_
 exact iK [] aa (rs := [.tmp 2]) rfl rfl ⟨rfl, rfl⟩
def a9 (m : Nat) (p0 : (List Tree)) (r0_8 : (List ((Int × Int) × GTypesAlias))) (t1v1 : Tree) (z1v2 : Int) (b1v3 : Bool) (z1v4 : Int) (z1v5 : Int) (l1v6 : (List ((Int × Int) × Bool))) (r0 : Tree) (r1 : Int) : Prop := ∀ (K : Ctx) (j1 : Nat), bk K [] → m ≤ j1 → Go Try.prog K (bodyPost Try.prog Try.f7 (SP K (fun u _ => u = .tup [.agg (aQ r0), .int .i64 r1]))) (.code (cL (cK (cB (cB (cB (cB (cT (cB (cA (cB (cB (cB (cB (aj Try.f7))))))))))))))) [.loop (cL (cK (cB (cB (cB (cB (cT (cB (cA (cB (cB (cB (cB (aj Try.f7)))))))))))))) j1, .blk 0, .seq (cB (cB (cB (cB (cB (aj Try.f7))))))] 118 (mkF 118 0 [(0, .row 4 (kidsV p0)), (6, .ptr 0 0), (8, .ptr 1 0), (9, .int .i64 z1v2), (12, .bool b1v3), (13, .ptr 2 0), (14, .sl 3), (15, .sl 4)]) ⟨5, [(4, .mp 44 4 (List.map (fun p => (fun x => V.agg [(V.int .i64 x.1), (V.int .i64 x.2)]) p.1) l1v6) (List.map (fun p => V.bool p.2) l1v6)), (3, .mp 44 44 (List.map (fun p => (fun x => V.agg [(V.int .i64 x.1), (V.int .i64 x.2)]) p.1) r0_8) (List.map (fun p => GTypesAlias.w p.2) r0_8)), (2, .var 44 [.int .i64 z1v4, .int .i64 z1v5]), (1, .var 27 (aQ t1v1)), (0, .var 27 [.int .i64 0, .str [], .nils, .nils])]⟩
def cn (m : Nat) (z2v1 : Int) (l2v2 : (List Tree)) (i2v3 : Nat) (z2v4 : Int) (r0 : Tree) (r1 : Int) : Prop := ∀ (K : Ctx) (j1 : Nat), bk K [] → m ≤ j1 → Go Try.prog K (bodyPost Try.prog Try.f7 (SP K (fun u _ => u = .tup [.agg (aQ r0), .int .i64 r1]))) (.code (cL (cK (cB (cA (cB (cB (cB (cB (cB (cB (aj Try.f7)))))))))))) [.loop (cL (cK (cB (cA (cB (cB (cB (cB (cB (cB (aj Try.f7))))))))))) j1, .blk 2, .seq (cB (cB (cB (cB (cB (cB (cB (aj Try.f7))))))))] 118 (mkF 118 0 [(6, .ptr 0 0), (17, .ptr 1 0), (110, .int .i64 z2v4), (111, .int .i64 ((i2v3 : Nat) : Int))]) ⟨3, [(2, .row 27 4 (kidsV l2v2)), (1, .var 27 [.int .i64 z2v1, .str [], .nils, .sl 2]), (0, .var 27 [.int .i64 0, .str [], .nils, .nils])]⟩
def cX (m : Nat) (p0 : (List Tree)) (r0_8 : (List ((Int × Int) × GTypesAlias))) (t3v1 : Tree) (z3v2 : Int) (z3v3 : Int) (z3v4 : Int) (l3v5 : (List ((Int × Int) × Bool))) (r0 : Tree) (r1 : Int) : Prop := ∀ (K : Ctx) (j1 : Nat), bk K [] → m ≤ j1 → Go Try.prog K (bodyPost Try.prog Try.f7 (SP K (fun u _ => u = .tup [.agg (aQ r0), .int .i64 r1]))) (.code (cB (cB (cK (cB (cL (cK (cB (cB (cB (cB (cT (cB (cA (cB (cB (cB (cB (aj Try.f7))))))))))))))))))) [.blk 1, .loop (cL (cK (cB (cB (cB (cB (cT (cB (cA (cB (cB (cB (cB (aj Try.f7)))))))))))))) j1, .blk 0, .seq (cB (cB (cB (cB (cB (aj Try.f7))))))] 118 (mkF 118 0 [(0, .row 4 (kidsV p0)), (6, .ptr 0 0), (8, .ptr 1 0), (9, .int .i64 z3v2), (13, .ptr 2 0), (14, .sl 3), (15, .sl 4)]) ⟨5, [(4, .mp 44 4 (List.map (fun p => (fun x => V.agg [(V.int .i64 x.1), (V.int .i64 x.2)]) p.1) l3v5) (List.map (fun p => V.bool p.2) l3v5)), (3, .mp 44 44 (List.map (fun p => (fun x => V.agg [(V.int .i64 x.1), (V.int .i64 x.2)]) p.1) r0_8) (List.map (fun p => GTypesAlias.w p.2) r0_8)), (2, .var 44 [.int .i64 z3v3, .int .i64 z3v4]), (1, .var 27 (aQ t3v1)), (0, .var 27 [.int .i64 0, .str [], .nils, .nils])]⟩
theorem ef (m : Nat) (p0 : (List Tree)) (p1 : Int) (p2 : Tree) (r0 : Tree) (r1 : Int) (h : ∃ (b0_1 : Bool), cZ p0 b0_1 ∧ ((b0_1 = false) → (Tree.node 0 [] [] []) = r0 ∧ 5 = r1) ∧ ((b0_1 = true) → ((p1 < 0) → (Tree.node 0 [] [] []) = r0 ∧ 5 = r1) ∧ ((¬ p1 < 0) → ((((p0.length : Nat) : Int) ≤ p1) → (Tree.node 0 [] [] []) = r0 ∧ 5 = r1) ∧ ((¬ ((p0.length : Nat) : Int) ≤ p1) → ((p2.kind < 5) → (Tree.node 0 [] [] []) = r0 ∧ 5 = r1) ∧ ((¬ p2.kind < 5) → ((9 < p2.kind) → (Tree.node 0 [] [] []) = r0 ∧ 5 = r1) ∧ ((¬ 9 < p2.kind) → ∃ (b0_2 : Bool), bN p2 b0_2 ∧ ((b0_2 = false) → (Tree.node 0 [] [] []) = r0 ∧ 5 = r1) ∧ ((b0_2 = true) → ∃ (t0_3 : Tree), ∃ (n0_4 : Int), dC p2 t0_3 n0_4 ∧ ((t0_3.kind = 9) → ∃ (n0_5 : Int), ∃ (n0_6 : Int), ∃ (b0_7 : Bool), ff p0 p1 t0_3.text n0_5 n0_6 b0_7 ∧ ∃ (r0_8 : (List ((Int × Int) × GTypesAlias))), dd p0 r0_8 ∧ a9 m p0 r0_8 t0_3 n0_4 b0_7 n0_5 n0_6 ([] : (List ((Int × Int) × Bool))) r0 r1) ∧ ((t0_3.kind ≠ 9) → cn m t0_3.kind ([] : List Tree) 0 n0_4 r0 r1)))))))) : bY p0 p1 p2 r0 r1 := by
 refine ⟨rfl, rfl, ?_⟩
 refine ao 118 [] Try.func7 rfl rfl rfl (aL rfl) fun K hK => ?_
 refine gR 3 rfl ?_
 refine gFP 0 rfl rfl rfl rfl ?_
 refine gR 8 rfl ?_
 obtain ⟨b0_1, hs37, h⟩ := h
 refine gC0 hs37 (by kernel_rfl) rfl rfl .rfl rfl ?_
 refine gR 2 rfl ?_
 refine gB 21 rfl rfl rfl (fun hd => ?_) (fun hd => ?_)
 refine gT 20 rfl hd rfl ?_
 replace hd := (c7 hd)
 replace h := h.1 hd
 refine gR 21 rfl ?_
 obtain ⟨rfl, rfl⟩ := h
 refine ab (F' := (mkF 118 0 [(6, .ptr 0 0), (7, .int .i64 5)])) (H' := ⟨1, [(0, .var 27 [.int .i64 ((Tree.node 0 [] [] []).kind), .str ((Tree.node 0 [] [] []).text), .row 1 (List.map V.str ((Tree.node 0 [] [] []).leads)), .row 4 (kidsV ((Tree.node 0 [] [] []).kids))])]⟩) [1] [] rfl hK ⟨⟨_, rfl, .rfl⟩, ⟨_, rfl, .rfl⟩, trivial⟩ ⟨⟨_, rfl, ⟨rfl, (.cons .rfl (.cons .rfl (.cons (.nil 1) (.cons (.nil 4) .nil))))⟩⟩, trivial⟩ rfl ?_
 exact ac aa (rs := [.cell 6 27, .tmp 7]) rfl rfl rfl
 refine gF 20 rfl hd rfl ?_
 replace hd := (cW hd)
 replace h := h.2 hd
 refine gR 4 rfl ?_
 refine gB 25 rfl rfl rfl (fun hd => ?_) (fun hd => ?_)
 refine gT 24 rfl hd rfl ?_
 replace hd := (of_decide_eq_true hd)
 replace h := h.1 hd
 refine gR 17 rfl ?_
 obtain ⟨rfl, rfl⟩ := h
 refine ab (F' := (mkF 118 0 [(6, .ptr 0 0), (7, .int .i64 5)])) (H' := ⟨1, [(0, .var 27 [.int .i64 ((Tree.node 0 [] [] []).kind), .str ((Tree.node 0 [] [] []).text), .row 1 (List.map V.str ((Tree.node 0 [] [] []).leads)), .row 4 (kidsV ((Tree.node 0 [] [] []).kids))])]⟩) [1] [] rfl hK ⟨⟨_, rfl, .rfl⟩, ⟨_, rfl, .rfl⟩, trivial⟩ ⟨⟨_, rfl, ⟨rfl, (.cons .rfl (.cons .rfl (.cons (.nil 1) (.cons (.nil 4) .nil))))⟩⟩, trivial⟩ rfl ?_
 exact ac aa (rs := [.cell 6 27, .tmp 7]) rfl rfl rfl
 refine gF 24 rfl hd rfl ?_
 replace hd := (of_decide_eq_false hd)
 replace h := h.2 hd
 refine gR 3 rfl ?_
 refine gV 28 (.int .i64 ((p0.length : Nat) : Int)) rfl (cD (bi _)) rfl ?_
 refine gLB 27 rfl (bi _) fun hl38 => ?_
 refine gR 4 rfl ?_
 refine gB 30 rfl rfl rfl (fun hd => ?_) (fun hd => ?_)
 replace hd := (of_decide_eq_true hd)
 replace h := h.1 hd
 refine gR 10 rfl ?_
 obtain ⟨rfl, rfl⟩ := h
 refine ab (F' := (mkF 118 0 [(6, .ptr 0 0), (7, .int .i64 5)])) (H' := ⟨1, [(0, .var 27 [.int .i64 ((Tree.node 0 [] [] []).kind), .str ((Tree.node 0 [] [] []).text), .row 1 (List.map V.str ((Tree.node 0 [] [] []).leads)), .row 4 (kidsV ((Tree.node 0 [] [] []).kids))])]⟩) [1] [] rfl hK ⟨⟨_, rfl, .rfl⟩, ⟨_, rfl, .rfl⟩, trivial⟩ ⟨⟨_, rfl, ⟨rfl, (.cons .rfl (.cons .rfl (.cons (.nil 1) (.cons (.nil 4) .nil))))⟩⟩, trivial⟩ rfl ?_
 exact ac aa (rs := [.cell 6 27, .tmp 7]) rfl rfl rfl
 replace hd := (of_decide_eq_false hd)
 replace h := h.2 hd
 refine gR 10 rfl ?_
 refine gB 35 rfl rfl rfl (fun hd => ?_) (fun hd => ?_)
 refine gT 34 rfl hd rfl ?_
 replace hd := (of_decide_eq_true hd)
 replace h := h.1 hd
 refine gR 21 rfl ?_
 obtain ⟨rfl, rfl⟩ := h
 refine ab (F' := (mkF 118 0 [(6, .ptr 0 0), (7, .int .i64 5)])) (H' := ⟨1, [(0, .var 27 [.int .i64 ((Tree.node 0 [] [] []).kind), .str ((Tree.node 0 [] [] []).text), .row 1 (List.map V.str ((Tree.node 0 [] [] []).leads)), .row 4 (kidsV ((Tree.node 0 [] [] []).kids))])]⟩) [1] [] rfl hK ⟨⟨_, rfl, .rfl⟩, ⟨_, rfl, .rfl⟩, trivial⟩ ⟨⟨_, rfl, ⟨rfl, (.cons .rfl (.cons .rfl (.cons (.nil 1) (.cons (.nil 4) .nil))))⟩⟩, trivial⟩ rfl ?_
 exact ac aa (rs := [.cell 6 27, .tmp 7]) rfl rfl rfl
 refine gF 34 rfl hd rfl ?_
 replace hd := (of_decide_eq_false hd)
 replace h := h.2 hd
 refine gR 5 rfl ?_
 refine gB 40 rfl rfl rfl (fun hd => ?_) (fun hd => ?_)
 refine gT 39 rfl hd rfl ?_
 replace hd := (of_decide_eq_true hd)
 replace h := h.1 hd
 refine gR 16 rfl ?_
 obtain ⟨rfl, rfl⟩ := h
 refine ab (F' := (mkF 118 0 [(6, .ptr 0 0), (7, .int .i64 5)])) (H' := ⟨1, [(0, .var 27 [.int .i64 ((Tree.node 0 [] [] []).kind), .str ((Tree.node 0 [] [] []).text), .row 1 (List.map V.str ((Tree.node 0 [] [] []).leads)), .row 4 (kidsV ((Tree.node 0 [] [] []).kids))])]⟩) [1] [] rfl hK ⟨⟨_, rfl, .rfl⟩, ⟨_, rfl, .rfl⟩, trivial⟩ ⟨⟨_, rfl, ⟨rfl, (.cons .rfl (.cons .rfl (.cons (.nil 1) (.cons (.nil 4) .nil))))⟩⟩, trivial⟩ rfl ?_
 exact ac aa (rs := [.cell 6 27, .tmp 7]) rfl rfl rfl
 refine gF 39 rfl hd rfl ?_
 replace hd := (of_decide_eq_false hd)
 replace h := h.2 hd
 refine gR 1 rfl ?_
 obtain ⟨b0_2, hs39, h⟩ := h
 refine gC0 hs39 (by kernel_rfl) rfl rfl .rfl rfl ?_
 refine gR 4 rfl ?_
 refine gB 44 rfl rfl rfl (fun hd => ?_) (fun hd => ?_)
 replace hd := (c7 hd)
 replace h := h.1 hd
 refine gR 10 rfl ?_
 obtain ⟨rfl, rfl⟩ := h
 refine ab (F' := (mkF 118 0 [(6, .ptr 0 0), (7, .int .i64 5)])) (H' := ⟨1, [(0, .var 27 [.int .i64 ((Tree.node 0 [] [] []).kind), .str ((Tree.node 0 [] [] []).text), .row 1 (List.map V.str ((Tree.node 0 [] [] []).leads)), .row 4 (kidsV ((Tree.node 0 [] [] []).kids))])]⟩) [1] [] rfl hK ⟨⟨_, rfl, .rfl⟩, ⟨_, rfl, .rfl⟩, trivial⟩ ⟨⟨_, rfl, ⟨rfl, (.cons .rfl (.cons .rfl (.cons (.nil 1) (.cons (.nil 4) .nil))))⟩⟩, trivial⟩ rfl ?_
 exact ac aa (rs := [.cell 6 27, .tmp 7]) rfl rfl rfl
 replace hd := (cW hd)
 replace h := h.2 hd
 refine gR 6 rfl ?_
 obtain ⟨t0_3, n0_4, hs40, h⟩ := h
 refine gC0 hs40 (by kernel_rfl) rfl rfl .rfl rfl ?_
 refine gR 16 rfl ?_
 refine gB 53 rfl rfl rfl (fun hd => ?_) (fun hd => ?_)
 replace hd := (eq_of_beq hd)
 replace h := h.1 hd
 refine gR 7 rfl ?_
 obtain ⟨n0_5, n0_6, b0_7, hs41, h⟩ := h
 refine gC0 hs41 (by kernel_rfl) rfl rfl .rfl rfl ?_
 refine gR 9 rfl ?_
 refine ab (F' := (mkF 118 0 [(0, .row 4 (kidsV p0)), (6, .ptr 0 0), (8, .ptr 1 0), (9, .int .i64 n0_4), (10, .int .i64 n0_5), (11, .int .i64 n0_6), (12, .bool b0_7)])) (H' := ⟨2, [(1, .var 27 (aQ t0_3)), (0, .var 27 [.int .i64 0, .str [], .nils, .nils])]⟩) [1, 2] [] rfl hK ⟨⟨_, rfl, .rfl⟩, ⟨_, rfl, .rfl⟩, ⟨_, rfl, .rfl⟩, ⟨_, rfl, .rfl⟩, ⟨_, rfl, .rfl⟩, ⟨_, rfl, .rfl⟩, ⟨_, rfl, .rfl⟩, trivial⟩ ⟨⟨_, rfl, ⟨rfl, ai.rfl⟩⟩, ⟨⟨_, rfl, ⟨rfl, ai.rfl⟩⟩, trivial⟩⟩ rfl ?_
 refine gR 12 rfl ?_
 obtain ⟨r0_8, hs42, h⟩ := h
 refine gC hs42 [] (by kernel_rfl) rfl rfl .rfl trivial rfl ?_
 rintro _ _ ⟨rfl, rfl⟩
 refine gR 5 rfl ?_
 refine gDo (.new (.mp 44 4 [] [])) (dMM 44 4) trivial rfl rfl rfl ?_
 refine gHM 4 (List.map (fun p => (fun x => V.agg [(V.int .i64 x.1), (V.int .i64 x.2)]) p.1) ([] : (List ((Int × Int) × Bool)))) (List.map (fun p => V.bool p.2) ([] : (List ((Int × Int) × Bool)))) rfl rfl rfl rfl ?_
 refine gR 4 rfl ?_
 refine go_loop m ?_
 exact gJ (h K _ hK (by omega)) [0, 1, 2, 3, 4] [] rfl hK ⟨⟨_, rfl, .rfl⟩, ⟨_, rfl, .rfl⟩, ⟨_, rfl, .rfl⟩, ⟨_, rfl, .rfl⟩, ⟨_, rfl, .rfl⟩, ⟨_, rfl, .rfl⟩, ⟨_, rfl, .rfl⟩, ⟨_, rfl, .rfl⟩, trivial⟩ ⟨⟨_, rfl, ⟨rfl, rfl, rfl, rfl⟩⟩, ⟨⟨_, rfl, ⟨rfl, rfl, rfl, rfl⟩⟩, ⟨⟨_, rfl, ⟨rfl, ai.rfl⟩⟩, ⟨⟨_, rfl, ⟨rfl, ai.rfl⟩⟩, ⟨⟨_, rfl, ⟨rfl, ai.rfl⟩⟩, trivial⟩⟩⟩⟩⟩ rfl
 replace hd := (ne_of_beq_false hd)
 replace h := h.2 hd
 refine gR 12 rfl ?_
 refine ab (F' := (mkF 118 0 [(6, .ptr 0 0), (9, .int .i64 n0_4), (17, .ptr 1 0)])) (H' := ⟨2, [(1, .var 27 [.int .i64 t0_3.kind, .str [], .nils, .nils]), (0, .var 27 [.int .i64 0, .str [], .nils, .nils])]⟩) [1, 3] [] rfl hK ⟨⟨_, rfl, .rfl⟩, ⟨_, rfl, .rfl⟩, ⟨_, rfl, .rfl⟩, trivial⟩ ⟨⟨_, rfl, ⟨rfl, ai.rfl⟩⟩, ⟨⟨_, rfl, ⟨rfl, ai.rfl⟩⟩, trivial⟩⟩ rfl ?_
 refine gR 8 rfl ?_
 refine go_loop m ?_
 refine gNC 1 3 27 4 rfl rfl rfl rfl ?_
 exact gJ (h K _ hK (by omega)) [0, 1, 2] [] rfl hK ⟨⟨_, rfl, .rfl⟩, ⟨_, rfl, .rfl⟩, ⟨_, rfl, .rfl⟩, ⟨_, rfl, .rfl⟩, trivial⟩ ⟨⟨_, rfl, ⟨rfl, rfl, rfl⟩⟩, ⟨⟨_, rfl, ⟨rfl, ai.rfl⟩⟩, ⟨⟨_, rfl, ⟨rfl, ai.rfl⟩⟩, trivial⟩⟩⟩ rfl
theorem cP (m : Nat) (p0 : (List Tree)) (r0_8 : (List ((Int × Int) × GTypesAlias))) (t1v1 : Tree) (z1v2 : Int) (b1v3 : Bool) (z1v4 : Int) (z1v5 : Int) (l1v6 : (List ((Int × Int) × Bool))) (r0 : Tree) (r1 : Int) (h : ((t1v1.kind = 9) → ((b1v3 = false) → (Tree.node 0 [] [] []) = r0 ∧ 7 = r1) ∧ ((b1v3 = true) → ((mlook (z1v4, z1v5) l1v6 = none) → cX m p0 r0_8 t1v1 z1v2 z1v4 z1v5 l1v6 r0 r1) ∧ (∀ (d1_1 : Bool), mlook (z1v4, z1v5) l1v6 = some d1_1 → ((d1_1 = true) → (Tree.node 0 [] [] []) = r0 ∧ 19 = r1) ∧ ((d1_1 = false) → cX m p0 r0_8 t1v1 z1v2 z1v4 z1v5 l1v6 r0 r1)))) ∧ ((t1v1.kind ≠ 9) → cn m t1v1.kind ([] : List Tree) 0 z1v2 r0 r1)) : a9 (m + 1) p0 r0_8 t1v1 z1v2 b1v3 z1v4 z1v5 l1v6 r0 r1 := by
 intro K j1 hK hj1
 obtain ⟨j1, rfl⟩ : ∃ j, j1 = j + 1 := ⟨j1 - 1, by omega⟩
 refine gR 8 rfl ?_
 refine gB 71 rfl rfl rfl (fun hd => ?_) (fun hd => ?_)
 replace hd := (eq_of_beq hd)
 replace h := h.1 hd
 refine gR 11 rfl ?_
 refine gB 73 rfl rfl rfl (fun hd => ?_) (fun hd => ?_)
 replace hd := (c7 hd)
 replace h := h.1 hd
 refine gR 11 rfl ?_
 refine aS ?_
 refine gR 2 rfl ?_
 obtain ⟨rfl, rfl⟩ := h
 refine ab (F' := (mkF 118 0 [(6, .ptr 0 0), (7, .int .i64 7)])) (H' := ⟨1, [(0, .var 27 [.int .i64 ((Tree.node 0 [] [] []).kind), .str ((Tree.node 0 [] [] []).text), .row 1 (List.map V.str ((Tree.node 0 [] [] []).leads)), .row 4 (kidsV ((Tree.node 0 [] [] []).kids))])]⟩) [0] [] rfl hK ⟨⟨_, rfl, .rfl⟩, ⟨_, rfl, .rfl⟩, trivial⟩ ⟨⟨_, rfl, ⟨rfl, (.cons .rfl (.cons .rfl (.cons (.nil 1) (.cons (.nil 4) .nil))))⟩⟩, trivial⟩ rfl ?_
 exact ac aa (rs := [.cell 6 27, .tmp 7]) rfl rfl rfl
 replace hd := (cW hd)
 replace h := h.2 hd
 refine gR 8 rfl ?_
 rcases hq43 : mlook (z1v4, z1v5) l1v6 with _ | d1_1
 replace h := h.1 hq43
 refine gDo (v := some (.bool false)) (.nop) (lY aG (encV := V.bool) (k := (z1v4, z1v5)) (l := l1v6) (zv := .bool false) hq43 Try.underlying47 Try.zeroValue4 (by kernel_rfl) rfl rfl rfl rfl) trivial rfl rfl rfl ?_
 refine gR 5 rfl ?_
 exact gJ (h K _ hK (by omega)) [0, 1, 2, 3, 4] [] rfl hK ⟨⟨_, rfl, .rfl⟩, ⟨_, rfl, .rfl⟩, ⟨_, rfl, .rfl⟩, ⟨_, rfl, .rfl⟩, ⟨_, rfl, .rfl⟩, ⟨_, rfl, .rfl⟩, ⟨_, rfl, .rfl⟩, trivial⟩ ⟨⟨_, rfl, ⟨rfl, rfl, rfl, rfl⟩⟩, ⟨⟨_, rfl, ⟨rfl, rfl, rfl, rfl⟩⟩, ⟨⟨_, rfl, ⟨rfl, ai.rfl⟩⟩, ⟨⟨_, rfl, ⟨rfl, ai.rfl⟩⟩, ⟨⟨_, rfl, ⟨rfl, ai.rfl⟩⟩, trivial⟩⟩⟩⟩⟩ rfl
 replace h := h.2 d1_1 hq43
 refine gDo (v := some (.bool d1_1)) (.nop) (mm aG (encV := V.bool) (k := (z1v4, z1v5)) (l := l1v6) (zv := .bool false) hq43 Try.underlying47 Try.zeroValue4 (by kernel_rfl) rfl rfl rfl rfl) trivial rfl rfl rfl ?_
 refine gR 2 rfl ?_
 refine gB 77 rfl rfl rfl (fun hd => ?_) (fun hd => ?_)
 replace h := h.1 hd
 refine gR 11 rfl ?_
 refine aS ?_
 refine gR 2 rfl ?_
 obtain ⟨rfl, rfl⟩ := h
 refine ab (F' := (mkF 118 0 [(6, .ptr 0 0), (7, .int .i64 19)])) (H' := ⟨1, [(0, .var 27 [.int .i64 ((Tree.node 0 [] [] []).kind), .str ((Tree.node 0 [] [] []).text), .row 1 (List.map V.str ((Tree.node 0 [] [] []).leads)), .row 4 (kidsV ((Tree.node 0 [] [] []).kids))])]⟩) [0] [] rfl hK ⟨⟨_, rfl, .rfl⟩, ⟨_, rfl, .rfl⟩, trivial⟩ ⟨⟨_, rfl, ⟨rfl, (.cons .rfl (.cons .rfl (.cons (.nil 1) (.cons (.nil 4) .nil))))⟩⟩, trivial⟩ rfl ?_
 exact ac aa (rs := [.cell 6 27, .tmp 7]) rfl rfl rfl
 replace h := h.2 hd
 refine gR 3 rfl ?_
 exact gJ (h K _ hK (by omega)) [0, 1, 2, 3, 4] [] rfl hK ⟨⟨_, rfl, .rfl⟩, ⟨_, rfl, .rfl⟩, ⟨_, rfl, .rfl⟩, ⟨_, rfl, .rfl⟩, ⟨_, rfl, .rfl⟩, ⟨_, rfl, .rfl⟩, ⟨_, rfl, .rfl⟩, trivial⟩ ⟨⟨_, rfl, ⟨rfl, rfl, rfl, rfl⟩⟩, ⟨⟨_, rfl, ⟨rfl, rfl, rfl, rfl⟩⟩, ⟨⟨_, rfl, ⟨rfl, ai.rfl⟩⟩, ⟨⟨_, rfl, ⟨rfl, ai.rfl⟩⟩, ⟨⟨_, rfl, ⟨rfl, ai.rfl⟩⟩, trivial⟩⟩⟩⟩⟩ rfl
 replace hd := (ne_of_beq_false hd)
 replace h := h.2 hd
 refine gR 3 rfl ?_
 refine aK ?_
 refine gR 19 rfl ?_
 refine go_loop m ?_
 refine gNC 5 3 27 4 rfl rfl rfl rfl ?_
 exact gJ (h K _ hK (by omega)) [0, 5, 6] [] rfl hK ⟨⟨_, rfl, .rfl⟩, ⟨_, rfl, .rfl⟩, ⟨_, rfl, .rfl⟩, ⟨_, rfl, .rfl⟩, trivial⟩ ⟨⟨_, rfl, ⟨rfl, rfl, rfl⟩⟩, ⟨⟨_, rfl, ⟨rfl, ai.rfl⟩⟩, ⟨⟨_, rfl, ⟨rfl, ai.rfl⟩⟩, trivial⟩⟩⟩ rfl
theorem fJ (m : Nat) (z2v1 : Int) (l2v2 : (List Tree)) (i2v3 : Nat) (z2v4 : Int) (r0 : Tree) (r1 : Int) (h : ((((i2v3 : Nat) : Int) < z2v4) → i2v3 + 1 ≤ 9223372036854775807 ∧ cn m 8 [(Tree.node z2v1 [] [] l2v2)] (i2v3 + 1) z2v4 r0 r1) ∧ ((¬ ((i2v3 : Nat) : Int) < z2v4) → (Tree.node z2v1 [] [] l2v2) = r0 ∧ 0 = r1)) : cn (m + 1) z2v1 l2v2 i2v3 z2v4 r0 r1 := by
 intro K j1 hK hj1
 obtain ⟨j1, rfl⟩ : ∃ j, j1 = j + 1 := ⟨j1 - 1, by omega⟩
 refine gR 6 rfl ?_
 refine gB 112 rfl rfl rfl (fun hd => ?_) (fun hd => ?_)
 replace hd := (of_decide_eq_true hd)
 replace h := h.1 hd
 refine gR 7 rfl ?_
 refine gFR 2 rfl (gh _) rfl rfl ?_
 refine gS 113 (.agg [.int .i64 z2v1, .str [], .row 1 [], .row 4 (kidsV l2v2)]) rfl (.agg (.cons .rfl (.cons .rfl (.cons (.nil 1) (.cons .rfl .nil))))) rfl ?_
 refine gR 1 rfl ?_
 refine gHR 3 (kidsV [(Tree.node z2v1 [] [] l2v2)]) rfl (km (Tree.node z2v1 [] [] l2v2)) rfl ?_
 refine gR 6 rfl ?_
 obtain ⟨hb, h⟩ := h
 refine gR 1 rfl ?_
 refine gV 116 (.int .i64 ((i2v3 + 1 : Nat) : Int)) rfl (aO (by omega) (by omega)) rfl ?_
 refine gR 2 rfl ?_
 refine aH ?_
 exact gJ (h K _ hK (by omega)) [0, 1, 3] [] rfl hK ⟨⟨_, rfl, .rfl⟩, ⟨_, rfl, .rfl⟩, ⟨_, rfl, .rfl⟩, ⟨_, rfl, .rfl⟩, trivial⟩ ⟨⟨_, rfl, ⟨rfl, rfl, (gs _ [(Tree.node z2v1 [] [] l2v2)]).symm⟩⟩, ⟨⟨_, rfl, ⟨rfl, ai.rfl⟩⟩, ⟨⟨_, rfl, ⟨rfl, ai.rfl⟩⟩, trivial⟩⟩⟩ rfl
 replace hd := (of_decide_eq_false hd)
 replace h := h.2 hd
 refine gR 3 rfl ?_
 refine aK ?_
 refine gR 10 rfl ?_
 refine gFR 2 rfl (gh _) rfl rfl ?_
 obtain ⟨rfl, rfl⟩ := h
 refine ab (F' := (mkF 118 0 [(6, .ptr 0 0), (7, .int .i64 0)])) (H' := ⟨1, [(0, .var 27 [.int .i64 ((Tree.node z2v1 [] [] l2v2).kind), .str ((Tree.node z2v1 [] [] l2v2).text), .row 1 (List.map V.str ((Tree.node z2v1 [] [] l2v2).leads)), .row 4 (kidsV ((Tree.node z2v1 [] [] l2v2).kids))])]⟩) [0] [] rfl hK ⟨⟨_, rfl, .rfl⟩, ⟨_, rfl, .rfl⟩, trivial⟩ ⟨⟨_, rfl, ⟨rfl, (.cons .rfl (.cons .rfl (.cons (.nil 1) (.cons .rfl .nil))))⟩⟩, trivial⟩ rfl ?_
 exact ac aa (rs := [.cell 6 27, .tmp 7]) rfl rfl rfl
theorem rL2_types_Expand (m : Nat) (p0 : (List Tree)) (r0_8 : (List ((Int × Int) × GTypesAlias))) (t3v1 : Tree) (z3v2 : Int) (z3v3 : Int) (z3v4 : Int) (l3v5 : (List ((Int × Int) × Bool))) (r0 : Tree) (r1 : Int) (h : ∃ (k3_1 : Nat), z3v3 = ((k3_1 : Nat) : Int) ∧ ∃ (t3_2 : Tree), p0[k3_1]? = some t3_2 ∧ ∃ (k3_3 : Nat), z3v4 = ((k3_3 : Nat) : Int) ∧ ∃ (t3_4 : Tree), t3_2.kids[k3_3]? = some t3_4 ∧ ∃ (t3_5 : Tree), t3_4.kids[0]? = some t3_5 ∧ ∃ (t3_6 : Tree), ∃ (n3_7 : Int), dC t3_5 t3_6 n3_7 ∧ InI (z3v2 + n3_7) ∧ ((mlook (z3v3, z3v4) r0_8 = none) → a9 m p0 r0_8 t3_6 (z3v2 + n3_7) false 0 0 (mput (z3v3, z3v4) true l3v5) r0 r1) ∧ (∀ (d3_8 : GTypesAlias), mlook (z3v3, z3v4) r0_8 = some d3_8 → a9 m p0 r0_8 t3_6 (z3v2 + n3_7) true d3_8.module d3_8.def_ (mput (z3v3, z3v4) true l3v5) r0 r1)) : cX (m + 1) p0 r0_8 t3v1 z3v2 z3v3 z3v4 l3v5 r0 r1 := by
 intro K j1 hK hj1
 obtain ⟨j1, rfl⟩ : ∃ j, j1 = j + 1 := ⟨j1 - 1, by omega⟩
 refine gR 4 rfl ?_
 refine gDo (.set 4 (.mp 44 4 (List.map (fun p => (fun x => V.agg [(V.int .i64 x.1), (V.int .i64 x.2)]) p.1) (mput (z3v3, z3v4) true l3v5)) (List.map (fun p => V.bool p.2) (mput (z3v3, z3v4) true l3v5)))) (qr aG (encV := V.bool) (k := (z3v3, z3v4)) (d := true) (l := l3v5) Try.underlying47 rfl rfl rfl rfl rfl rfl rfl rfl) (okM rfl) rfl rfl rfl ?_
 refine gR 8 rfl ?_
 refine gDs [2] 17 19 rfl (by kernel_rfl) (by kernel_rfl) ?_
 refine gDr [(0, 2), (1, 2), (2, 3)] (by kernel_rfl) rfl rfl ?_
 obtain ⟨k3_1, ek3_1, h⟩ := h
 refine gV 84 (.int .i64 ((k3_1 : Nat) : Int)) rfl (eT ek3_1) rfl ?_
 obtain ⟨t3_2, hxt3_2, h⟩ := h
 refine gYd 3 rfl (by kernel_rfl) (cc (aC hxt3_2) aa rfl rfl rfl rfl) rfl rfl ?_
 refine gDr [(4, 2), (5, 2), (6, 0), (7, 0)] (by kernel_rfl) rfl rfl ?_
 obtain ⟨k3_3, ek3_3, h⟩ := h
 refine gV 89 (.int .i64 ((k3_3 : Nat) : Int)) rfl (eT ek3_3) rfl ?_
 obtain ⟨t3_4, hxt3_4, h⟩ := h
 refine r4 8 rfl (by kernel_rfl) (cc (aC hxt3_4) aa rfl rfl rfl rfl) rfl rfl ?_
 refine gDr [(9, 0), (10, 0)] (by kernel_rfl) rfl rfl ?_
 obtain ⟨t3_5, hxt3_5, h⟩ := h
 refine r4 11 rfl (by kernel_rfl) (cc (aC hxt3_5) aa rfl rfl rfl rfl) rfl rfl ?_
 refine gDr [(12, 0)] (by kernel_rfl) rfl rfl ?_
 obtain ⟨t3_6, n3_7, hs44, h⟩ := h
 refine sN 13 hs44 (by kernel_rfl) rfl (by kernel_rfl) rfl rfl .rfl rfl rfl ?_
 refine gDr [(14, 0), (15, 2), (16, 2), (17, 1), (18, 1)] (by kernel_rfl) rfl rfl ?_
 refine gDe (by kernel_rfl) ?_
 refine gR 5 rfl ?_
 obtain ⟨hb, h⟩ := h
 refine gR 1 rfl ?_
 refine gV 100 (.int .i64 (z3v2 + n3_7)) rfl (aO hb rfl) rfl ?_
 refine gR 6 rfl ?_
 rcases hq45 : mlook (z3v3, z3v4) r0_8 with _ | d3_8
 replace h := h.1 hq45
 refine gDo (v := some (.tup [.agg [.int .i64 0, .int .i64 0], .bool false])) (.nop) (lY aG (encV := GTypesAlias.w) (k := (z3v3, z3v4)) (l := r0_8) (zv := .agg [.int .i64 0, .int .i64 0]) hq45 Try.underlying45 Try.zeroValue44 (by kernel_rfl) rfl rfl rfl rfl) trivial rfl rfl rfl ?_
 refine gR 7 rfl ?_
 refine aH ?_
 exact gJ (h K _ hK (by omega)) [0, 1, 2, 3, 4] [] rfl hK ⟨⟨_, rfl, .rfl⟩, ⟨_, rfl, .rfl⟩, ⟨_, rfl, .rfl⟩, ⟨_, rfl, .rfl⟩, ⟨_, rfl, .rfl⟩, ⟨_, rfl, .rfl⟩, ⟨_, rfl, .rfl⟩, ⟨_, rfl, .rfl⟩, trivial⟩ ⟨⟨_, rfl, ⟨rfl, rfl, rfl, rfl⟩⟩, ⟨⟨_, rfl, ⟨rfl, rfl, rfl, rfl⟩⟩, ⟨⟨_, rfl, ⟨rfl, ai.rfl⟩⟩, ⟨⟨_, rfl, ⟨rfl, ai.rfl⟩⟩, ⟨⟨_, rfl, ⟨rfl, ai.rfl⟩⟩, trivial⟩⟩⟩⟩⟩ rfl
 replace h := h.2 d3_8 hq45
 refine gDo (v := some (.tup [.agg (GTypesAlias.c d3_8), .bool true])) (.nop) (mm aG (encV := GTypesAlias.w) (k := (z3v3, z3v4)) (l := r0_8) (zv := .agg [.int .i64 0, .int .i64 0]) hq45 Try.underlying45 Try.zeroValue44 (by kernel_rfl) rfl rfl rfl rfl) trivial rfl rfl rfl ?_
 refine gR 7 rfl ?_
 refine aH ?_
 exact gJ (h K _ hK (by omega)) [0, 1, 2, 3, 4] [] rfl hK ⟨⟨_, rfl, .rfl⟩, ⟨_, rfl, .rfl⟩, ⟨_, rfl, .rfl⟩, ⟨_, rfl, .rfl⟩, ⟨_, rfl, .rfl⟩, ⟨_, rfl, .rfl⟩, ⟨_, rfl, .rfl⟩, ⟨_, rfl, .rfl⟩, trivial⟩ ⟨⟨_, rfl, ⟨rfl, rfl, rfl, rfl⟩⟩, ⟨⟨_, rfl, ⟨rfl, rfl, rfl, rfl⟩⟩, ⟨⟨_, rfl, ⟨rfl, ai.rfl⟩⟩, ⟨⟨_, rfl, ⟨rfl, ai.rfl⟩⟩, ⟨⟨_, rfl, ⟨rfl, ai.rfl⟩⟩, trivial⟩⟩⟩⟩⟩ rfl
def aA (m : Nat) (p1 : Int) (p2 : Int) (r0_4 : (List ((Int × Int) × GTypesAlias))) (z1v1 : Int) (z1v2 : Int) (b1v3 : Bool) (l1v4 : (List ((Int × Int) × Bool))) (r0 : Bool) : Prop := ∀ (K : Ctx) (j1 : Nat), bk K [] → m ≤ j1 → Go Try.prog K (bodyPost Try.prog Try.f9 (SP K (fun u _ => u = .bool r0))) (.code (cL (cK (cB (cA (cB (cB (cB (cB (cB (aj Try.f9))))))))))) [.loop (cL (cK (cB (cA (cB (cB (cB (cB (cB (aj Try.f9)))))))))) j1, .blk 0, .seq (cB (cB (cB (cB (cB (cB (aj Try.f9)))))))] 70 (mkF 70 0 [(7, .ptr 0 0), (8, .sl 1), (9, .sl 2), (10, .ptr 3 0), (11, .bool b1v3)]) ⟨4, [(3, .var 44 [.int .i64 z1v1, .int .i64 z1v2]), (2, .mp 44 4 (List.map (fun p => (fun x => V.agg [(V.int .i64 x.1), (V.int .i64 x.2)]) p.1) l1v4) (List.map (fun p => V.bool p.2) l1v4)), (1, .mp 44 44 (List.map (fun p => (fun x => V.agg [(V.int .i64 x.1), (V.int .i64 x.2)]) p.1) r0_4) (List.map (fun p => GTypesAlias.w p.2) r0_4)), (0, .var 44 [.int .i64 p1, .int .i64 p2])]⟩
def cv (m : Nat) (p1 : Int) (p2 : Int) (r0_4 : (List ((Int × Int) × GTypesAlias))) (z1v1 : Int) (z1v2 : Int) (l2v1 : (List ((Int × Int) × Bool))) (r0 : Bool) : Prop := ∀ (K : Ctx) (j1 : Nat), bk K [] → m ≤ j1 → Go Try.prog K (bodyPost Try.prog Try.f9 (SP K (fun u _ => u = .bool r0))) (.code (cB (cL (cK (cB (cA (cB (cB (cB (cB (cB (aj Try.f9)))))))))))) [.loop (cL (cK (cB (cA (cB (cB (cB (cB (cB (aj Try.f9)))))))))) j1, .blk 0, .seq (cB (cB (cB (cB (cB (cB (aj Try.f9)))))))] 70 (mkF 70 0 [(7, .ptr 0 0), (8, .sl 1), (9, .sl 2), (10, .ptr 3 0)]) ⟨4, [(3, .var 44 [.int .i64 z1v1, .int .i64 z1v2]), (2, .mp 44 4 (List.map (fun p => (fun x => V.agg [(V.int .i64 x.1), (V.int .i64 x.2)]) p.1) l2v1) (List.map (fun p => V.bool p.2) l2v1)), (1, .mp 44 44 (List.map (fun p => (fun x => V.agg [(V.int .i64 x.1), (V.int .i64 x.2)]) p.1) r0_4) (List.map (fun p => GTypesAlias.w p.2) r0_4)), (0, .var 44 [.int .i64 p1, .int .i64 p2])]⟩
theorem rS_types_Circular (m : Nat) (p0 : (List Tree)) (p1 : Int) (p2 : Int) (r0 : Bool) (h : ∃ (b0_1 : Bool), cZ p0 b0_1 ∧ ((b0_1 = false) → false = r0) ∧ ((b0_1 = true) → ((p1 < 0) → false = r0) ∧ ((¬ p1 < 0) → ((((p0.length : Nat) : Int) ≤ p1) → false = r0) ∧ ((¬ ((p0.length : Nat) : Int) ≤ p1) → ((p2 < 0) → false = r0) ∧ ((¬ p2 < 0) → ∃ (k0_2 : Nat), p1 = ((k0_2 : Nat) : Int) ∧ ∃ (t0_3 : Tree), p0[k0_2]? = some t0_3 ∧ ((((t0_3.kids.length : Nat) : Int) ≤ p2) → false = r0) ∧ ((¬ ((t0_3.kids.length : Nat) : Int) ≤ p2) → ∃ (r0_4 : (List ((Int × Int) × GTypesAlias))), dd p0 r0_4 ∧ ((mlook (p1, p2) r0_4 = none) → aA m p1 p2 r0_4 0 0 false ([] : (List ((Int × Int) × Bool))) r0) ∧ (∀ (d0_5 : GTypesAlias), mlook (p1, p2) r0_4 = some d0_5 → aA m p1 p2 r0_4 d0_5.module d0_5.def_ true ([] : (List ((Int × Int) × Bool))) r0))))))) : aT p0 p1 p2 r0 := by
 refine ⟨rfl, rfl, ?_⟩
 refine ao 70 [] Try.func9 rfl rfl rfl (aL rfl) fun K hK => ?_
 refine gR 9 rfl ?_
 obtain ⟨b0_1, hs29, h⟩ := h
 refine gC0 hs29 (by kernel_rfl) rfl rfl .rfl rfl ?_
 refine gR 2 rfl ?_
 refine gB 15 rfl rfl rfl (fun hd => ?_) (fun hd => ?_)
 refine gT 14 rfl hd rfl ?_
 replace hd := (c7 hd)
 replace h := h.1 hd
 refine gR 33 rfl ?_
 subst h
 refine ab (F' := (mkF 70 0 [(6, .bool false)])) (H' := ⟨0, []⟩) [] [] rfl hK ⟨⟨_, rfl, .rfl⟩, trivial⟩ trivial rfl ?_
 exact ac aa (rs := [.tmp 6]) rfl rfl rfl
 refine gF 14 rfl hd rfl ?_
 replace hd := (cW hd)
 replace h := h.2 hd
 refine gR 4 rfl ?_
 refine gB 19 rfl rfl rfl (fun hd => ?_) (fun hd => ?_)
 refine gT 18 rfl hd rfl ?_
 replace hd := (of_decide_eq_true hd)
 replace h := h.1 hd
 refine gR 29 rfl ?_
 subst h
 refine ab (F' := (mkF 70 0 [(6, .bool false)])) (H' := ⟨0, []⟩) [] [] rfl hK ⟨⟨_, rfl, .rfl⟩, trivial⟩ trivial rfl ?_
 exact ac aa (rs := [.tmp 6]) rfl rfl rfl
 refine gF 18 rfl hd rfl ?_
 replace hd := (of_decide_eq_false hd)
 replace h := h.2 hd
 refine gR 3 rfl ?_
 refine gV 22 (.int .i64 ((p0.length : Nat) : Int)) rfl (cD (bi _)) rfl ?_
 refine gLB 21 rfl (bi _) fun hl30 => ?_
 refine gR 3 rfl ?_
 refine gB 25 rfl rfl rfl (fun hd => ?_) (fun hd => ?_)
 refine gT 24 rfl hd rfl ?_
 replace hd := (of_decide_eq_true hd)
 replace h := h.1 hd
 refine gR 23 rfl ?_
 subst h
 refine ab (F' := (mkF 70 0 [(6, .bool false)])) (H' := ⟨0, []⟩) [] [] rfl hK ⟨⟨_, rfl, .rfl⟩, trivial⟩ trivial rfl ?_
 exact ac aa (rs := [.tmp 6]) rfl rfl rfl
 refine gF 24 rfl hd rfl ?_
 replace hd := (of_decide_eq_false hd)
 replace h := h.2 hd
 refine gR 4 rfl ?_
 refine gB 29 rfl rfl rfl (fun hd => ?_) (fun hd => ?_)
 refine gT 28 rfl hd rfl ?_
 replace hd := (of_decide_eq_true hd)
 replace h := h.1 hd
 refine gR 19 rfl ?_
 subst h
 refine ab (F' := (mkF 70 0 [(6, .bool false)])) (H' := ⟨0, []⟩) [] [] rfl hK ⟨⟨_, rfl, .rfl⟩, trivial⟩ trivial rfl ?_
 exact ac aa (rs := [.tmp 6]) rfl rfl rfl
 refine gF 28 rfl hd rfl ?_
 replace hd := (of_decide_eq_false hd)
 replace h := h.2 hd
 refine gR 3 rfl ?_
 obtain ⟨k0_2, ek0_2, h⟩ := h
 refine gV 32 (.int .i64 ((k0_2 : Nat) : Int)) rfl (eT ek0_2) rfl ?_
 obtain ⟨t0_3, hxt0_3, h⟩ := h
 refine gY (cc (aC hxt0_3) aa rfl rfl rfl rfl) rfl rfl ?_
 refine gR 3 rfl ?_
 refine gV 36 (.int .i64 ((t0_3.kids.length : Nat) : Int)) rfl (cD (bi _)) rfl ?_
 refine gLB 35 rfl (bi _) fun hl31 => ?_
 refine gR 4 rfl ?_
 refine gB 38 rfl rfl rfl (fun hd => ?_) (fun hd => ?_)
 replace hd := (of_decide_eq_true hd)
 replace h := h.1 hd
 refine gR 8 rfl ?_
 subst h
 refine ab (F' := (mkF 70 0 [(6, .bool false)])) (H' := ⟨0, []⟩) [] [] rfl hK ⟨⟨_, rfl, .rfl⟩, trivial⟩ trivial rfl ?_
 exact ac aa (rs := [.tmp 6]) rfl rfl rfl
 replace hd := (of_decide_eq_false hd)
 replace h := h.2 hd
 refine gR 15 rfl ?_
 obtain ⟨r0_4, hs32, h⟩ := h
 refine gC hs32 [] (by kernel_rfl) rfl rfl .rfl trivial rfl ?_
 rintro _ _ ⟨rfl, rfl⟩
 refine gR 5 rfl ?_
 refine gDo (.new (.mp 44 4 [] [])) (dMM 44 4) trivial rfl rfl rfl ?_
 refine gHM 2 (List.map (fun p => (fun x => V.agg [(V.int .i64 x.1), (V.int .i64 x.2)]) p.1) ([] : (List ((Int × Int) × Bool)))) (List.map (fun p => V.bool p.2) ([] : (List ((Int × Int) × Bool)))) rfl rfl rfl rfl ?_
 refine gR 8 rfl ?_
 rcases hq33 : mlook (p1, p2) r0_4 with _ | d0_5
 replace h := h.1 hq33
 refine gDo (v := some (.tup [.agg [.int .i64 0, .int .i64 0], .bool false])) (.nop) (lY aG (encV := GTypesAlias.w) (k := (p1, p2)) (l := r0_4) (zv := .agg [.int .i64 0, .int .i64 0]) hq33 Try.underlying45 Try.zeroValue44 (by kernel_rfl) rfl rfl rfl rfl) trivial rfl rfl rfl ?_
 refine gR 9 rfl ?_
 refine go_loop m ?_
 exact gJ (h K _ hK (by omega)) [0, 1, 2, 3] [] rfl hK ⟨⟨_, rfl, .rfl⟩, ⟨_, rfl, .rfl⟩, ⟨_, rfl, .rfl⟩, ⟨_, rfl, .rfl⟩, ⟨_, rfl, .rfl⟩, trivial⟩ ⟨⟨_, rfl, ⟨rfl, ai.rfl⟩⟩, ⟨⟨_, rfl, ⟨rfl, rfl, rfl, rfl⟩⟩, ⟨⟨_, rfl, ⟨rfl, rfl, rfl, rfl⟩⟩, ⟨⟨_, rfl, ⟨rfl, ai.rfl⟩⟩, trivial⟩⟩⟩⟩ rfl
 replace h := h.2 d0_5 hq33
 refine gDo (v := some (.tup [.agg (GTypesAlias.c d0_5), .bool true])) (.nop) (mm aG (encV := GTypesAlias.w) (k := (p1, p2)) (l := r0_4) (zv := .agg [.int .i64 0, .int .i64 0]) hq33 Try.underlying45 Try.zeroValue44 (by kernel_rfl) rfl rfl rfl rfl) trivial rfl rfl rfl ?_
 refine gR 9 rfl ?_
 refine go_loop m ?_
 exact gJ (h K _ hK (by omega)) [0, 1, 2, 3] [] rfl hK ⟨⟨_, rfl, .rfl⟩, ⟨_, rfl, .rfl⟩, ⟨_, rfl, .rfl⟩, ⟨_, rfl, .rfl⟩, ⟨_, rfl, .rfl⟩, trivial⟩ ⟨⟨_, rfl, ⟨rfl, ai.rfl⟩⟩, ⟨⟨_, rfl, ⟨rfl, rfl, rfl, rfl⟩⟩, ⟨⟨_, rfl, ⟨rfl, rfl, rfl, rfl⟩⟩, ⟨⟨_, rfl, ⟨rfl, ai.rfl⟩⟩, trivial⟩⟩⟩⟩ rfl
theorem cp (m : Nat) (p1 : Int) (p2 : Int) (r0_4 : (List ((Int × Int) × GTypesAlias))) (z1v1 : Int) (z1v2 : Int) (b1v3 : Bool) (l1v4 : (List ((Int × Int) × Bool))) (r0 : Bool) (h : ((b1v3 = true) → ((mlook (z1v1, z1v2) l1v4 = none) → cv m p1 p2 r0_4 z1v1 z1v2 l1v4 r0) ∧ (∀ (d1_1 : Bool), mlook (z1v1, z1v2) l1v4 = some d1_1 → ((d1_1 = false) → cv m p1 p2 r0_4 z1v1 z1v2 l1v4 r0) ∧ ((d1_1 = true) → false = r0))) ∧ ((b1v3 = false) → false = r0)) : aA (m + 1) p1 p2 r0_4 z1v1 z1v2 b1v3 l1v4 r0 := by
 intro K j1 hK hj1
 obtain ⟨j1, rfl⟩ : ∃ j, j1 = j + 1 := ⟨j1 - 1, by omega⟩
 refine gR 5 rfl ?_
 refine gB 52 rfl rfl rfl (fun hd => ?_) (fun hd => ?_)
 refine gT 11 rfl hd rfl ?_
 refine gT 51 rfl hd rfl ?_
 replace h := h.1 hd
 refine gR 2 rfl ?_
 rcases hq34 : mlook (z1v1, z1v2) l1v4 with _ | d1_1
 replace h := h.1 hq34
 refine gDo (v := some (.bool false)) (.nop) (lY aG (encV := V.bool) (k := (z1v1, z1v2)) (l := l1v4) (zv := .bool false) hq34 Try.underlying47 Try.zeroValue4 (by kernel_rfl) rfl rfl rfl rfl) trivial rfl rfl rfl ?_
 refine gR 7 rfl ?_
 exact gJ (h K _ hK (by omega)) [0, 1, 2, 3] [] rfl hK ⟨⟨_, rfl, .rfl⟩, ⟨_, rfl, .rfl⟩, ⟨_, rfl, .rfl⟩, ⟨_, rfl, .rfl⟩, trivial⟩ ⟨⟨_, rfl, ⟨rfl, ai.rfl⟩⟩, ⟨⟨_, rfl, ⟨rfl, rfl, rfl, rfl⟩⟩, ⟨⟨_, rfl, ⟨rfl, rfl, rfl, rfl⟩⟩, ⟨⟨_, rfl, ⟨rfl, ai.rfl⟩⟩, trivial⟩⟩⟩⟩ rfl
 replace h := h.2 d1_1 hq34
 refine gDo (v := some (.bool d1_1)) (.nop) (mm aG (encV := V.bool) (k := (z1v1, z1v2)) (l := l1v4) (zv := .bool false) hq34 Try.underlying47 Try.zeroValue4 (by kernel_rfl) rfl rfl rfl rfl) trivial rfl rfl rfl ?_
 refine gR 4 rfl ?_
 refine gB 57 rfl rfl rfl (fun hd => ?_) (fun hd => ?_)
 replace hd := (c7 hd)
 replace h := h.1 hd
 refine gR 3 rfl ?_
 exact gJ (h K _ hK (by omega)) [0, 1, 2, 3] [] rfl hK ⟨⟨_, rfl, .rfl⟩, ⟨_, rfl, .rfl⟩, ⟨_, rfl, .rfl⟩, ⟨_, rfl, .rfl⟩, trivial⟩ ⟨⟨_, rfl, ⟨rfl, ai.rfl⟩⟩, ⟨⟨_, rfl, ⟨rfl, rfl, rfl, rfl⟩⟩, ⟨⟨_, rfl, ⟨rfl, rfl, rfl, rfl⟩⟩, ⟨⟨_, rfl, ⟨rfl, ai.rfl⟩⟩, trivial⟩⟩⟩⟩ rfl
 replace hd := (cW hd)
 replace h := h.2 hd
 refine gR 3 rfl ?_
 refine aK ?_
 refine gR 8 rfl ?_
 subst h
 refine ab (F' := (mkF 70 0 [(6, .bool false)])) (H' := ⟨0, []⟩) [] [] rfl hK ⟨⟨_, rfl, .rfl⟩, trivial⟩ trivial rfl ?_
 exact ac aa (rs := [.tmp 6]) rfl rfl rfl
 refine gF 11 rfl hd rfl ?_
 refine gF 51 rfl hd rfl ?_
 replace h := h.2 hd
 refine gR 10 rfl ?_
 refine aK ?_
 refine gR 8 rfl ?_
 subst h
 refine ab (F' := (mkF 70 0 [(6, .bool false)])) (H' := ⟨0, []⟩) [] [] rfl hK ⟨⟨_, rfl, .rfl⟩, trivial⟩ trivial rfl ?_
 exact ac aa (rs := [.tmp 6]) rfl rfl rfl
theorem e5 (m : Nat) (p1 : Int) (p2 : Int) (r0_4 : (List ((Int × Int) × GTypesAlias))) (z1v1 : Int) (z1v2 : Int) (l2v1 : (List ((Int × Int) × Bool))) (r0 : Bool) (h : ((z1v1 = p1 ∧ z1v2 = p2) → true = r0) ∧ ((¬ (z1v1 = p1 ∧ z1v2 = p2)) → ((mlook (z1v1, z1v2) r0_4 = none) → aA m p1 p2 r0_4 0 0 false (mput (z1v1, z1v2) true l2v1) r0) ∧ (∀ (d2_1 : GTypesAlias), mlook (z1v1, z1v2) r0_4 = some d2_1 → aA m p1 p2 r0_4 d2_1.module d2_1.def_ true (mput (z1v1, z1v2) true l2v1) r0))) : cv (m + 1) p1 p2 r0_4 z1v1 z1v2 l2v1 r0 := by
 intro K j1 hK hj1
 obtain ⟨j1, rfl⟩ : ∃ j, j1 = j + 1 := ⟨j1 - 1, by omega⟩
 refine gR 7 rfl ?_
 refine gY (v := .bool (z1v1 == p1 && z1v2 == p2)) (tP (neg := false) Try.underlying44 (by kernel_rfl) (by kernel_rfl) (by decide) (by decide) rfl rfl (by kernel_rfl) (by kernel_rfl) rfl rfl qI qI qI qI (eI Try.underlying3) (eI Try.underlying3)) rfl rfl ?_
 refine gR 2 rfl ?_
 refine gB 66 rfl rfl rfl (fun hd => ?_) (fun hd => ?_)
 replace hd := (tO hd)
 replace h := h.1 hd
 refine gR 10 rfl ?_
 refine aS ?_
 refine gR 2 rfl ?_
 subst h
 refine ab (F' := (mkF 70 0 [(6, .bool true)])) (H' := ⟨0, []⟩) [] [] rfl hK ⟨⟨_, rfl, .rfl⟩, trivial⟩ trivial rfl ?_
 exact ac aa (rs := [.tmp 6]) rfl rfl rfl
 replace hd := (tS hd)
 replace h := h.2 hd
 refine gR 6 rfl ?_
 refine gDo (.set 2 (.mp 44 4 (List.map (fun p => (fun x => V.agg [(V.int .i64 x.1), (V.int .i64 x.2)]) p.1) (mput (z1v1, z1v2) true l2v1)) (List.map (fun p => V.bool p.2) (mput (z1v1, z1v2) true l2v1)))) (qr aG (encV := V.bool) (k := (z1v1, z1v2)) (d := true) (l := l2v1) Try.underlying47 rfl rfl rfl rfl rfl rfl rfl rfl) (okM rfl) rfl rfl rfl ?_
 refine gR 17 rfl ?_
 rcases hq35 : mlook (z1v1, z1v2) r0_4 with _ | d2_1
 replace h := h.1 hq35
 refine gDo (v := some (.tup [.agg [.int .i64 0, .int .i64 0], .bool false])) (.nop) (lY aG (encV := GTypesAlias.w) (k := (z1v1, z1v2)) (l := r0_4) (zv := .agg [.int .i64 0, .int .i64 0]) hq35 Try.underlying45 Try.zeroValue44 (by kernel_rfl) rfl rfl rfl rfl) trivial rfl rfl rfl ?_
 refine gR 6 rfl ?_
 refine aH ?_
 exact gJ (h K _ hK (by omega)) [0, 1, 2, 4] [] rfl hK ⟨⟨_, rfl, .rfl⟩, ⟨_, rfl, .rfl⟩, ⟨_, rfl, .rfl⟩, ⟨_, rfl, .rfl⟩, ⟨_, rfl, .rfl⟩, trivial⟩ ⟨⟨_, rfl, ⟨rfl, ai.rfl⟩⟩, ⟨⟨_, rfl, ⟨rfl, rfl, rfl, rfl⟩⟩, ⟨⟨_, rfl, ⟨rfl, rfl, rfl, rfl⟩⟩, ⟨⟨_, rfl, ⟨rfl, ai.rfl⟩⟩, trivial⟩⟩⟩⟩ rfl
 replace h := h.2 d2_1 hq35
 refine gDo (v := some (.tup [.agg (GTypesAlias.c d2_1), .bool true])) (.nop) (mm aG (encV := GTypesAlias.w) (k := (z1v1, z1v2)) (l := r0_4) (zv := .agg [.int .i64 0, .int .i64 0]) hq35 Try.underlying45 Try.zeroValue44 (by kernel_rfl) rfl rfl rfl rfl) trivial rfl rfl rfl ?_
 refine gR 6 rfl ?_
 refine aH ?_
 exact gJ (h K _ hK (by omega)) [0, 1, 2, 4] [] rfl hK ⟨⟨_, rfl, .rfl⟩, ⟨_, rfl, .rfl⟩, ⟨_, rfl, .rfl⟩, ⟨_, rfl, .rfl⟩, ⟨_, rfl, .rfl⟩, trivial⟩ ⟨⟨_, rfl, ⟨rfl, ai.rfl⟩⟩, ⟨⟨_, rfl, ⟨rfl, rfl, rfl, rfl⟩⟩, ⟨⟨_, rfl, ⟨rfl, rfl, rfl, rfl⟩⟩, ⟨⟨_, rfl, ⟨rfl, ai.rfl⟩⟩, trivial⟩⟩⟩⟩ rfl
end Go.Proofs.Ytiknldgpnhikhaa
namespace Go.Proofs.Ytiknldgpnhikhaa
open Go.RowKit Lx Sx
set_option maxRecDepth 100000
theorem ny {p : List Tree} {M : Int} : ∀ {a : List (List Int × Tree)} {x : GTarget}, x ∈ cU p M a ↔ ∃ q u, (q, u) ∈ a ∧ eF u = true ∧ x = tgK p M q u
  | [], x => by simp [cU]
  | (q, u) :: r, x => by
    have ih := ny (p := p) (M := M) (a := r) (x := x)
    simp only [cU, List.mem_append, ih]
    constructor
    · rintro (h | ⟨q', u', h1, h2, h3⟩)
      · split at h
        · rename_i hu
          rw [List.mem_singleton] at h
          exact ⟨q, u, by simp, hu, h⟩
        · cases h
      · exact ⟨q', u', by simp [h1], h2, h3⟩
    · rintro ⟨q', u', h1, h2, h3⟩
      rcases List.mem_cons.1 h1 with h1 | h1
      · cases h1
        exact .inl (by rw [if_pos h2]; simp [h3])
      · exact .inr ⟨q', u', h1, h2, h3⟩
theorem jn {p : List Tree} : ∀ {i : Nat} {l : List Tree} {x : GTarget}, x ∈ dX p i l ↔ ∃ j t q u, l[j]? = some t ∧ (q, u) ∈ nodK t [] ∧ eF u = true ∧ x = tgK p ((i + j : Nat) : Int) q u
  | i, [], x => by simp [dX]
  | i, t :: r, x => by
    have ih := jn (p := p) (i := i + 1) (l := r) (x := x)
    simp only [dX, List.mem_append, ih, ny]
    constructor
    · rintro (⟨q, u, h1, h2, h3⟩ | ⟨j, t', q, u, h0, h1, h2, h3⟩)
      · exact ⟨0, t, q, u, rfl, h1, h2, h3⟩
      · exact ⟨j + 1, t', q, u, by simpa using h0, h1, h2, by rw [h3]; congr 2; omega⟩
    · rintro ⟨j, t', q, u, h0, h1, h2, h3⟩
      cases j with
      | zero => simp at h0; subst h0; exact .inl ⟨q, u, h1, h2, h3⟩
      | succ j => exact .inr ⟨j, t', q, u, by simpa using h0, h1, h2, by rw [h3]; congr 2; omega⟩
theorem kX {u : Tree} {x : List Int × Tree} : ∀ {l : List Tree} {q : List Int} {i j : Nat}, l[j]? = some u → x ∈ nodK u (q ++ [((i + j : Nat) : Int)]) → x ∈ nodKs l q i
  | [], q, i, j, h, _ => by simp at h
  | t :: r, q, i, 0, h, hx => by
    simp only [List.getElem?_cons_zero, Option.some.injEq] at h
    subst h
    simp only [nodKs, List.mem_append]
    exact .inl (by simpa using hx)
  | t :: r, q, i, j + 1, h, hx => by
    simp only [nodKs, List.mem_append]
    refine .inr (kX (i := i + 1) (j := j) (by simpa using h) ?_)
    rw [show i + 1 + j = i + (j + 1) by omega]; exact hx
theorem lu : ∀ (r : List Int) {t u : Tree} {q : List Int}, atK t r = some u → (q ++ r, u) ∈ nodK t q
  | [], t, u, q, h => by
    simp only [atK, Option.some.injEq] at h
    subst h
    rw [ke]; simp
  | z :: r, t, u, q, h => by
    simp only [atK] at h
    split at h
    · cases h
    · rename_i hz
      cases hu : t.kids[z.toNat]? with
      | none => rw [hu] at h; cases h
      | some v =>
        rw [hu] at h
        have := lu r (q := q ++ [z]) h
        rw [ke, List.mem_cons]
        refine .inr (kX (j := z.toNat) hu ?_)
        rw [Nat.zero_add, show ((z.toNat : Nat) : Int) = z by omega]
        simpa using this
theorem ry : ∀ t, tyK t → ∃ q, atK t q = some (leafK t) := dN fun t ih h => by
  rcases iG h with ⟨h8, _, u, hu, hty⟩ | ⟨h8, _⟩
  · obtain ⟨e1, _⟩ := fC h8 hu
    obtain ⟨q, hq⟩ := ih 0 u (by rw [hu]; rfl) hty
    exact ⟨0 :: q, by simp [atK, hu, hq, e1]⟩
  · exact ⟨[], by rw [(ds h8).1]; rfl⟩
theorem oU : ∀ t, tyK t → ∀ q u, atK t q = some u → eF u = true → u = leafK t := dN fun t ih h q u hq hu => by
  rcases iG h with ⟨h8, _, v, hv, hty⟩ | ⟨h8, hk, _⟩
  · obtain ⟨e1, _⟩ := fC h8 hv
    cases q with
    | nil =>
      simp only [atK, Option.some.injEq] at hq
      subst hq
      simp [eF, h8] at hu
    | cons z q =>
      simp only [atK, hv] at hq
      split at hq
      · cases hq
      · cases hz : z.toNat with
        | zero =>
          rw [hz] at hq
          simp only [List.getElem?_cons_zero] at hq
          rw [e1]
          exact ih 0 v (by rw [hv]; rfl) hty q u hq hu
        | succ n => rw [hz] at hq; simp at hq
  · rw [(ds h8).1]
    cases q with
    | nil => simp only [atK, Option.some.injEq] at hq; exact hq.symm
    | cons z q =>
      simp only [atK, hk] at hq
      split at hq <;> simp at hq
def bg (p : List Tree) (a : Int × Int) : Option (Int × Int) := if 0 ≤ a.1 ∧ 0 ≤ a.2 then match p[a.1.toNat]? with
    | none => none
    | some t => match t.kids[a.2.toNat]? with
      | none => none
      | some x => if x.kind = 3 ∧ (leafK (df p a.1 a.2)).kind = 9 ∧ (ar p a.1 (leafK (df p a.1 a.2)).text).2.2 = true then some ((ar p a.1 (leafK (df p a.1 a.2)).text).1, (ar p a.1 (leafK (df p a.1 a.2)).text).2.1) else none
  else none
theorem i3 {p : List Tree} {i d : Nat} {t x : Tree} (h1 : p[i]? = some t) (h2 : t.kids[d]? = some x) (h3 : x.kind = 3) : bg p ((i : Int), (d : Int)) = if (leafK (df p i d)).kind = 9 ∧ (ar p i (leafK (df p i d)).text).2.2 = true then some ((ar p i (leafK (df p i d)).text).1, (ar p i (leafK (df p i d)).text).2.1) else none := by
  unfold bg
  rw [if_pos ⟨Int.natCast_nonneg i, Int.natCast_nonneg d⟩]
  simp only [Int.toNat_natCast, h1, h2, h3, true_and]
theorem j6 {p : List Tree} {i d : Nat} {t x : Tree} (hp : aM p = true) (h1 : p[i]? = some t) (h2 : t.kids[d]? = some x) (h3 : x.kind = 3) : ∃ b, x.kids = [b] ∧ tyK b := by
  obtain ⟨g1, g2⟩ := dP hp h1
  have hsx : shapeK x = true := by
    rw [ci] at g2
    simp only [Bool.and_eq_true] at g2
    exact (fz g2.2 h2).2
  rw [ci, h3] at hsx
  simp only [Bool.and_eq_true, decide_eq_true_eq] at hsx
  have hl := hsx.1.1
  have e : gn 3 x.kids.length = f0 x.kids.length 1 3 0 1 := rfl
  rw [e] at hl
  have hn : x.kids.length = 1 := by
    unfold f0 at hl
    split at hl
    · omega
    · split at hl
      · omega
      · omega
  match hkk : x.kids, hn with
  | [b], _ =>
    have hss := hsx.2
    rw [hkk] at hss
    simp only [shapeKs, Bool.and_eq_true] at hss
    exact ⟨b, rfl, hss.1.2, by have := hss.1.1; simpa [fp] using this⟩
def qv (p : List Tree) (x : GTarget) : Bool := !x.Free && (match p[x.Use.Module.toNat]? with | none => false | some t => match t.kids[(x.Use.Path.getD 0 0).toNat]? with | none => false | some a => a.kind == 3)
def bt (p : List Tree) (l : List ((Int × Int) × GTypesAlias)) (x : GTarget) : List ((Int × Int) × GTypesAlias) :=
  if qv p x = true then mput (x.Use.Module, x.Use.Path.getD 0 0) (GTypesAlias.mk x.Module x.Def) l else l
def bp (p : List Tree) : List ((Int × Int) × GTypesAlias) := (bh p).foldl (bt p) []
theorem pc {p : List Tree} {x : GTarget} (hp : aM p = true) (h : x ∈ bh p) : ∃ (i d : Nat) (t a u : Tree) (q : List Int), p[i]? = some t ∧ t.kids[d]? = some a ∧ x.Use.Module = (i : Int) ∧ x.Use.Path = (d : Int) :: q ∧ atK a q = some u ∧ eF u = true ∧ x = tgK p (i : Int) ((d : Int) :: q) u := by
  unfold bh at h
  rw [if_pos hp] at h
  obtain ⟨j, t, q, u, hj, hq, hu, rfl⟩ := jn.1 h
  rw [Nat.zero_add]
  have hat := nodK_at t t [] rfl _ hq
  simp only at hat
  obtain ⟨hk, _⟩ := dP hp hj
  cases q with
  | nil =>
    simp only [atK, Option.some.injEq] at hat
    subst hat
    simp [eF, hk] at hu
  | cons z q =>
    simp only [atK] at hat
    split at hat
    · cases hat
    · rename_i hz
      cases ha : t.kids[z.toNat]? with
      | none => rw [ha] at hat; cases hat
      | some a =>
        rw [ha] at hat
        have e : ((z.toNat : Nat) : Int) = z := by omega
        exact ⟨j, z.toNat, t, a, u, q, hj, ha, rfl, by rw [e]; rfl, hat, hu, by rw [e]⟩
theorem gp {p : List Tree} {x : GTarget} {i d : Nat} {t a : Tree} {q : List Int} (l : List ((Int × Int) × GTypesAlias)) (h1 : p[i]? = some t) (h2 : t.kids[d]? = some a) (h3 : x.Use.Module = (i : Int)) (h4 : x.Use.Path = (d : Int) :: q) : bt p l x = if x.Free = false ∧ a.kind = 3 then mput ((i : Int), (d : Int)) (GTypesAlias.mk x.Module x.Def) l else l := by
  unfold bt qv
  rw [h3, h4]
  simp only [List.getD_cons_zero, Int.toNat_natCast, h1, h2, beq_iff_eq, Bool.and_eq_true, Bool.not_eq_true']
theorem jV {p : List Tree} (hp : aM p = true) : ∀ (T : List GTarget) (l : List ((Int × Int) × GTypesAlias)), (∀ x ∈ T, x ∈ bh p) → (∀ k v, mlook k l = some v → bg p k = some (v.module, v.def_)) → ∀ k v, mlook k (T.foldl (bt p) l) = some v → bg p k = some (v.module, v.def_)
  | [], l, _, hl, k, v, h => hl k v h
  | x :: T, l, hT, hl, k, v, h => by
    refine jV hp T (bt p l x) (fun y hy => hT y (by simp [hy])) (fun k v hkv => ?_) k v h
    obtain ⟨i, d, t, a, u, q, h1, h2, h3, h4, h5, h6, h7⟩ := pc hp (hT x (by simp))
    rw [gp l h1 h2 h3 h4] at hkv
    split at hkv
    · rename_i hc
      rw [dW] at hkv
      split at hkv
      · rename_i hk
        simp only [Option.some.injEq] at hkv
        subst hkv hk
        obtain ⟨b, hb, hty⟩ := j6 hp h1 h2 hc.2
        have hlf : u = leafK b := by
          cases q with
          | nil =>
            simp only [atK, Option.some.injEq] at h5
            subst h5
            have := hc.2
            simp [eF, this] at h6
          | cons z q =>
            simp only [atK, hb] at h5
            split at h5
            · cases h5
            · cases hz : z.toNat with
              | zero =>
                rw [hz] at h5
                simp only [List.getElem?_cons_zero] at h5
                exact oU b hty q u h5 h6
              | succ n => rw [hz] at h5; simp at h5
        have hal := iL h1 h2 hb
        have hk9 : (leafK b).kind = 9 := by
          obtain ⟨g1, g2, _⟩ := j9 b hty
          have := g1.2
          simp only [dG, Bool.and_eq_true, decide_eq_true_eq] at this
          rw [hlf] at h6
          simp only [eF, Bool.or_eq_true, beq_iff_eq] at h6
          omega
        have hfr := hc.1
        rw [h7] at hfr ⊢
        simp only [tgK, Bool.not_eq_false'] at hfr ⊢
        rw [i3 h1 h2 hc.2, hal, ← hlf, if_pos ⟨by rw [hlf]; exact hk9, hfr⟩]
      · exact hl k v hkv
    · exact hl k v hkv
theorem kB {p : List Tree} (k : Int × Int) : ∀ (T : List GTarget) (l : List ((Int × Int) × GTypesAlias)), mlook k l ≠ none → mlook k (T.foldl (bt p) l) ≠ none
  | [], l, h => h
  | x :: T, l, h => by
    refine kB k T (bt p l x) ?_
    unfold bt
    split
    · rw [dW]
      split
      · simp
      · exact h
    · exact h
theorem mG {p : List Tree} {k : Int × Int} {x : GTarget} (hx : ∀ l, mlook k (bt p l x) ≠ none) : ∀ (T : List GTarget) (l : List ((Int × Int) × GTypesAlias)), x ∈ T → mlook k (T.foldl (bt p) l) ≠ none
  | [], l, h => by cases h
  | y :: T, l, h => by
    rcases List.mem_cons.1 h with rfl | h
    · exact kB k T _ (hx l)
    · exact mG hx T _ h
theorem ko {p : List Tree} (hp : aM p = true) (k : Int × Int) : (mlook k (bp p)).map (fun v => (v.module, v.def_)) = bg p k := by
  have hs := jV hp (bh p) [] (fun _ h => h) (fun k v h => by cases h) k
  cases hm : mlook k (bp p) with
  | some v => rw [hs v hm]; rfl
  | none =>
    rw [Option.map_none]
    cases hn : bg p k with
    | none => rfl
    | some v =>
      exfalso
      have hn' := hn
      unfold bg at hn
      split at hn
      · rename_i h0
        cases h1 : p[k.1.toNat]? with
        | none => rw [h1] at hn; cases hn
        | some t =>
          cases h2 : t.kids[k.2.toNat]? with
          | none => rw [h1] at hn; simp only [h2] at hn; cases hn
          | some a =>
            rw [h1] at hn
            simp only [h2] at hn
            split at hn
            · rename_i hc
              obtain ⟨b, hb, hty⟩ := j6 hp h1 h2 hc.1
              have e1 : ((k.1.toNat : Nat) : Int) = k.1 := by omega
              have e2 : ((k.2.toNat : Nat) : Int) = k.2 := by omega
              have hal := iL h1 h2 hb
              rw [e1, e2] at hal
              rw [hal] at hc
              obtain ⟨q, hq⟩ := ry b hty
              have hat : atK t (k.2 :: 0 :: q) = some (leafK b) := by
                simp [atK, h2, hb, hq, show ¬ k.2 < 0 by omega]
              have hx : tgK p k.1 (k.2 :: 0 :: q) (leafK b) ∈ bh p := by
                unfold bh
                rw [if_pos hp]
                exact jn.2 ⟨k.1.toNat, t, _, _, h1, by simpa using lu _ (q := []) hat, by simp [eF, hc.2.1], by rw [Nat.zero_add, e1]⟩
              refine mG (k := k) (fun l => ?_) (bh p) [] hx hm
              rw [gp (i := k.1.toNat) (d := k.2.toNat) (q := 0 :: q) l h1 h2 (by rw [e1]; rfl) (by rw [e2]; rfl), if_pos ⟨by simp [tgK, hc.2.2], hc.1⟩, dW, if_pos (by rw [e1, e2])]
              simp
            · cases hn
      · cases hn
end Go.Proofs.Ytiknldgpnhikhaa
namespace Go.Proofs.Ytiknldgpnhikhaa
open Go.RowKit Lx Sx
set_option maxRecDepth 100000
set_option maxHeartbeats 1000000
def cr {α : Type} (f : α → Nat) : List α → Nat
  | [] => 0
  | x :: r => f x + cr f r
theorem lH {α : Type} (f : α → Nat) : ∀ a b : List α, cr f (a ++ b) = cr f a + cr f b
  | [], b => by simp [cr]
  | x :: a, b => by simp only [List.cons_append, cr, lH f a b]; omega
theorem jz {α : Type} [BEq α] [LawfulBEq α] (f : α → Nat) {x : α} : ∀ {m : List α}, x ∈ m → cr f m = f x + cr f (m.erase x)
  | [], h => by cases h
  | y :: m, h => by
    rw [List.erase_cons]
    split
    · rename_i e
      rw [eq_of_beq e]; rfl
    · rename_i e
      rcases List.mem_cons.1 h with rfl | h
      · simp at e
      · simp only [cr, jz f h]; omega
theorem mb {α : Type} [BEq α] [LawfulBEq α] (f : α → Nat) : ∀ (l m : List α), l.Nodup → (∀ x ∈ l, x ∈ m) → cr f l ≤ cr f m
  | [], m, _, _ => Nat.zero_le _
  | x :: l, m, hn, hs => by
    obtain ⟨h1, h2⟩ := List.nodup_cons.1 hn
    rw [jz f (hs x (by simp)), cr]
    have := mb f l (m.erase x) h2 fun y hy => (List.mem_erase_of_ne (fun (e : y = x) => h1 (by rw [← e]; exact hy))).2 (hs y (by simp [hy]))
    omega
def gq (p : List Tree) (k : Int × Int) : Nat := lisK (df p k.1 k.2)
theorem nA {P : List Tree} {j : Nat} {t : Tree} (h : P[j]? = some t) : cr (gq P) (io j t.kids) ≤ kbulk t.kids := by
  have go : ∀ (l : List Tree) (k : Nat), t.kids.drop k = l → cr (gq P) ((List.range' k l.length).map fun (d : Nat) => ((j : Int), (d : Int))) ≤ kbulk l := fun l => by
    induction l with
    | nil => intro k _; exact Nat.zero_le _
    | cons x r ih =>
      intro k hk
      have hx : t.kids[k]? = some x := by
        have : (t.kids.drop k)[0]? = some x := by rw [hk]; rfl
        simpa using this
      have hr : t.kids.drop (k + 1) = r := by
        have : (t.kids.drop k).drop 1 = r := by rw [hk]; rfl
        simpa [List.drop_drop] using this
      have := ih (k + 1) hr
      simp only [List.length_cons, List.range'_succ, List.map_cons, cr, kbulk]
      have e : gq P ((j : Int), (k : Int)) ≤ tbulk x := by
        unfold gq df
        simp only [Int.toNat_natCast, h, hx]
        cases hxk : x.kids with
        | nil =>
          have : lisK fu = 0 := by unfold fu; rw [lisK, if_neg (by decide)]
          simp only [this]; omega
        | cons b _ =>
          simp only []
          have := (j0 b).2
          have := cI (t := x) (i := 0) (u := b) (by rw [hxk]; rfl)
          omega
      omega
  have := go t.kids 0 rfl
  unfold io
  rw [List.range_eq_range']
  exact this
theorem mg (P : List Tree) : ∀ (j : Nat) (r : List Tree), (∀ i, P[j + i]? = r[i]?) → cr (gq P) (ft j r) ≤ kbulk r
  | j, [], _ => Nat.zero_le _
  | j, t :: r, h => by
    have h0 : P[j]? = some t := by have := h 0; simpa using this
    have := nA h0
    have := mg P (j + 1) r fun i => by have := h (i + 1); rw [show j + 1 + i = j + (i + 1) by omega]; simpa using this
    have := fP t
    simp only [ft, lH, kbulk]
    omega
theorem mu {p : List Tree} {l : List (Int × Int)} (h : dB p l) : cr (gq p) l ≤ kbulk p := Nat.le_trans (mb _ _ _ h.1 h.2) (mg p 0 p (fun i => by simp))
theorem ly (t : Tree) : ∀ n, cQ n (.node 8 [] [] [t]) = .node 8 [] [] [cQ n t]
  | 0 => rfl
  | n + 1 => by simp only [cQ, ly t n]
theorem ka {t : Tree} (ht : tyK t) (hb : tbulk t ≤ 1000000000) : dC t (leafK t) (lisK t) := by
  have loop : ∀ t, tyK t → ∀ i, i + tbulk t ≤ 2000000000 → dr (lisK t + 1) t i (leafK t) ((i + lisK t : Nat) : Int) := dN fun t ih h i hi => by
    rcases iG h with ⟨h8, _, u, hu, hty⟩ | ⟨h8, hk, _⟩
    · obtain ⟨e1, e2⟩ := fC h8 hu
      have h0 : t.kids[0]? = some u := by rw [hu]; rfl
      have := cI h0
      rw [e1, e2]
      refine gf _ _ _ _ _ ⟨fun _ => ⟨u, h0, by omega, ?_⟩, fun h => absurd h8 h⟩
      rw [show i + (lisK u + 1) = i + 1 + lisK u by omega]
      exact ih 0 u h0 hty (i + 1) (by omega)
    · obtain ⟨e1, e2⟩ := ds h8
      rw [e1, e2]
      exact gf _ _ _ _ _ ⟨fun h => absurd h h8, fun _ => ⟨rfl, rfl⟩⟩
  have := loop t ht 0 (by omega)
  rw [Nat.zero_add] at this
  exact kh _ _ _ _ this
theorem cN (p : List Tree) (hp : kbulk p ≤ 1000000000) : cZ p (aM p) := by
  have hl := dR p
  have loop : ∀ m i, p.length - i ≤ m → cO (m + 1) p i (aM (p.drop i)) := fun m => by
    induction m with
    | zero =>
      intro i hi
      refine fi 0 _ _ _ ⟨fun h => by omega, fun h => ?_⟩
      rw [List.drop_of_length_le (by omega), aM]
    | succ m ihm =>
      intro i hi
      refine fi (m + 1) _ _ _ ⟨fun h => ?_, fun h => ?_⟩
      · obtain ⟨u, hu, _⟩ | h' := dp p i
        · rw [dL hu, aM]
          have := dg hu
          refine ⟨u, hu, fun h1 => by simp [h1], fun h1 => ⟨_, fL u (by omega), fun h2 => by simp [h1, h2], fun h2 => ⟨by omega, ?_⟩⟩⟩
          simp only [h1, h2, beq_self_eq_true, Bool.true_and]
          exact ihm (i + 1) (by omega)
        · exact absurd h h'
      · rw [List.drop_of_length_le (by omega), aM]
  exact i2 _ _ _ (loop p.length 0 (by omega))
theorem la (p : List Tree) : (bh p).length ≤ kbulk p := by
  unfold bh; split
  · exact kS p 0 p
  · exact Nat.zero_le _
theorem kY {p : List Tree} (hp : aM p = true) (hb : kbulk p ≤ 100000000) : dd p (bp p) := by
  have hl := la p
  have hu : ∀ x ∈ bh p, _ := fun x hx => pc hp hx
  obtain ⟨T, hT⟩ : ∃ T, T = bh p := ⟨_, rfl⟩
  have loop : ∀ m i l, T.length - i ≤ m → bF (m + 1) p T l i ((T.drop i).foldl (bt p) l) := fun m => by
    induction m with
    | zero =>
      intro i l hi
      refine fj 0 _ _ _ _ _ ⟨fun h => by omega, fun h => ?_⟩
      rw [List.drop_of_length_le (by omega)]; rfl
    | succ m ihm =>
      intro i l hi
      refine fj (m + 1) _ _ _ _ _ ⟨fun h => ?_, fun h => ?_⟩
      · obtain ⟨x, hx, _⟩ | h' := dp T i
        · rw [dL hx, List.foldl_cons]
          obtain ⟨j, d, t, a, u, q, h1, h2, h3, h4, h5, h6, h7⟩ := hu x (hT ▸ List.mem_of_getElem? hx)
          have hs := gp l h1 h2 h3 h4
          rw [← hT] at hl
          refine ⟨x, hx, (d : Int), by rw [h4]; rfl, fun hf => ⟨j, h3, t, h1, d, rfl, a, h2, fun h3' => ⟨by omega, ?_⟩, fun h3' => ⟨by omega, ?_⟩⟩, fun hf => ⟨by omega, ?_⟩⟩
          · have := ihm (i + 1) (bt p l x) (by omega)
            rw [hs, if_pos ⟨hf, h3'⟩] at this ⊢
            rw [h3]; exact this
          · have := ihm (i + 1) (bt p l x) (by omega)
            rw [hs, if_neg (fun hc => h3' hc.2)] at this ⊢
            exact this
          · have := ihm (i + 1) (bt p l x) (by omega)
            rw [hs, if_neg (fun hc => by rw [hf] at hc; cases hc.1)] at this ⊢
            exact this
        · exact absurd h h'
      · rw [List.drop_of_length_le (by omega)]; rfl
  refine ja (T.length + 1) _ _ ⟨T, hT ▸ o9 p hb, ?_⟩
  have := loop T.length 0 [] (by omega)
  rw [List.drop_zero, hT] at this
  rw [hT]
  exact this
end Go.Proofs.Ytiknldgpnhikhaa
namespace Go.Proofs.Ytiknldgpnhikhaa
open Go.RowKit Lx Sx
set_option maxRecDepth 100000
set_option maxHeartbeats 1000000
theorem o4 {p : List Tree} {M : Int} {w : List UInt8} (hp : aM p = true) (h0 : 0 ≤ M) (h1 : M < p.length) (hb : kbulk p ≤ 100000000) (hw : w.length ≤ 1000000000) : ff p M w (ar p M w).1 (ar p M w).2.1 (ar p M w).2.2 :=
  rS_link_Lookup 0 _ _ _ _ _ _ ⟨_, k7 p (by omega), fun h => (by rw [hp] at h; cases h), fun h => ⟨_, _, _, mE h0 h1 (by omega) hw, rfl, rfl, rfl⟩⟩
theorem lZ : ∀ (k : Nat) (z : Int) (ks : List Tree) (i : Nat), i + k ≤ 1000000000 → cn (k + 1) z ks i ((i + k : Nat) : Int) (cQ k (.node z [] [] ks)) 0
  | 0, z, ks, i, h => fJ 0 _ _ _ _ _ _ ⟨fun h => by omega, fun _ => ⟨rfl, rfl⟩⟩
  | k + 1, z, ks, i, h => by
    have := lZ k 8 [.node z [] [] ks] (i + 1) (by omega)
    rw [ly, show i + 1 + k = i + (k + 1) by omega] at this
    exact fJ (k + 1) _ _ _ _ _ _ ⟨fun _ => ⟨by omega, this⟩, fun h => by omega⟩
theorem jF {seen : List (Int × Int)} {l : List ((Int × Int) × Bool)} (h : ∀ k, mlook k l = if k ∈ seen then some true else none) (a : Int × Int) : ∀ k, mlook k (mput a true l) = if k ∈ a :: seen then some true else none := fun k => by
  rw [dW, h k]
  by_cases e : k = a
  · rw [if_pos e, if_pos (by simp [e])]
  · rw [if_neg e]
    by_cases e2 : k ∈ seen
    · rw [if_pos e2, if_pos (by simp [e2])]
    · rw [if_neg e2, if_neg (by simp [e, e2])]
theorem eU {p : List Tree} {seen : List (Int × Int)} {i d : Nat} {t a : Tree} (h : dB p seen) (h1 : p[i]? = some t) (h2 : t.kids[d]? = some a) (h3 : ((i : Int), (d : Int)) ∉ seen) : dB p (((i : Int), (d : Int)) :: seen) :=
  ⟨List.nodup_cons.2 ⟨h3, h.1⟩, fun x hx => by
    rcases List.mem_cons.1 hx with rfl | hx
    · have := kZ (j := 0) h1 h2; simpa using this
    · exact h.2 x hx⟩
theorem qC {p : List Tree} (hp : aM p = true) (hb : kbulk p ≤ 10000000) : ∀ (f : Nat) (seen : List (Int × Int)) (n : Nat) (M : Int) (u : Tree) (b : Bool) (a1 a2 : Int) (l : List ((Int × Int) × Bool)), dB p seen → kbulk p + 1 ≤ f + seen.length → tyK u → u.kind ≠ 8 → n ≤ 10000000 + cr (gq p) seen → (∀ k, mlook k l = if k ∈ seen then some true else none) → (u.kind = 9 → b = (ar p M u.text).2.2 ∧ (b = true → a1 = (ar p M u.text).1 ∧ a2 = (ar p M u.text).2.1)) → ∃ m, a9 m p (bp p) u n b a1 a2 l (ct p f seen n M u).1 (ct p f seen n M u).2
  | 0, seen, n, M, u, b, a1, a2, l, hs, hf, _, _, _, _, _ => by
    have := ic hs; omega
  | f + 1, seen, n, M, u, b, a1, a2, l, hs, hf, hu, h8, hn, hl, hq => by
    have hss := mu hs
    by_cases h9 : u.kind = 9
    · obtain ⟨q1, q2⟩ := hq h9
      rw [ct, if_pos h9]
      by_cases hfd : (ar p M u.text).2.2 = false
      · rw [if_pos hfd]
        rw [hfd] at q1
        exact ⟨1, cP 0 _ _ _ _ _ _ _ _ _ _ ⟨fun _ => ⟨fun _ => ⟨rfl, rfl⟩, fun h => (by rw [q1] at h; cases h)⟩, fun h => absurd h9 h⟩⟩
      · rw [if_neg hfd]
        have hfd' : (ar p M u.text).2.2 = true := by simpa using hfd
        rw [hfd'] at q1
        obtain ⟨e1, e2⟩ := q2 q1
        subst q1
        obtain ⟨i, d, t, a, b', g1, g2, g3, g4, g5, g6, g7⟩ := n4 hp h9 hu.1 hfd'
        rw [g1] at e1 ⊢
        rw [g2] at e2 ⊢
        subst e1 e2
        by_cases hm : ((i : Int), (d : Int)) ∈ seen
        · rw [if_pos hm]
          have hlk := hl ((i : Int), (d : Int))
          rw [if_pos hm] at hlk
          exact ⟨1, cP 0 _ _ _ _ _ _ _ _ _ _ ⟨fun _ => ⟨fun h => (by cases h), fun _ => ⟨fun h => (by rw [hlk] at h; cases h), fun d1 h => ⟨fun _ => ⟨rfl, rfl⟩, fun h' => (by rw [hlk] at h; cases h; cases h')⟩⟩⟩, fun h => absurd h9 h⟩⟩
        · rw [if_neg hm]
          have hlk := hl ((i : Int), (d : Int))
          rw [if_neg hm] at hlk
          have hal := iL g3 g4 g6
          rw [hal]
          obtain ⟨t1, t2, _⟩ := j9 b' g7
          have hs' := eU hs g3 g4 hm
          have hl' := jF hl ((i : Int), (d : Int))
          have hsum : cr (gq p) (((i : Int), (d : Int)) :: seen) = lisK b' + cr (gq p) seen := by simp only [cr, gq, hal]
          have hss' := mu hs'
          have hbb : tbulk b' ≤ 1000000000 := by
            have := dg g3
            have := cI g4
            have := cI (t := a) (i := 0) (u := b') (by rw [g6]; rfl)
            omega
          have hlo := ko hp ((i : Int), (d : Int))
          rw [i3 g3 g4 g5, hal] at hlo
          have step : ∀ m, ((mlook ((i : Int), (d : Int)) (bp p) = none) → a9 m p (bp p) (leafK b') ((n : Int) + (lisK b' : Nat)) false 0 0 (mput ((i : Int), (d : Int)) true l) (ct p f (((i : Int), (d : Int)) :: seen) (n + lisK b') i (leafK b')).1 (ct p f (((i : Int), (d : Int)) :: seen) (n + lisK b') i (leafK b')).2) ∧ (∀ (d3 : GTypesAlias), mlook ((i : Int), (d : Int)) (bp p) = some d3 → a9 m p (bp p) (leafK b') ((n : Int) + (lisK b' : Nat)) true d3.module d3.def_ (mput ((i : Int), (d : Int)) true l) (ct p f (((i : Int), (d : Int)) :: seen) (n + lisK b') i (leafK b')).1 (ct p f (((i : Int), (d : Int)) :: seen) (n + lisK b') i (leafK b')).2) → ∃ m, a9 m p (bp p) u n true i d l (ct p f (((i : Int), (d : Int)) :: seen) (n + lisK b') i (leafK b')).1 (ct p f (((i : Int), (d : Int)) :: seen) (n + lisK b') i (leafK b')).2 := fun m hk => by
            have h2 : cX (m + 1) p (bp p) u n i d l (ct p f (((i : Int), (d : Int)) :: seen) (n + lisK b') i (leafK b')).1 (ct p f (((i : Int), (d : Int)) :: seen) (n + lisK b') i (leafK b')).2 :=
              rL2_types_Expand m _ _ _ _ _ _ _ _ _ ⟨i, rfl, t, g3, d, rfl, a, g4, b', by rw [g6]; rfl, leafK b', _, ka g7 hbb, by unfold InI; omega, hk.1, hk.2⟩
            exact ⟨m + 2, cP (m + 1) _ _ _ _ _ _ _ _ _ _ ⟨fun _ => ⟨fun h => (by cases h), fun _ => ⟨fun _ => h2, fun d1 h => ⟨fun _ => (by rw [hlk] at h; cases h), fun _ => (by rw [hlk] at h; cases h)⟩⟩⟩, fun h => absurd h9 h⟩⟩
          have ih := fun (b : Bool) (a1 a2 : Int) => qC hp hb f (((i : Int), (d : Int)) :: seen) (n + lisK b') i (leafK b') b a1 a2 _ hs' (by simp only [List.length_cons]; omega) t1 t2 (by omega) hl'
          rw [show (n : Int) + ((lisK b' : Nat) : Int) = ((n + lisK b' : Nat) : Int) by omega] at step
          cases hmm : mlook ((i : Int), (d : Int)) (bp p) with
          | none =>
            rw [hmm] at hlo
            obtain ⟨m, hm⟩ := ih false 0 0 (fun h9' => ⟨(by
              cases hx : (ar p (i : Int) (leafK b').text).2.2 with
              | false => rfl
              | true => (rw [if_pos ⟨h9', hx⟩] at hlo; cases hlo)), fun h => (by cases h)⟩)
            rw [hmm] at step
            exact step m ⟨fun _ => hm, fun d3 h => (by cases h)⟩
          | some v =>
            rw [hmm] at hlo
            simp only [Option.map_some] at hlo
            split at hlo
            · rename_i hc
              simp only [Option.some.injEq, Prod.mk.injEq] at hlo
              obtain ⟨m, hm⟩ := ih true v.module v.def_ (fun _ => ⟨hc.2.symm, fun _ => hlo⟩)
              rw [hmm] at step
              exact step m ⟨fun h => (by cases h), fun d3 h => (by cases h; exact hm)⟩
            · cases hlo
    · rw [ct, if_neg h9]
      have := lZ n u.kind [] 0 (by omega)
      rw [Nat.zero_add] at this
      exact ⟨n + 2, cP (n + 1) _ _ _ _ _ _ _ _ _ _ ⟨fun h => absurd h h9, fun _ => this⟩⟩
def eu (p : List Tree) (M : Int) (t : Tree) : Tree × Int := if aM p = true ∧ 0 ≤ M ∧ M < p.length ∧ dG t.kind = true ∧ shapeK t = true then ct p (kbulk p + 1) [] (lisK t) M (leafK t) else (fu, 5)
theorem hJ {p : List Tree} (hb : kbulk p ≤ 10000000) (M : Int) {t : Tree} (ht : tbulk t ≤ 10000000) : bY p M t (eu p M t).1 (eu p M t).2 := by
  by_cases hG : aM p = true ∧ 0 ≤ M ∧ M < p.length ∧ dG t.kind = true ∧ shapeK t = true
  · have hty : tyK t := ⟨hG.2.2.2.2, hG.2.2.2.1⟩
    have hk : 5 ≤ t.kind ∧ t.kind ≤ 9 := by simpa [dG] using hG.2.2.2.1
    obtain ⟨t1, t2, _⟩ := j9 t hty
    obtain ⟨b1, b2⟩ := j0 t
    have hlx := jb (leafK t)
    rw [eu, if_pos hG]
    have hnd : dB p [] := ⟨List.nodup_nil, fun x h => (by cases h)⟩
    by_cases h9 : (leafK t).kind = 9
    · obtain ⟨m, hm⟩ := qC hG.1 hb (kbulk p + 1) [] (lisK t) M (leafK t) (ar p M (leafK t).text).2.2 (ar p M (leafK t).text).1 (ar p M (leafK t).text).2.1 [] hnd (by simp) t1 t2 (by omega) (fun k => by simp [mlook]) (fun _ => ⟨rfl, fun _ => ⟨rfl, rfl⟩⟩)
      exact ef m _ _ _ _ _ ⟨_, cN p (by omega), fun h => (by rw [hG.1] at h; cases h), fun _ => ⟨fun h => by omega, fun _ => ⟨fun h => by omega, fun _ => ⟨fun h => by omega, fun _ => ⟨fun h => by omega, fun _ => ⟨_, fL t (by omega), fun h => (by rw [hG.2.2.2.2] at h; cases h), fun _ => ⟨leafK t, _, ka hty (by omega), fun _ => ⟨_, _, _, o4 hG.1 hG.2.1 hG.2.2.1 (by omega) (by omega), _, kY hG.1 (by omega), hm⟩, fun h => absurd h9 h⟩⟩⟩⟩⟩⟩⟩
    · have := lZ (lisK t) (leafK t).kind [] 0 (by omega)
      rw [Nat.zero_add] at this
      rw [ct, if_neg h9]
      exact ef (lisK t + 1) _ _ _ _ _ ⟨_, cN p (by omega), fun h => (by rw [hG.1] at h; cases h), fun _ => ⟨fun h => by omega, fun _ => ⟨fun h => by omega, fun _ => ⟨fun h => by omega, fun _ => ⟨fun h => by omega, fun _ => ⟨_, fL t (by omega), fun h => (by rw [hG.2.2.2.2] at h; cases h), fun _ => ⟨leafK t, _, ka hty (by omega), fun h => absurd h h9, fun _ => this⟩⟩⟩⟩⟩⟩⟩
  · rw [eu, if_neg hG]
    refine ef 0 _ _ _ _ _ ⟨_, cN p (by omega), fun _ => ⟨rfl, rfl⟩, fun h1 => ⟨fun _ => ⟨rfl, rfl⟩, fun h2 => ⟨fun _ => ⟨rfl, rfl⟩, fun h3 => ⟨fun _ => ⟨rfl, rfl⟩, fun h4 => ⟨fun _ => ⟨rfl, rfl⟩, fun h5 => ⟨_, fL t (by omega), fun _ => ⟨rfl, rfl⟩, fun h6 => absurd ⟨h1, by omega, by omega, ?_, h6⟩ hG⟩⟩⟩⟩⟩⟩
    simp [dG]; omega
def bU (p : List Tree) (s : Int × Int) : Nat → List (Int × Int) → Option (Int × Int) → Bool
  | 0, _, _ => false
  | _ + 1, _, none => false
  | f + 1, seen, some a => if a = s then true else if a ∈ seen then false else bU p s f (a :: seen) (bg p a)
theorem o2 {p : List Tree} {k a : Int × Int} (h : bg p k = some a) : ∃ (i d : Nat) (t x : Tree), a = ((i : Int), (d : Int)) ∧ p[i]? = some t ∧ t.kids[d]? = some x := by
  unfold bg at h
  split at h
  · split at h
    · cases h
    · split at h
      · cases h
      · split at h
        · rename_i hc
          simp only [Option.some.injEq] at h
          obtain ⟨i, d, t, u, a1, a2, a3, a4⟩ := ql hc.2.2
          exact ⟨i, d, t, u, by rw [← h, a1, a2], a3, a4⟩
        · cases h
  · cases h
theorem oH {p : List Tree} (hp : aM p = true) (hb : kbulk p ≤ 10000000) (s1 s2 : Int) : ∀ (f : Nat) (seen : List (Int × Int)) (k : Int × Int) (b : Bool) (a1 a2 : Int) (l : List ((Int × Int) × Bool)), dB p seen → kbulk p + 1 ≤ f + seen.length → (s1, s2) ∉ seen → (∀ k, mlook k l = if k ∈ seen then some true else none) → (if b then some (a1, a2) else none) = bg p k → ∃ m, aA m s1 s2 (bp p) a1 a2 b l (bU p (s1, s2) f seen (bg p k))
  | 0, seen, k, b, a1, a2, l, hs, hf, _, _, _ => by
    have := ic hs; omega
  | f + 1, seen, k, b, a1, a2, l, hs, hf, hns, hl, hq => by
    cases b with
    | false =>
      simp at hq
      rw [← hq, bU]
      exact ⟨1, cp 0 _ _ _ _ _ _ _ _ ⟨fun h => (by cases h), fun _ => rfl⟩⟩
    | true =>
      simp at hq
      obtain ⟨i, d, t, x, e, g3, g4⟩ := o2 hq.symm
      cases e
      rw [← hq, bU]
      have hlk := hl ((i : Int), (d : Int))
      by_cases hm : ((i : Int), (d : Int)) ∈ seen
      · rw [if_pos hm] at hlk
        rw [if_neg (fun (e : ((i : Int), (d : Int)) = (s1, s2)) => hns (by rw [← e]; exact hm)), if_pos hm]
        exact ⟨1, cp 0 _ _ _ _ _ _ _ _ ⟨fun _ => ⟨fun h => (by rw [hlk] at h; cases h), fun d1 h => ⟨fun h' => (by rw [hlk] at h; cases h; cases h'), fun _ => rfl⟩⟩, fun h => (by cases h)⟩⟩
      · rw [if_neg hm] at hlk
        by_cases hst : ((i : Int), (d : Int)) = (s1, s2)
        · rw [if_pos hst]
          have h1 : cv 1 s1 s2 (bp p) i d l true := e5 0 _ _ _ _ _ _ _ ⟨fun _ => rfl, fun h => absurd (Prod.mk.inj hst) h⟩
          exact ⟨2, cp 1 _ _ _ _ _ _ _ _ ⟨fun _ => ⟨fun _ => h1, fun d1 h => (by rw [hlk] at h; cases h)⟩, fun h => (by cases h)⟩⟩
        · rw [if_neg hst, if_neg hm]
          have hst' : ¬ ((i : Int) = s1 ∧ (d : Int) = s2) := fun h => hst (by rw [h.1, h.2])
          have hs' := eU hs g3 g4 hm
          have hl' := jF hl ((i : Int), (d : Int))
          have hlo := ko hp ((i : Int), (d : Int))
          have ih := fun (b : Bool) (a1 a2 : Int) => oH hp hb s1 s2 f (((i : Int), (d : Int)) :: seen) ((i : Int), (d : Int)) b a1 a2 _ hs' (by simp only [List.length_cons]; omega) (fun h => by
            rcases List.mem_cons.1 h with h | h
            · exact hst h.symm
            · exact hns h) hl'
          have fin : ∀ m, ((mlook ((i : Int), (d : Int)) (bp p) = none) → aA m s1 s2 (bp p) 0 0 false (mput ((i : Int), (d : Int)) true l) (bU p (s1, s2) f (((i : Int), (d : Int)) :: seen) (bg p ((i : Int), (d : Int))))) ∧ (∀ (d2 : GTypesAlias), mlook ((i : Int), (d : Int)) (bp p) = some d2 → aA m s1 s2 (bp p) d2.module d2.def_ true (mput ((i : Int), (d : Int)) true l) (bU p (s1, s2) f (((i : Int), (d : Int)) :: seen) (bg p ((i : Int), (d : Int))))) → ∃ m, aA m s1 s2 (bp p) i d true l (bU p (s1, s2) f (((i : Int), (d : Int)) :: seen) (bg p ((i : Int), (d : Int)))) := fun m hk =>
            ⟨m + 2, cp (m + 1) _ _ _ _ _ _ _ _ ⟨fun _ => ⟨fun _ => e5 m _ _ _ _ _ _ _ ⟨fun h => absurd h hst', fun _ => hk⟩, fun d1 h => (by rw [hlk] at h; cases h)⟩, fun h => (by cases h)⟩⟩
          cases hmm : mlook ((i : Int), (d : Int)) (bp p) with
          | none =>
            rw [hmm] at hlo fin
            obtain ⟨m, hm⟩ := ih false 0 0 (by rw [← hlo]; rfl)
            exact fin m ⟨fun _ => hm, fun d3 h => (by cases h)⟩
          | some v =>
            rw [hmm] at hlo fin
            obtain ⟨m, hm⟩ := ih true v.module v.def_ (by rw [← hlo]; rfl)
            exact fin m ⟨fun h => (by cases h), fun d3 h => (by cases h; exact hm)⟩
def eX (p : List Tree) (M D : Int) : Bool := if aM p = true ∧ 0 ≤ M ∧ 0 ≤ D then bU p (M, D) (kbulk p + 1) [] (bg p (M, D)) else false
theorem eW {p : List Tree} (hb : kbulk p ≤ 10000000) (M D : Int) : aT p M D (eX p M D) := by
  have nn : (∀ t x, 0 ≤ M → 0 ≤ D → p[M.toNat]? = some t → t.kids[D.toNat]? = some x → False) → eX p M D = false := fun h => by
    unfold eX
    split
    · rename_i hc
      have : bg p (M, D) = none := by
        unfold bg
        rw [if_pos ⟨hc.2.1, hc.2.2⟩]
        split
        · rfl
        · rename_i t ht
          split
          · rfl
          · rename_i x hx
            exact (h t x hc.2.1 hc.2.2 ht hx).elim
      rw [this, bU]
    · rfl
  have hlen := fun (t : Tree) (ht : p[M.toNat]? = some t) => (List.getElem?_eq_some_iff.1 ht).1
  by_cases hp : aM p = true
  · by_cases h0 : M < 0
    · rw [nn fun _ _ h _ _ _ => by omega]
      exact rS_types_Circular 0 _ _ _ _ ⟨_, cN p (by omega), fun _ => rfl, fun _ => ⟨fun _ => rfl, fun h => absurd h0 h⟩⟩
    by_cases h1 : ((p.length : Nat) : Int) ≤ M
    · rw [nn fun t _ _ _ ht _ => by have := hlen t ht; omega]
      exact rS_types_Circular 0 _ _ _ _ ⟨_, cN p (by omega), fun _ => rfl, fun _ => ⟨fun _ => rfl, fun _ => ⟨fun _ => rfl, fun h => absurd h1 h⟩⟩⟩
    by_cases h2 : D < 0
    · rw [nn fun _ _ _ h _ _ => by omega]
      exact rS_types_Circular 0 _ _ _ _ ⟨_, cN p (by omega), fun _ => rfl, fun _ => ⟨fun _ => rfl, fun _ => ⟨fun _ => rfl, fun _ => ⟨fun _ => rfl, fun h => absurd h2 h⟩⟩⟩⟩
    obtain ⟨t, ht, _⟩ | h' := dp p M.toNat
    · by_cases h3 : ((t.kids.length : Nat) : Int) ≤ D
      · rw [nn fun t' x _ _ ht' hx => by
          rw [ht] at ht'; cases ht'
          have := (List.getElem?_eq_some_iff.1 hx).1
          omega]
        exact rS_types_Circular 0 _ _ _ _ ⟨_, cN p (by omega), fun _ => rfl, fun _ => ⟨fun _ => rfl, fun _ => ⟨fun _ => rfl, fun _ => ⟨fun _ => rfl, fun _ => ⟨M.toNat, by omega, t, ht, fun _ => rfl, fun h => absurd h3 h⟩⟩⟩⟩⟩
      · rw [eX, if_pos ⟨hp, by omega, by omega⟩]
        have hlo := ko hp (M, D)
        have hc := fun (b : Bool) (a1 a2 : Int) => oH hp hb M D (kbulk p + 1) [] (M, D) b a1 a2 [] ⟨List.nodup_nil, fun x h => (by cases h)⟩ (by simp) (by simp) (fun k => by simp [mlook])
        have fin : ∀ m, ((mlook (M, D) (bp p) = none) → aA m M D (bp p) 0 0 false [] (bU p (M, D) (kbulk p + 1) [] (bg p (M, D)))) ∧ (∀ (d2 : GTypesAlias), mlook (M, D) (bp p) = some d2 → aA m M D (bp p) d2.module d2.def_ true [] (bU p (M, D) (kbulk p + 1) [] (bg p (M, D)))) → aT p M D (bU p (M, D) (kbulk p + 1) [] (bg p (M, D))) := fun m hk =>
          rS_types_Circular m _ _ _ _ ⟨_, cN p (by omega), fun h => (by rw [hp] at h; cases h), fun _ => ⟨fun h => absurd h h0, fun _ => ⟨fun h => absurd h h1, fun _ => ⟨fun h => absurd h h2, fun _ => ⟨M.toNat, by omega, t, ht, fun h => absurd h h3, fun _ => ⟨_, kY hp (by omega), hk⟩⟩⟩⟩⟩⟩
        cases hmm : mlook (M, D) (bp p) with
        | none =>
          rw [hmm] at hlo fin
          obtain ⟨m, hm⟩ := hc false 0 0 (by rw [← hlo]; rfl)
          exact fin m ⟨fun _ => hm, fun d3 h => (by cases h)⟩
        | some v =>
          rw [hmm] at hlo fin
          obtain ⟨m, hm⟩ := hc true v.module v.def_ (by rw [← hlo]; rfl)
          exact fin m ⟨fun h => (by cases h), fun d3 h => (by cases h; exact hm)⟩
    · omega
  · have hp' : aM p = false := by simpa using hp
    rw [eX, if_neg (fun h => hp h.1)]
    exact rS_types_Circular 0 _ _ _ _ ⟨_, cN p (by omega), fun _ => rfl, fun h => absurd h hp⟩
end Go.Proofs.Ytiknldgpnhikhaa
namespace Go.Proofs.Ytiknldgpnhikhaa
open Go.RowKit Lx Sx
set_option maxRecDepth 100000
set_option maxHeartbeats 4000000
def bB (r0 : Bool) : Prop := aI Try.prog 8 [] (.bool r0)
def fG (p0 : (List UInt8)) (r0 : Tree) (r1 : Int) (r2 : Int) : Prop := aI Try.prog 15 [.str p0] (.tup [.agg (aQ r0), .int .i64 r1, .int .i64 r2])
def cg (p0 : Int) (p1 : (List Bool)) (p2 : Int) (r0 : Tree) : Prop := aI Try.prog 6 [.int .i64 p0, .row 1 (List.map V.bool p1), .int .i64 p2] (.agg (aQ r0))
def de (p0 : Int) (p1 : (List Bool)) (r0 : Bool) : Prop := aI Try.prog 3 [.int .i64 p0, .row 1 (List.map V.bool p1)] (.bool r0)
def db (p0 : Int) (p1 : Int) (p2 : (List Bool)) (r0 : Bool) : Prop := aI Try.prog 4 [.int .i64 p0, .int .i64 p1, .row 1 (List.map V.bool p2)] (.bool r0)
def dQ (r0 : Bool) : Prop := aI Try.prog 8 [] (.bool r0)
def ca (p0 : Int) (p1 : Int) (r0 : Int) : Prop := aI Try.prog 5 [.int .i64 p0, .int .i64 p1] (.int .i64 r0)
def bV (m : Nat) (p0 : Int) (p1 : (List Bool)) (p2 : Int) (l1v1 : (List Tree)) (i1v2 : Nat) (r0 : Tree) : Prop := ∀ (K : Ctx) (j1 : Nat), bk K [] → m ≤ j1 → Go Try.prog K (bodyPost Try.prog Try.f6 (SP K (fun u _ => u = .agg (aQ r0)))) (.code (cL (cK (cB (cA (cB (cB (aj Try.f6)))))))) [.loop (cL (cK (cB (cA (cB (cB (aj Try.f6))))))) j1, .blk 0, .seq (cB (cB (cB (aj Try.f6))))] 66 (mkF 66 0 [(0, .int .i64 p0), (1, .row 1 (List.map V.bool p1)), (2, .int .i64 p2), (6, .ptr 0 0), (7, .ptr 1 0), (8, .int .i64 ((i1v2 : Nat) : Int))]) ⟨3, [(2, .row 27 4 (kidsV l1v1)), (1, .var 27 [.int .i64 1, .str [77], .nils, .sl 2]), (0, .var 27 [.int .i64 0, .str [], .nils, .nils])]⟩
def br (m : Nat) (p0 : Int) (p1 : (List Bool)) (p2 : Int) (i2v1 : Nat) (s2v2 : (List UInt8)) (l2v3 : (List Tree)) (i2v4 : Nat) (r0 : Tree) : Prop := ∀ (K : Ctx) (j1 : Nat), bk K [] → m ≤ j1 → Go Try.prog K (bodyPost Try.prog Try.f6 (SP K (fun u _ => u = .agg (aQ r0)))) (.code (cB (cB (cK (cA (cB (cL (cK (cB (cA (cB (cB (aj Try.f6))))))))))))) [.blk 1, .seq (cB (cB (cL (cK (cB (cA (cB (cB (aj Try.f6))))))))), .loop (cL (cK (cB (cA (cB (cB (aj Try.f6))))))) j1, .blk 0, .seq (cB (cB (cB (aj Try.f6))))] 66 (mkF 66 0 [(0, .int .i64 p0), (1, .row 1 (List.map V.bool p1)), (2, .int .i64 p2), (6, .ptr 0 0), (7, .ptr 1 0), (8, .int .i64 ((i2v4 : Nat) : Int)), (9, .ptr 2 0)]) ⟨4, [(3, .row 27 4 (kidsV l2v3)), (2, .var 27 [.int .i64 ((i2v1 : Nat) : Int), .str s2v2, .nils, .nils]), (1, .var 27 [.int .i64 1, .str [77], .nils, .sl 3]), (0, .var 27 [.int .i64 0, .str [], .nils, .nils])]⟩
def bu (m : Nat) (p0 : Int) (p1 : (List Bool)) (p2 : Int) (i3v1 : Nat) (s3v2 : (List UInt8)) (l3v3 : (List Tree)) (l3v4 : (List Tree)) (i3v5 : Nat) (r0 : Tree) : Prop := ∀ (K : Ctx) (j1 : Nat), bk K [] → m ≤ j1 → Go Try.prog K (bodyPost Try.prog Try.f6 (SP K (fun u _ => u = .agg (aQ r0)))) (.code (cB (cB (cB (cK (cA (cB (cL (cK (cB (cA (cB (cB (aj Try.f6)))))))))))))) [.blk 1, .seq (cB (cB (cL (cK (cB (cA (cB (cB (aj Try.f6))))))))), .loop (cL (cK (cB (cA (cB (cB (aj Try.f6))))))) j1, .blk 0, .seq (cB (cB (cB (aj Try.f6))))] 66 (mkF 66 0 [(0, .int .i64 p0), (1, .row 1 (List.map V.bool p1)), (2, .int .i64 p2), (6, .ptr 0 0), (7, .ptr 1 0), (8, .int .i64 ((i3v5 : Nat) : Int)), (9, .ptr 2 0)]) ⟨5, [(4, .row 27 4 (kidsV l3v3)), (3, .row 27 4 (kidsV l3v4)), (2, .var 27 [.int .i64 ((i3v1 : Nat) : Int), .str s3v2, .nils, .sl 4]), (1, .var 27 [.int .i64 1, .str [77], .nils, .sl 3]), (0, .var 27 [.int .i64 0, .str [], .nils, .nils])]⟩
theorem ia (m : Nat) (p0 : Int) (p1 : (List Bool)) (p2 : Int) (r0 : Tree) (h : bV m p0 p1 p2 ([] : List Tree) 0 r0) : cg p0 p1 p2 r0 := by
 refine ⟨rfl, rfl, ?_⟩
 refine ao 66 [] Try.func6 rfl rfl rfl (aL rfl) fun K hK => ?_
 refine gR 19 rfl ?_
 refine go_loop m ?_
 refine gNC 1 3 27 4 rfl rfl rfl rfl ?_
 exact gJ (h K _ hK (by omega)) [0, 1, 2] [] rfl hK ⟨⟨_, rfl, .rfl⟩, ⟨_, rfl, .rfl⟩, ⟨_, rfl, .rfl⟩, ⟨_, rfl, .rfl⟩, ⟨_, rfl, .rfl⟩, ⟨_, rfl, .rfl⟩, trivial⟩ ⟨⟨_, rfl, ⟨rfl, rfl, rfl⟩⟩, ⟨⟨_, rfl, ⟨rfl, ai.rfl⟩⟩, ⟨⟨_, rfl, ⟨rfl, ai.rfl⟩⟩, trivial⟩⟩⟩ rfl
theorem cH (m : Nat) (p0 : Int) (p1 : (List Bool)) (p2 : Int) (l1v1 : (List Tree)) (i1v2 : Nat) (r0 : Tree) (h : ((((i1v2 : Nat) : Int) < p0) → 97 + i1v2 ≤ 9223372036854775807 ∧ 97 + i1v2 + 1 ≤ 9223372036854775807 ∧ (0 ≤ ((97 + i1v2 + 1 : Nat) : Int) ∧ ((97 + i1v2 + 1 : Nat) : Int) ≤ 255) ∧ [84].length + [UInt8.ofNat (97 + i1v2 + 1)].length ≤ 9223372036854775807 ∧ InI (p0 - 1) ∧ ((((i1v2 : Nat) : Int) = (p0 - 1)) → ((0 ≤ p2) → InI (97 + p2) ∧ (0 ≤ (97 + p2) ∧ (97 + p2) ≤ 255) ∧ [84].length + [UInt8.ofNat (97 + p2).toNat].length ≤ 9223372036854775807 ∧ br m p0 p1 p2 9 ([84] ++ [UInt8.ofNat (97 + p2).toNat]) l1v1 i1v2 r0) ∧ ((¬ 0 ≤ p2) → br m p0 p1 p2 5 [] l1v1 i1v2 r0)) ∧ ((((i1v2 : Nat) : Int) ≠ (p0 - 1)) → br m p0 p1 p2 9 ([84] ++ [UInt8.ofNat (97 + i1v2 + 1)]) l1v1 i1v2 r0)) ∧ ((¬ ((i1v2 : Nat) : Int) < p0) → (Tree.node 1 [77] [] l1v1) = r0)) : bV (m + 1) p0 p1 p2 l1v1 i1v2 r0 := by
 intro K j1 hK hj1
 obtain ⟨j1, rfl⟩ : ∃ j, j1 = j + 1 := ⟨j1 - 1, by omega⟩
 refine gR 8 rfl ?_
 refine gB 13 rfl rfl rfl (fun hd => ?_) (fun hd => ?_)
 replace hd := (of_decide_eq_true hd)
 replace h := h.1 hd
 refine gR 8 rfl ?_
 obtain ⟨hb, h⟩ := h
 refine gR 1 rfl ?_
 refine gV 17 (.int .i64 ((97 + i1v2 : Nat) : Int)) rfl (aO (by omega) (by omega)) rfl ?_
 obtain ⟨hb, h⟩ := h
 refine gR 1 rfl ?_
 refine gV 18 (.int .i64 ((97 + i1v2 + 1 : Nat) : Int)) rfl (aO (by omega) (by omega)) rfl ?_
 obtain ⟨hb, h⟩ := h
 refine gY (yCv Try.underlying3 Try.underlying5 rfl (n3 hb)) rfl rfl ?_
 refine gR 1 rfl ?_
 refine gDo (.nop) (dCb Try.underlying36 Try.underlying5 Try.underlying9 rfl rfl) trivial rfl rfl rfl ?_
 obtain ⟨hb, h⟩ := h
 refine gY (qc rfl rfl hb) rfl rfl ?_
 refine gR 10 rfl ?_
 obtain ⟨hb, h⟩ := h
 refine gR 1 rfl ?_
 refine gV 26 (.int .i64 (p0 - 1)) rfl (aO hb rfl) rfl ?_
 refine gR 3 rfl ?_
 refine gB 27 rfl rfl rfl (fun hd => ?_) (fun hd => ?_)
 replace hd := (eq_of_beq hd)
 replace h := h.1 hd
 refine gR 13 rfl ?_
 refine gB 30 rfl rfl rfl (fun hd => ?_) (fun hd => ?_)
 replace hd := (of_decide_eq_true hd)
 replace h := h.1 hd
 refine gR 3 rfl ?_
 obtain ⟨hb, h⟩ := h
 refine gR 1 rfl ?_
 refine gV 32 (.int .i64 (97 + p2)) rfl (aO hb rfl) rfl ?_
 obtain ⟨hb, h⟩ := h
 refine gY (yCv Try.underlying3 Try.underlying5 rfl (n3 hb)) rfl rfl ?_
 refine gR 1 rfl ?_
 refine gDo (.nop) (dCb Try.underlying36 Try.underlying5 Try.underlying9 rfl rfl) trivial rfl rfl rfl ?_
 obtain ⟨hb, h⟩ := h
 refine gY (qc rfl rfl hb) rfl rfl ?_
 refine gR 4 rfl ?_
 exact gJ (h K _ hK (by omega)) [0, 1, 4, 2] [] rfl hK ⟨⟨_, rfl, .rfl⟩, ⟨_, rfl, .rfl⟩, ⟨_, rfl, .rfl⟩, ⟨_, rfl, .rfl⟩, ⟨_, rfl, .rfl⟩, ⟨_, rfl, .rfl⟩, ⟨_, rfl, .rfl⟩, trivial⟩ ⟨⟨_, rfl, ⟨rfl, rfl, (gs _ l1v1).symm⟩⟩, ⟨⟨_, rfl, ⟨rfl, ai.rfl⟩⟩, ⟨⟨_, rfl, ⟨rfl, ai.rfl⟩⟩, ⟨⟨_, rfl, ⟨rfl, ai.rfl⟩⟩, trivial⟩⟩⟩⟩ rfl
 replace hd := (of_decide_eq_false hd)
 replace h := h.2 hd
 refine gR 3 rfl ?_
 exact gJ (h K _ hK (by omega)) [0, 1, 4, 2] [] rfl hK ⟨⟨_, rfl, .rfl⟩, ⟨_, rfl, .rfl⟩, ⟨_, rfl, .rfl⟩, ⟨_, rfl, .rfl⟩, ⟨_, rfl, .rfl⟩, ⟨_, rfl, .rfl⟩, ⟨_, rfl, .rfl⟩, trivial⟩ ⟨⟨_, rfl, ⟨rfl, rfl, (gs _ l1v1).symm⟩⟩, ⟨⟨_, rfl, ⟨rfl, ai.rfl⟩⟩, ⟨⟨_, rfl, ⟨rfl, ai.rfl⟩⟩, ⟨⟨_, rfl, ⟨rfl, ai.rfl⟩⟩, trivial⟩⟩⟩⟩ rfl
 replace hd := (ne_of_beq_false hd)
 replace h := h.2 hd
 refine gR 3 rfl ?_
 exact gJ (h K _ hK (by omega)) [0, 1, 4, 2] [] rfl hK ⟨⟨_, rfl, .rfl⟩, ⟨_, rfl, .rfl⟩, ⟨_, rfl, .rfl⟩, ⟨_, rfl, .rfl⟩, ⟨_, rfl, .rfl⟩, ⟨_, rfl, .rfl⟩, ⟨_, rfl, .rfl⟩, trivial⟩ ⟨⟨_, rfl, ⟨rfl, rfl, (gs _ l1v1).symm⟩⟩, ⟨⟨_, rfl, ⟨rfl, ai.rfl⟩⟩, ⟨⟨_, rfl, ⟨rfl, ai.rfl⟩⟩, ⟨⟨_, rfl, ⟨rfl, ai.rfl⟩⟩, trivial⟩⟩⟩⟩ rfl
 replace hd := (of_decide_eq_false hd)
 replace h := h.2 hd
 refine gR 3 rfl ?_
 refine aK ?_
 refine gR 9 rfl ?_
 refine gFR 2 rfl (gh _) rfl rfl ?_
 subst h
 refine ab (F' := (mkF 66 0 [(6, .ptr 0 0)])) (H' := ⟨1, [(0, .var 27 [.int .i64 ((Tree.node 1 [77] [] l1v1).kind), .str ((Tree.node 1 [77] [] l1v1).text), .row 1 (List.map V.str ((Tree.node 1 [77] [] l1v1).leads)), .row 4 (kidsV ((Tree.node 1 [77] [] l1v1).kids))])]⟩) [0] [] rfl hK ⟨⟨_, rfl, .rfl⟩, trivial⟩ ⟨⟨_, rfl, ⟨rfl, (.cons .rfl (.cons .rfl (.cons (.nil 1) (.cons .rfl .nil))))⟩⟩, trivial⟩ rfl ?_
 exact ac aa (rs := [.cell 6 27]) rfl rfl rfl
theorem gL (m : Nat) (p0 : Int) (p1 : (List Bool)) (p2 : Int) (i2v1 : Nat) (s2v2 : (List UInt8)) (l2v3 : (List Tree)) (i2v4 : Nat) (r0 : Tree) (h : ((i2v4 < p1.length) → ∃ (b2_1 : Bool), p1[i2v4]? = some b2_1 ∧ ((b2_1 = true) → bu m p0 p1 p2 8 [] [(Tree.node ((i2v1 : Nat) : Int) s2v2 [] [])] l2v3 i2v4 r0) ∧ ((b2_1 = false) → bu m p0 p1 p2 i2v1 s2v2 ([] : List Tree) l2v3 i2v4 r0)) ∧ ((¬ i2v4 < p1.length) → bu m p0 p1 p2 i2v1 s2v2 ([] : List Tree) l2v3 i2v4 r0)) : br (m + 1) p0 p1 p2 i2v1 s2v2 l2v3 i2v4 r0 := by
 intro K j1 hK hj1
 obtain ⟨j1, rfl⟩ : ∃ j, j1 = j + 1 := ⟨j1 - 1, by omega⟩
 refine gR 6 rfl ?_
 refine gV 40 (.int .i64 ((p1.length : Nat) : Int)) rfl (cD (eD V.bool _)) rfl ?_
 refine gLB 39 rfl (eD V.bool _) fun hl6 => ?_
 refine gR 2 rfl ?_
 refine gB 42 rfl rfl rfl (fun hd => ?_) (fun hd => ?_)
 refine gT 41 rfl hd rfl ?_
 replace hd := (gZ hd)
 replace h := h.1 hd
 refine gR 2 rfl ?_
 obtain ⟨b2_1, hxb2_1, h⟩ := h
 refine gY (cc (mapget (f := V.bool) hxb2_1) aa rfl rfl rfl rfl) rfl rfl ?_
 refine gR 4 rfl ?_
 refine gB 47 rfl rfl rfl (fun hd => ?_) (fun hd => ?_)
 replace h := h.1 hd
 refine gR 3 rfl ?_
 refine gS 48 (.agg [.int .i64 ((i2v1 : Nat) : Int), .str s2v2, .row 1 [], .row 4 (kidsV [])]) rfl (.agg (.cons .rfl (.cons .rfl (.cons (.nil 1) (.cons (.nil 4) .nil))))) rfl ?_
 refine gR 1 rfl ?_
 refine gHR 4 (kidsV [(Tree.node ((i2v1 : Nat) : Int) s2v2 [] [])]) rfl (km (Tree.node ((i2v1 : Nat) : Int) s2v2 [] [])) rfl ?_
 refine gR 4 rfl ?_
 exact gJ (h K _ hK (by omega)) [0, 1, 2, 3, 4] [] rfl hK ⟨⟨_, rfl, .rfl⟩, ⟨_, rfl, .rfl⟩, ⟨_, rfl, .rfl⟩, ⟨_, rfl, .rfl⟩, ⟨_, rfl, .rfl⟩, ⟨_, rfl, .rfl⟩, ⟨_, rfl, .rfl⟩, trivial⟩ ⟨⟨_, rfl, ⟨rfl, rfl, (gs _ [(Tree.node ((i2v1 : Nat) : Int) s2v2 [] [])]).symm⟩⟩, ⟨⟨_, rfl, ⟨rfl, rfl, (gs _ l2v3).symm⟩⟩, ⟨⟨_, rfl, ⟨rfl, ai.rfl⟩⟩, ⟨⟨_, rfl, ⟨rfl, ai.rfl⟩⟩, ⟨⟨_, rfl, ⟨rfl, ai.rfl⟩⟩, trivial⟩⟩⟩⟩⟩ rfl
 replace h := h.2 hd
 refine gR 3 rfl ?_
 refine gNC 2 3 27 4 rfl rfl rfl rfl ?_
 exact gJ (h K _ hK (by omega)) [0, 1, 2, 3, 4] [] rfl hK ⟨⟨_, rfl, .rfl⟩, ⟨_, rfl, .rfl⟩, ⟨_, rfl, .rfl⟩, ⟨_, rfl, .rfl⟩, ⟨_, rfl, .rfl⟩, ⟨_, rfl, .rfl⟩, ⟨_, rfl, .rfl⟩, trivial⟩ ⟨⟨_, rfl, ⟨rfl, rfl, rfl⟩⟩, ⟨⟨_, rfl, ⟨rfl, rfl, (gs _ l2v3).symm⟩⟩, ⟨⟨_, rfl, ⟨rfl, ai.rfl⟩⟩, ⟨⟨_, rfl, ⟨rfl, ai.rfl⟩⟩, ⟨⟨_, rfl, ⟨rfl, ai.rfl⟩⟩, trivial⟩⟩⟩⟩⟩ rfl
 refine gF 41 rfl hd rfl ?_
 replace hd := (gQ hd)
 replace h := h.2 hd
 refine gR 10 rfl ?_
 refine gNC 2 3 27 4 rfl rfl rfl rfl ?_
 exact gJ (h K _ hK (by omega)) [0, 1, 2, 3, 4] [] rfl hK ⟨⟨_, rfl, .rfl⟩, ⟨_, rfl, .rfl⟩, ⟨_, rfl, .rfl⟩, ⟨_, rfl, .rfl⟩, ⟨_, rfl, .rfl⟩, ⟨_, rfl, .rfl⟩, ⟨_, rfl, .rfl⟩, trivial⟩ ⟨⟨_, rfl, ⟨rfl, rfl, rfl⟩⟩, ⟨⟨_, rfl, ⟨rfl, rfl, (gs _ l2v3).symm⟩⟩, ⟨⟨_, rfl, ⟨rfl, ai.rfl⟩⟩, ⟨⟨_, rfl, ⟨rfl, ai.rfl⟩⟩, ⟨⟨_, rfl, ⟨rfl, ai.rfl⟩⟩, trivial⟩⟩⟩⟩⟩ rfl
theorem gz (m : Nat) (p0 : Int) (p1 : (List Bool)) (p2 : Int) (i3v1 : Nat) (s3v2 : (List UInt8)) (l3v3 : (List Tree)) (l3v4 : (List Tree)) (i3v5 : Nat) (r0 : Tree) (h : 97 + i3v5 ≤ 9223372036854775807 ∧ (0 ≤ ((97 + i3v5 : Nat) : Int) ∧ ((97 + i3v5 : Nat) : Int) ≤ 255) ∧ [84].length + [UInt8.ofNat (97 + i3v5)].length ≤ 9223372036854775807 ∧ (l3v4 ++ [(Tree.node 3 ([84] ++ [UInt8.ofNat (97 + i3v5)]) [] [(Tree.node ((i3v1 : Nat) : Int) s3v2 [] l3v3)])]).length ≤ 1000000000 ∧ i3v5 + 1 ≤ 9223372036854775807 ∧ bV m p0 p1 p2 (l3v4 ++ [(Tree.node 3 ([84] ++ [UInt8.ofNat (97 + i3v5)]) [] [(Tree.node ((i3v1 : Nat) : Int) s3v2 [] l3v3)])]) (i3v5 + 1) r0) : bu (m + 1) p0 p1 p2 i3v1 s3v2 l3v3 l3v4 i3v5 r0 := by
 intro K j1 hK hj1
 obtain ⟨j1, rfl⟩ : ∃ j, j1 = j + 1 := ⟨j1 - 1, by omega⟩
 refine gR 4 rfl ?_
 obtain ⟨hb, h⟩ := h
 refine gR 1 rfl ?_
 refine gV 54 (.int .i64 ((97 + i3v5 : Nat) : Int)) rfl (aO (by omega) (by omega)) rfl ?_
 obtain ⟨hb, h⟩ := h
 refine gY (yCv Try.underlying3 Try.underlying5 rfl (n3 hb)) rfl rfl ?_
 refine gR 1 rfl ?_
 refine gDo (.nop) (dCb Try.underlying36 Try.underlying5 Try.underlying9 rfl rfl) trivial rfl rfl rfl ?_
 obtain ⟨hb, h⟩ := h
 refine gY (qc rfl rfl hb) rfl rfl ?_
 refine gR 1 rfl ?_
 refine gFR 4 rfl (gh _) rfl rfl ?_
 refine gS 59 (.agg [.int .i64 ((i3v1 : Nat) : Int), .str s3v2, .row 1 [], .row 4 (kidsV l3v3)]) rfl (.agg (.cons .rfl (.cons .rfl (.cons (.nil 1) (.cons .rfl .nil))))) rfl ?_
 refine gR 1 rfl ?_
 refine gHR 6 (kidsV [(Tree.node ((i3v1 : Nat) : Int) s3v2 [] l3v3)]) rfl (km (Tree.node ((i3v1 : Nat) : Int) s3v2 [] l3v3)) rfl ?_
 refine gR 1 rfl ?_
 refine gFR 6 rfl (gh _) rfl rfl ?_
 refine gS 61 (.agg [.int .i64 3, .str ([84] ++ [UInt8.ofNat (97 + i3v5)]), .row 1 [], .row 4 (kidsV [(Tree.node ((i3v1 : Nat) : Int) s3v2 [] l3v3)])]) rfl (.agg (.cons .rfl (.cons .rfl (.cons (.nil 1) (.cons .rfl .nil))))) rfl ?_
 refine gR 1 rfl ?_
 refine gHR 7 (kidsV [(Tree.node 3 ([84] ++ [UInt8.ofNat (97 + i3v5)]) [] [(Tree.node ((i3v1 : Nat) : Int) s3v2 [] l3v3)])]) rfl (km (Tree.node 3 ([84] ++ [UInt8.ofNat (97 + i3v5)]) [] [(Tree.node ((i3v1 : Nat) : Int) s3v2 [] l3v3)])) rfl ?_
 obtain ⟨hb, h⟩ := h
 refine gDo (.repl 3 (.row 27 4 (kidsV (l3v4 ++ [(Tree.node 3 ([84] ++ [UInt8.ofNat (97 + i3v5)]) [] [(Tree.node ((i3v1 : Nat) : Int) s3v2 [] l3v3)])])))) (nP aa rfl rfl rfl rfl rfl (kA l3v4 [(Tree.node 3 ([84] ++ [UInt8.ofNat (97 + i3v5)]) [] [(Tree.node ((i3v1 : Nat) : Int) s3v2 [] l3v3)])]).symm (by rw [bi]; exact hb)) (okR rfl) rfl rfl rfl ?_
 refine gR 7 rfl ?_
 obtain ⟨hb, h⟩ := h
 refine gR 1 rfl ?_
 refine gV 15 (.int .i64 ((i3v5 + 1 : Nat) : Int)) rfl (aO (by omega) (by omega)) rfl ?_
 refine gR 2 rfl ?_
 refine aH ?_
 exact gJ (h K _ hK (by omega)) [0, 1, 8] [] rfl hK ⟨⟨_, rfl, .rfl⟩, ⟨_, rfl, .rfl⟩, ⟨_, rfl, .rfl⟩, ⟨_, rfl, .rfl⟩, ⟨_, rfl, .rfl⟩, ⟨_, rfl, .rfl⟩, trivial⟩ ⟨⟨_, rfl, ⟨rfl, rfl, (gs _ (l3v4 ++ [(Tree.node 3 ([84] ++ [UInt8.ofNat (97 + i3v5)]) [] [(Tree.node ((i3v1 : Nat) : Int) s3v2 [] l3v3)])])).symm⟩⟩, ⟨⟨_, rfl, ⟨rfl, ai.rfl⟩⟩, ⟨⟨_, rfl, ⟨rfl, ai.rfl⟩⟩, trivial⟩⟩⟩ rfl
def aP (m : Nat) (p1 : (List Bool)) (n0_1 : Int) (t0_2 : Tree) (i1v1 : Nat) (t1v2 : Tree) (r0 : Bool) : Prop := ∀ (K : Ctx) (j1 : Nat), bk K [] → m ≤ j1 → Go Try.prog K (bodyPost Try.prog Try.f3 (SP K (fun u _ => u = .bool r0))) (.code (cL (cK (cB (cA (cB (cB (cB (cB (cB (aj Try.f3))))))))))) [.loop (cL (cK (cB (cA (cB (cB (cB (cB (cB (aj Try.f3)))))))))) j1, .blk 0, .seq (cB (cB (cB (cB (cB (cB (aj Try.f3)))))))] 64 (mkF 64 0 [(0, .int .i64 (1 + n0_1)), (1, .row 1 (List.map V.bool p1)), (5, .row 4 (kidsV [t0_2])), (6, .ptr 0 0), (8, .int .i64 ((i1v1 : Nat) : Int))]) ⟨1, [(0, .var 27 (aQ t1v2))]⟩
theorem fb (m : Nat) (p0 : Int) (p1 : (List Bool)) (r0 : Bool) (h : ∃ (n0_1 : Int), ca p0 20 n0_1 ∧ InI (1 + n0_1) ∧ ∃ (t0_2 : Tree), cg (1 + n0_1) p1 (-1) t0_2 ∧ ∃ (t0_3 : Tree), ∃ (n0_4 : Int), bY [t0_2] 0 (Tree.node 9 [84, 97] [] []) t0_3 n0_4 ∧ ((n0_4 ≠ 0) → false = r0) ∧ ((n0_4 = 0) → aP m p1 n0_1 t0_2 0 t0_3 r0)) : de p0 p1 r0 := by
 refine ⟨rfl, rfl, ?_⟩
 refine ao 64 [] Try.func3 rfl rfl rfl (aL rfl) fun K hK => ?_
 refine gR 8 rfl ?_
 obtain ⟨n0_1, hs19, h⟩ := h
 refine gC0 hs19 (by kernel_rfl) rfl rfl .rfl rfl ?_
 obtain ⟨hb, h⟩ := h
 refine gR 1 rfl ?_
 refine gV 11 (.int .i64 (1 + n0_1)) rfl (aO hb rfl) rfl ?_
 refine gR 7 rfl ?_
 obtain ⟨t0_2, hs20, h⟩ := h
 refine gC0 hs20 (by kernel_rfl) rfl rfl .rfl rfl ?_
 refine gR 1 rfl ?_
 refine gHR 0 (kidsV [t0_2]) rfl (km t0_2) rfl ?_
 refine gR 7 rfl ?_
 refine gFR 0 rfl (gh _) rfl rfl ?_
 obtain ⟨t0_3, n0_4, hs21, h⟩ := h
 refine gC0 hs21 (by kernel_rfl) rfl rfl (.cons .rfl (.cons .rfl (.cons (.agg (.cons .rfl (.cons .rfl (.cons (.nil 1) (.cons (.nil 4) .nil))))) .nil))) rfl ?_
 refine gR 15 rfl ?_
 refine gB 23 rfl rfl rfl (fun hd => ?_) (fun hd => ?_)
 replace hd := (gP hd)
 replace h := h.1 hd
 refine gR 8 rfl ?_
 subst h
 refine ab (F' := (mkF 64 0 [(4, .bool false)])) (H' := ⟨0, []⟩) [] [] rfl hK ⟨⟨_, rfl, .rfl⟩, trivial⟩ trivial rfl ?_
 exact ac aa (rs := [.tmp 4]) rfl rfl rfl
 replace hd := (fw hd)
 replace h := h.2 hd
 refine gR 10 rfl ?_
 refine go_loop m ?_
 exact gJ (h K _ hK (by omega)) [1] [] rfl hK ⟨⟨_, rfl, .rfl⟩, ⟨_, rfl, .rfl⟩, ⟨_, rfl, .rfl⟩, ⟨_, rfl, .rfl⟩, ⟨_, rfl, .rfl⟩, trivial⟩ ⟨⟨_, rfl, ⟨rfl, ai.rfl⟩⟩, trivial⟩ rfl
theorem aJ (m : Nat) (p1 : (List Bool)) (n0_1 : Int) (t0_2 : Tree) (i1v1 : Nat) (t1v2 : Tree) (r0 : Bool) (h : ((((i1v1 : Nat) : Int) < (1 + n0_1)) → ((i1v1 < p1.length) → ∃ (b1_1 : Bool), p1[i1v1]? = some b1_1 ∧ ((b1_1 = false) → aP m p1 n0_1 t0_2 (i1v1 + 1) t1v2 r0) ∧ ((b1_1 = true) → ((t1v2.kind ≠ 8) → false = r0) ∧ ((t1v2.kind = 8) → ((((t1v2.kids.length : Nat) : Int) ≠ 1) → false = r0) ∧ ((((t1v2.kids.length : Nat) : Int) = 1) → ∃ (t1_2 : Tree), t1v2.kids[0]? = some t1_2 ∧ aP m p1 n0_1 t0_2 (i1v1 + 1) t1_2 r0)))) ∧ ((¬ i1v1 < p1.length) → ∃ (b1_3 : Bool), bB b1_3 ∧ ((b1_3 = true) → ((t1v2.kind = 5) → ∃ (b1_4 : Bool), aT [t0_2] 0 0 b1_4 ∧ (!b1_4) = r0) ∧ ((t1v2.kind ≠ 5) → false = r0)) ∧ ((b1_3 = false) → false = r0))) ∧ ((¬ ((i1v1 : Nat) : Int) < (1 + n0_1)) → ∃ (b1_5 : Bool), bB b1_5 ∧ ((b1_5 = true) → ((t1v2.kind = 5) → ∃ (b1_6 : Bool), aT [t0_2] 0 0 b1_6 ∧ (!b1_6) = r0) ∧ ((t1v2.kind ≠ 5) → false = r0)) ∧ ((b1_5 = false) → false = r0))) : aP (m + 1) p1 n0_1 t0_2 i1v1 t1v2 r0 := by
 intro K j1 hK hj1
 obtain ⟨j1, rfl⟩ : ∃ j, j1 = j + 1 := ⟨j1 - 1, by omega⟩
 refine gR 7 rfl ?_
 refine gB 27 rfl rfl rfl (fun hd => ?_) (fun hd => ?_)
 refine gT 26 rfl hd rfl ?_
 replace hd := (of_decide_eq_true hd)
 replace h := h.1 hd
 refine gR 3 rfl ?_
 refine gV 30 (.int .i64 ((p1.length : Nat) : Int)) rfl (cD (eD V.bool _)) rfl ?_
 refine gLB 29 rfl (eD V.bool _) fun hl22 => ?_
 refine gR 4 rfl ?_
 refine gB 32 rfl rfl rfl (fun hd => ?_) (fun hd => ?_)
 replace hd := (gZ hd)
 replace h := h.1 hd
 refine gR 10 rfl ?_
 obtain ⟨b1_1, hxb1_1, h⟩ := h
 refine gY (cc (mapget (f := V.bool) hxb1_1) aa rfl rfl rfl rfl) rfl rfl ?_
 refine gR 4 rfl ?_
 refine gB 39 rfl rfl rfl (fun hd => ?_) (fun hd => ?_)
 replace hd := (c7 hd)
 replace h := h.1 hd
 refine gR 8 rfl ?_
 refine gV 34 (.int .i64 ((i1v1 + 1 : Nat) : Int)) rfl (aO (by have := hl22; omega) (by omega)) rfl ?_
 refine gR 2 rfl ?_
 refine aH ?_
 exact gJ (h K _ hK (by omega)) [0] [] rfl hK ⟨⟨_, rfl, .rfl⟩, ⟨_, rfl, .rfl⟩, ⟨_, rfl, .rfl⟩, ⟨_, rfl, .rfl⟩, ⟨_, rfl, .rfl⟩, trivial⟩ ⟨⟨_, rfl, ⟨rfl, ai.rfl⟩⟩, trivial⟩ rfl
 replace hd := (cW hd)
 replace h := h.2 hd
 refine gR 10 rfl ?_
 refine gB 43 rfl rfl rfl (fun hd => ?_) (fun hd => ?_)
 refine gT 42 rfl hd rfl ?_
 replace hd := (gP hd)
 replace h := h.1 hd
 refine gR 17 rfl ?_
 refine aS ?_
 refine gR 2 rfl ?_
 subst h
 refine ab (F' := (mkF 64 0 [(4, .bool false)])) (H' := ⟨0, []⟩) [] [] rfl hK ⟨⟨_, rfl, .rfl⟩, trivial⟩ trivial rfl ?_
 exact ac aa (rs := [.tmp 4]) rfl rfl rfl
 refine gF 42 rfl hd rfl ?_
 replace hd := (fw hd)
 replace h := h.2 hd
 refine gR 3 rfl ?_
 refine gV 46 (.int .i64 ((t1v2.kids.length : Nat) : Int)) rfl (cD (bi _)) rfl ?_
 refine gLB 45 rfl (bi _) fun hl23 => ?_
 refine gR 4 rfl ?_
 refine gB 48 rfl rfl rfl (fun hd => ?_) (fun hd => ?_)
 replace hd := (gP hd)
 replace h := h.1 hd
 refine gR 10 rfl ?_
 refine aS ?_
 refine gR 2 rfl ?_
 subst h
 refine ab (F' := (mkF 64 0 [(4, .bool false)])) (H' := ⟨0, []⟩) [] [] rfl hK ⟨⟨_, rfl, .rfl⟩, trivial⟩ trivial rfl ?_
 exact ac aa (rs := [.tmp 4]) rfl rfl rfl
 replace hd := (fw hd)
 replace h := h.2 hd
 refine gR 6 rfl ?_
 obtain ⟨t1_2, hxt1_2, h⟩ := h
 refine gY (cc (aC hxt1_2) aa rfl rfl rfl rfl) rfl rfl ?_
 refine gR 8 rfl ?_
 refine gV 34 (.int .i64 ((i1v1 + 1 : Nat) : Int)) rfl (aO (by have := hl22; omega) (by omega)) rfl ?_
 refine gR 2 rfl ?_
 refine aH ?_
 exact gJ (h K _ hK (by omega)) [0] [] rfl hK ⟨⟨_, rfl, .rfl⟩, ⟨_, rfl, .rfl⟩, ⟨_, rfl, .rfl⟩, ⟨_, rfl, .rfl⟩, ⟨_, rfl, .rfl⟩, trivial⟩ ⟨⟨_, rfl, ⟨rfl, ai.rfl⟩⟩, trivial⟩ rfl
 replace hd := (gQ hd)
 replace h := h.2 hd
 refine gR 3 rfl ?_
 refine aK ?_
 refine gR 4 rfl ?_
 obtain ⟨b1_3, hs24, h⟩ := h
 refine gC0 hs24 (by kernel_rfl) rfl rfl .rfl rfl ?_
 refine gR 1 rfl ?_
 refine gB 54 rfl rfl rfl (fun hd => ?_) (fun hd => ?_)
 refine gT 53 rfl hd rfl ?_
 replace h := h.1 hd
 refine gR 5 rfl ?_
 refine gB 59 rfl rfl rfl (fun hd => ?_) (fun hd => ?_)
 refine gT 58 rfl hd rfl ?_
 replace hd := (eq_of_beq hd)
 replace h := h.1 hd
 refine gR 1 rfl ?_
 obtain ⟨b1_4, hs25, h⟩ := h
 refine gC0 hs25 (by kernel_rfl) rfl rfl .rfl rfl ?_
 refine gR 6 rfl ?_
 subst h
 refine ab (F' := (mkF 64 0 [(4, .bool (!b1_4))])) (H' := ⟨0, []⟩) [] [] rfl hK ⟨⟨_, rfl, .rfl⟩, trivial⟩ trivial rfl ?_
 exact ac aa (rs := [.tmp 4]) rfl rfl rfl
 refine gF 58 rfl hd rfl ?_
 replace hd := (ne_of_beq_false hd)
 replace h := h.2 hd
 refine gR 8 rfl ?_
 subst h
 refine ab (F' := (mkF 64 0 [(4, .bool false)])) (H' := ⟨0, []⟩) [] [] rfl hK ⟨⟨_, rfl, .rfl⟩, trivial⟩ trivial rfl ?_
 exact ac aa (rs := [.tmp 4]) rfl rfl rfl
 refine gF 53 rfl hd rfl ?_
 replace h := h.2 hd
 refine gR 13 rfl ?_
 subst h
 refine ab (F' := (mkF 64 0 [(4, .bool false)])) (H' := ⟨0, []⟩) [] [] rfl hK ⟨⟨_, rfl, .rfl⟩, trivial⟩ trivial rfl ?_
 exact ac aa (rs := [.tmp 4]) rfl rfl rfl
 refine gF 26 rfl hd rfl ?_
 replace hd := (of_decide_eq_false hd)
 replace h := h.2 hd
 refine gR 10 rfl ?_
 refine aK ?_
 refine gR 4 rfl ?_
 obtain ⟨b1_5, hs26, h⟩ := h
 refine gC0 hs26 (by kernel_rfl) rfl rfl .rfl rfl ?_
 refine gR 1 rfl ?_
 refine gB 54 rfl rfl rfl (fun hd => ?_) (fun hd => ?_)
 refine gT 53 rfl hd rfl ?_
 replace h := h.1 hd
 refine gR 5 rfl ?_
 refine gB 59 rfl rfl rfl (fun hd => ?_) (fun hd => ?_)
 refine gT 58 rfl hd rfl ?_
 replace hd := (eq_of_beq hd)
 replace h := h.1 hd
 refine gR 1 rfl ?_
 obtain ⟨b1_6, hs27, h⟩ := h
 refine gC0 hs27 (by kernel_rfl) rfl rfl .rfl rfl ?_
 refine gR 6 rfl ?_
 subst h
 refine ab (F' := (mkF 64 0 [(4, .bool (!b1_6))])) (H' := ⟨0, []⟩) [] [] rfl hK ⟨⟨_, rfl, .rfl⟩, trivial⟩ trivial rfl ?_
 exact ac aa (rs := [.tmp 4]) rfl rfl rfl
 refine gF 58 rfl hd rfl ?_
 replace hd := (ne_of_beq_false hd)
 replace h := h.2 hd
 refine gR 8 rfl ?_
 subst h
 refine ab (F' := (mkF 64 0 [(4, .bool false)])) (H' := ⟨0, []⟩) [] [] rfl hK ⟨⟨_, rfl, .rfl⟩, trivial⟩ trivial rfl ?_
 exact ac aa (rs := [.tmp 4]) rfl rfl rfl
 refine gF 53 rfl hd rfl ?_
 replace h := h.2 hd
 refine gR 13 rfl ?_
 subst h
 refine ab (F' := (mkF 64 0 [(4, .bool false)])) (H' := ⟨0, []⟩) [] [] rfl hK ⟨⟨_, rfl, .rfl⟩, trivial⟩ trivial rfl ?_
 exact ac aa (rs := [.tmp 4]) rfl rfl rfl
def bf (m : Nat) (n0_1 : Int) (n0_2 : Int) (l1v1 : (List Tree)) (i1v2 : Nat) (r0 : Bool) : Prop := ∀ (K : Ctx) (j1 : Nat), bk K [] → m ≤ j1 → Go Try.prog K (bodyPost Try.prog Try.f4 (SP K (fun u _ => u = .bool r0))) (.code (cL (cK (cB (cA (cB (cB (cB (cB (aj Try.f4)))))))))) [.loop (cL (cK (cB (cA (cB (cB (cB (cB (aj Try.f4))))))))) j1, .blk 0, .seq (cB (cB (cB (cB (cB (aj Try.f4))))))] 53 (mkF 53 0 [(0, .int .i64 (1 + n0_1)), (1, .int .i64 n0_2), (7, .row 4 (kidsV l1v1)), (8, .int .i64 ((i1v2 : Nat) : Int))]) ⟨0, []⟩
theorem fa (m : Nat) (p0 : Int) (p1 : Int) (p2 : (List Bool)) (r0 : Bool) (h : ∃ (n0_1 : Int), ca p0 20 n0_1 ∧ InI (1 + n0_1) ∧ ∃ (n0_2 : Int), ca p1 (1 + n0_1) n0_2 ∧ ∃ (t0_3 : Tree), cg (1 + n0_1) p2 n0_2 t0_3 ∧ bf m n0_1 n0_2 [t0_3] 0 r0) : db p0 p1 p2 r0 := by
 refine ⟨rfl, rfl, ?_⟩
 refine ao 53 [] Try.func4 rfl rfl rfl (aL rfl) fun K hK => ?_
 refine gR 8 rfl ?_
 obtain ⟨n0_1, hs13, h⟩ := h
 refine gC0 hs13 (by kernel_rfl) rfl rfl .rfl rfl ?_
 obtain ⟨hb, h⟩ := h
 refine gR 1 rfl ?_
 refine gV 13 (.int .i64 (1 + n0_1)) rfl (aO hb rfl) rfl ?_
 refine gR 7 rfl ?_
 obtain ⟨n0_2, hs14, h⟩ := h
 refine gC0 hs14 (by kernel_rfl) rfl rfl .rfl rfl ?_
 refine gR 8 rfl ?_
 obtain ⟨t0_3, hs15, h⟩ := h
 refine gC0 hs15 (by kernel_rfl) rfl rfl .rfl rfl ?_
 refine gR 1 rfl ?_
 refine gHR 0 (kidsV [t0_3]) rfl (km t0_3) rfl ?_
 refine gR 10 rfl ?_
 refine go_loop m ?_
 refine gFR 0 rfl (gh _) rfl rfl ?_
 exact gJ (h K _ hK (by omega)) [] [] rfl hK ⟨⟨_, rfl, .rfl⟩, ⟨_, rfl, .rfl⟩, ⟨_, rfl, .rfl⟩, ⟨_, rfl, .rfl⟩, trivial⟩ trivial rfl
theorem bK (m : Nat) (n0_1 : Int) (n0_2 : Int) (l1v1 : (List Tree)) (i1v2 : Nat) (r0 : Bool) (h : ((((i1v2 : Nat) : Int) < (1 + n0_1)) → ∃ (t1_1 : Tree), l1v1[0]? = some t1_1 ∧ ∃ (t1_2 : Tree), t1_1.kids[i1v2]? = some t1_2 ∧ ∃ (t1_3 : Tree), ∃ (n1_4 : Int), bY l1v1 0 (Tree.node 9 t1_2.text [] []) t1_3 n1_4 ∧ ((n1_4 ≠ 19) → false = r0) ∧ ((n1_4 = 19) → ∃ (b1_5 : Bool), aT l1v1 0 ((i1v2 : Nat) : Int) b1_5 ∧ ((b1_5 ≠ (decide (n0_2 ≤ ((i1v2 : Nat) : Int)))) → false = r0) ∧ ((b1_5 = (decide (n0_2 ≤ ((i1v2 : Nat) : Int)))) → i1v2 + 1 ≤ 9223372036854775807 ∧ bf m n0_1 n0_2 l1v1 (i1v2 + 1) r0))) ∧ ((¬ ((i1v2 : Nat) : Int) < (1 + n0_1)) → ∃ (b1_6 : Bool), bB b1_6 ∧ b1_6 = r0)) : bf (m + 1) n0_1 n0_2 l1v1 i1v2 r0 := by
 intro K j1 hK hj1
 obtain ⟨j1, rfl⟩ : ∃ j, j1 = j + 1 := ⟨j1 - 1, by omega⟩
 refine gR 8 rfl ?_
 refine gB 24 rfl rfl rfl (fun hd => ?_) (fun hd => ?_)
 replace hd := (of_decide_eq_true hd)
 replace h := h.1 hd
 refine gR 9 rfl ?_
 obtain ⟨t1_1, hxt1_1, h⟩ := h
 refine gY (cc (aC hxt1_1) aa rfl rfl rfl rfl) rfl rfl ?_
 refine gR 3 rfl ?_
 obtain ⟨t1_2, hxt1_2, h⟩ := h
 refine gY (cc (aC hxt1_2) aa rfl rfl rfl rfl) rfl rfl ?_
 refine gR 3 rfl ?_
 obtain ⟨t1_3, n1_4, hs16, h⟩ := h
 refine gC0 hs16 (by kernel_rfl) rfl rfl (.cons .rfl (.cons .rfl (.cons (.agg (.cons .rfl (.cons .rfl (.cons (.nil 1) (.cons (.nil 4) .nil))))) .nil))) rfl ?_
 refine gR 13 rfl ?_
 refine gB 43 rfl rfl rfl (fun hd => ?_) (fun hd => ?_)
 refine gT 42 rfl hd rfl ?_
 replace hd := (gP hd)
 replace h := h.1 hd
 refine gR 19 rfl ?_
 refine aS ?_
 refine gR 2 rfl ?_
 subst h
 refine ab (F' := (mkF 53 0 [(6, .bool false)])) (H' := ⟨0, []⟩) [] [] rfl hK ⟨⟨_, rfl, .rfl⟩, trivial⟩ trivial rfl ?_
 exact ac aa (rs := [.tmp 6]) rfl rfl rfl
 refine gF 42 rfl hd rfl ?_
 replace hd := (fw hd)
 replace h := h.2 hd
 refine gR 2 rfl ?_
 obtain ⟨b1_5, hs17, h⟩ := h
 refine gC0 hs17 (by kernel_rfl) rfl rfl .rfl rfl ?_
 refine gR 7 rfl ?_
 refine gB 51 rfl rfl rfl (fun hd => ?_) (fun hd => ?_)
 replace hd := (gP hd)
 replace h := h.1 hd
 refine gR 9 rfl ?_
 refine aS ?_
 refine gR 2 rfl ?_
 subst h
 refine ab (F' := (mkF 53 0 [(6, .bool false)])) (H' := ⟨0, []⟩) [] [] rfl hK ⟨⟨_, rfl, .rfl⟩, trivial⟩ trivial rfl ?_
 exact ac aa (rs := [.tmp 6]) rfl rfl rfl
 replace hd := (fw hd)
 replace h := h.2 hd
 refine gR 6 rfl ?_
 obtain ⟨hb, h⟩ := h
 refine gR 1 rfl ?_
 refine gV 26 (.int .i64 ((i1v2 + 1 : Nat) : Int)) rfl (aO (by omega) (by omega)) rfl ?_
 refine gR 2 rfl ?_
 refine aH ?_
 exact gJ (h K _ hK (by omega)) [] [] rfl hK ⟨⟨_, rfl, .rfl⟩, ⟨_, rfl, .rfl⟩, ⟨_, rfl, .rfl⟩, ⟨_, rfl, .rfl⟩, trivial⟩ trivial rfl
 replace hd := (of_decide_eq_false hd)
 replace h := h.2 hd
 refine gR 3 rfl ?_
 refine aK ?_
 refine gR 4 rfl ?_
 obtain ⟨b1_6, hs18, h⟩ := h
 refine gC0 hs18 (by kernel_rfl) rfl rfl .rfl rfl ?_
 refine gR 4 rfl ?_
 subst h
 refine ab (F' := (mkF 53 0 [(6, .bool b1_6)])) (H' := ⟨0, []⟩) [] [] rfl hK ⟨⟨_, rfl, .rfl⟩, trivial⟩ trivial rfl ?_
 exact ac aa (rs := [.tmp 6]) rfl rfl rfl
theorem gr (m : Nat) (r0 : Bool) (h : ∃ (t0_1 : Tree), ∃ (n0_2 : Int), ∃ (n0_3 : Int), fG [109, 111, 100, 117, 108, 101, 32, 65, 32, 116, 121, 112, 101, 32, 84, 32, 61, 32, 91, 66, 46, 85, 93] t0_1 n0_2 n0_3 ∧ ∃ (t0_4 : Tree), ∃ (n0_5 : Int), ∃ (n0_6 : Int), fG [109, 111, 100, 117, 108, 101, 32, 66, 32, 116, 121, 112, 101, 32, 85, 32, 61, 32, 73, 110, 116, 32, 116, 121, 112, 101, 32, 86, 32, 61, 32, 86] t0_4 n0_5 n0_6 ∧ ∃ (t0_7 : Tree), ∃ (n0_8 : Int), bY [t0_1, t0_4] 0 (Tree.node 9 [84] [] []) t0_7 n0_8 ∧ ∃ (t0_9 : Tree), ∃ (n0_10 : Int), bY [t0_1, t0_4] 1 (Tree.node 9 [86] [] []) t0_9 n0_10 ∧ ((n0_3 = 0) → ((n0_6 = 0) → ((n0_8 = 0) → ((t0_7.kind = 8) → ((((t0_7.kids.length : Nat) : Int) = 1) → ∃ (t0_11 : Tree), t0_7.kids[0]? = some t0_11 ∧ ((t0_11.kind = 5) → ((n0_10 = 19) → ∃ (b0_12 : Bool), aT [t0_1, t0_4] 1 1 b0_12 ∧ ((b0_12 = true) → ∃ (b0_13 : Bool), aT [t0_1, t0_4] 1 0 b0_13 ∧ (!b0_13) = r0) ∧ ((b0_12 = false) → false = r0)) ∧ ((n0_10 ≠ 19) → false = r0)) ∧ ((t0_11.kind ≠ 5) → false = r0)) ∧ ((((t0_7.kids.length : Nat) : Int) ≠ 1) → false = r0)) ∧ ((t0_7.kind ≠ 8) → false = r0)) ∧ ((n0_8 ≠ 0) → false = r0)) ∧ ((n0_6 ≠ 0) → false = r0)) ∧ ((n0_3 ≠ 0) → false = r0)) : dQ r0 := by
 refine ⟨rfl, rfl, ?_⟩
 refine ao 79 [] Try.func8 rfl rfl rfl (aL rfl) fun K hK => ?_
 refine gR 7 rfl ?_
 obtain ⟨t0_1, n0_2, n0_3, hs8, h⟩ := h
 refine gC0 hs8 (by kernel_rfl) rfl rfl .rfl rfl ?_
 refine gR 12 rfl ?_
 obtain ⟨t0_4, n0_5, n0_6, hs9, h⟩ := h
 refine gC0 hs9 (by kernel_rfl) rfl rfl .rfl rfl ?_
 refine gR 15 rfl ?_
 refine gHR 2 (kidsV [t0_1, t0_4]) rfl (tN [t0_1, t0_4]) rfl ?_
 refine gR 7 rfl ?_
 refine gFR 2 rfl (gh _) rfl rfl ?_
 obtain ⟨t0_7, n0_8, hs10, h⟩ := h
 refine gC0 hs10 (by kernel_rfl) rfl rfl (.cons .rfl (.cons .rfl (.cons (.agg (.cons .rfl (.cons .rfl (.cons (.nil 1) (.cons (.nil 4) .nil))))) .nil))) rfl ?_
 refine gR 12 rfl ?_
 obtain ⟨t0_9, n0_10, hs11, h⟩ := h
 refine gC0 hs11 (by kernel_rfl) rfl rfl (.cons .rfl (.cons .rfl (.cons (.agg (.cons .rfl (.cons .rfl (.cons (.nil 1) (.cons (.nil 4) .nil))))) .nil))) rfl ?_
 refine gR 8 rfl ?_
 refine ab (F' := (mkF 79 0 [(3, .int .i64 n0_3), (6, .int .i64 n0_6), (7, .row 4 (kidsV [t0_1, t0_4])), (8, .ptr 0 0), (9, .int .i64 n0_8), (11, .int .i64 n0_10)])) (H' := ⟨1, [(0, .var 27 (aQ t0_7))]⟩) [3] [] rfl hK ⟨⟨_, rfl, .rfl⟩, ⟨_, rfl, .rfl⟩, ⟨_, rfl, .rfl⟩, ⟨_, rfl, .rfl⟩, ⟨_, rfl, .rfl⟩, ⟨_, rfl, .rfl⟩, trivial⟩ ⟨⟨_, rfl, ⟨rfl, ai.rfl⟩⟩, trivial⟩ rfl ?_
 refine gR 5 rfl ?_
 refine gB 39 rfl rfl rfl (fun hd => ?_) (fun hd => ?_)
 refine gT 38 rfl hd rfl ?_
 replace hd := (eq_of_beq hd)
 replace h := h.1 hd
 refine gR 4 rfl ?_
 refine gB 43 rfl rfl rfl (fun hd => ?_) (fun hd => ?_)
 refine gT 42 rfl hd rfl ?_
 replace hd := (eq_of_beq hd)
 replace h := h.1 hd
 refine gR 4 rfl ?_
 refine gB 47 rfl rfl rfl (fun hd => ?_) (fun hd => ?_)
 refine gT 46 rfl hd rfl ?_
 replace hd := (eq_of_beq hd)
 replace h := h.1 hd
 refine gR 5 rfl ?_
 refine gB 52 rfl rfl rfl (fun hd => ?_) (fun hd => ?_)
 refine gT 51 rfl hd rfl ?_
 replace hd := (eq_of_beq hd)
 replace h := h.1 hd
 refine gR 3 rfl ?_
 refine gV 55 (.int .i64 ((t0_7.kids.length : Nat) : Int)) rfl (cD (bi _)) rfl ?_
 refine gLB 54 rfl (bi _) fun hl12 => ?_
 refine gR 3 rfl ?_
 refine gB 58 rfl rfl rfl (fun hd => ?_) (fun hd => ?_)
 refine gT 57 rfl hd rfl ?_
 replace hd := (eq_of_beq hd)
 replace h := h.1 hd
 refine gR 2 rfl ?_
 obtain ⟨t0_11, hxt0_11, h⟩ := h
 refine gY (cc (aC hxt0_11) aa rfl rfl rfl rfl) rfl rfl ?_
 refine gR 5 rfl ?_
 refine gB 66 rfl rfl rfl (fun hd => ?_) (fun hd => ?_)
 refine gT 65 rfl hd rfl ?_
 replace hd := (eq_of_beq hd)
 replace h := h.1 hd
 refine gR 4 rfl ?_
 refine gB 70 rfl rfl rfl (fun hd => ?_) (fun hd => ?_)
 refine gT 69 rfl hd rfl ?_
 replace hd := (eq_of_beq hd)
 replace h := h.1 hd
 refine gR 1 rfl ?_
 obtain ⟨b0_12, hs13, h⟩ := h
 refine gC0 hs13 (by kernel_rfl) rfl rfl .rfl rfl ?_
 refine gR 2 rfl ?_
 refine gB 74 rfl rfl rfl (fun hd => ?_) (fun hd => ?_)
 refine gT 73 rfl hd rfl ?_
 replace h := h.1 hd
 refine gR 1 rfl ?_
 obtain ⟨b0_13, hs14, h⟩ := h
 refine gC0 hs14 (by kernel_rfl) rfl rfl .rfl rfl ?_
 refine gR 6 rfl ?_
 subst h
 refine ab (F' := (mkF 79 0 [(0, .bool (!b0_13))])) (H' := ⟨0, []⟩) [] [] rfl hK ⟨⟨_, rfl, .rfl⟩, trivial⟩ trivial rfl ?_
 exact ac aa (rs := [.tmp 0]) rfl rfl rfl
 refine gF 73 rfl hd rfl ?_
 replace h := h.2 hd
 refine gR 8 rfl ?_
 subst h
 refine ab (F' := (mkF 79 0 [(0, .bool false)])) (H' := ⟨0, []⟩) [] [] rfl hK ⟨⟨_, rfl, .rfl⟩, trivial⟩ trivial rfl ?_
 exact ac aa (rs := [.tmp 0]) rfl rfl rfl
 refine gF 69 rfl hd rfl ?_
 replace hd := (ne_of_beq_false hd)
 replace h := h.2 hd
 refine gR 12 rfl ?_
 subst h
 refine ab (F' := (mkF 79 0 [(0, .bool false)])) (H' := ⟨0, []⟩) [] [] rfl hK ⟨⟨_, rfl, .rfl⟩, trivial⟩ trivial rfl ?_
 exact ac aa (rs := [.tmp 0]) rfl rfl rfl
 refine gF 65 rfl hd rfl ?_
 replace hd := (ne_of_beq_false hd)
 replace h := h.2 hd
 refine gR 16 rfl ?_
 subst h
 refine ab (F' := (mkF 79 0 [(0, .bool false)])) (H' := ⟨0, []⟩) [] [] rfl hK ⟨⟨_, rfl, .rfl⟩, trivial⟩ trivial rfl ?_
 exact ac aa (rs := [.tmp 0]) rfl rfl rfl
 refine gF 57 rfl hd rfl ?_
 replace hd := (ne_of_beq_false hd)
 replace h := h.2 hd
 refine gR 24 rfl ?_
 subst h
 refine ab (F' := (mkF 79 0 [(0, .bool false)])) (H' := ⟨0, []⟩) [] [] rfl hK ⟨⟨_, rfl, .rfl⟩, trivial⟩ trivial rfl ?_
 exact ac aa (rs := [.tmp 0]) rfl rfl rfl
 refine gF 51 rfl hd rfl ?_
 replace hd := (ne_of_beq_false hd)
 replace h := h.2 hd
 refine gR 30 rfl ?_
 subst h
 refine ab (F' := (mkF 79 0 [(0, .bool false)])) (H' := ⟨0, []⟩) [] [] rfl hK ⟨⟨_, rfl, .rfl⟩, trivial⟩ trivial rfl ?_
 exact ac aa (rs := [.tmp 0]) rfl rfl rfl
 refine gF 46 rfl hd rfl ?_
 replace hd := (ne_of_beq_false hd)
 replace h := h.2 hd
 refine gR 35 rfl ?_
 subst h
 refine ab (F' := (mkF 79 0 [(0, .bool false)])) (H' := ⟨0, []⟩) [] [] rfl hK ⟨⟨_, rfl, .rfl⟩, trivial⟩ trivial rfl ?_
 exact ac aa (rs := [.tmp 0]) rfl rfl rfl
 refine gF 42 rfl hd rfl ?_
 replace hd := (ne_of_beq_false hd)
 replace h := h.2 hd
 refine gR 39 rfl ?_
 subst h
 refine ab (F' := (mkF 79 0 [(0, .bool false)])) (H' := ⟨0, []⟩) [] [] rfl hK ⟨⟨_, rfl, .rfl⟩, trivial⟩ trivial rfl ?_
 exact ac aa (rs := [.tmp 0]) rfl rfl rfl
 refine gF 38 rfl hd rfl ?_
 replace hd := (ne_of_beq_false hd)
 replace h := h.2 hd
 refine gR 43 rfl ?_
 subst h
 refine ab (F' := (mkF 79 0 [(0, .bool false)])) (H' := ⟨0, []⟩) [] [] rfl hK ⟨⟨_, rfl, .rfl⟩, trivial⟩ trivial rfl ?_
 exact ac aa (rs := [.tmp 0]) rfl rfl rfl
theorem fh (m : Nat) (p0 : Int) (p1 : Int) (r0 : Int) (h : p1 ≠ 0 ∧ (((Int.tmod p0 p1) < 0) → InI ((Int.tmod p0 p1) + p1) ∧ ((Int.tmod p0 p1) + p1) = r0) ∧ ((¬ (Int.tmod p0 p1) < 0) → (Int.tmod p0 p1) = r0)) : ca p0 p1 r0 := by
 refine ⟨rfl, rfl, ?_⟩
 refine ao 14 [] Try.func5 rfl rfl rfl (aL rfl) fun K hK => ?_
 refine gR 9 rfl ?_
 obtain ⟨hb, h⟩ := h
 refine gY (tJ rfl rfl hb) rfl rfl ?_
 refine gR 10 rfl ?_
 refine gB 9 rfl rfl rfl (fun hd => ?_) (fun hd => ?_)
 replace hd := (of_decide_eq_true hd)
 replace h := h.1 hd
 refine gR 4 rfl ?_
 obtain ⟨hb, h⟩ := h
 refine gR 1 rfl ?_
 refine gV 12 (.int .i64 ((Int.tmod p0 p1) + p1)) rfl (aO hb rfl) rfl ?_
 refine gR 10 rfl ?_
 subst h
 refine ab (F' := (mkF 14 0 [(4, .int .i64 ((Int.tmod p0 p1) + p1))])) (H' := ⟨0, []⟩) [] [] rfl hK ⟨⟨_, rfl, .rfl⟩, trivial⟩ trivial rfl ?_
 exact ac aa (rs := [.tmp 4]) rfl rfl rfl
 replace hd := (of_decide_eq_false hd)
 replace h := h.2 hd
 refine gR 10 rfl ?_
 subst h
 refine ab (F' := (mkF 14 0 [(4, .int .i64 (Int.tmod p0 p1))])) (H' := ⟨0, []⟩) [] [] rfl hK ⟨⟨_, rfl, .rfl⟩, trivial⟩ trivial rfl ?_
 exact ac aa (rs := [.tmp 4]) rfl rfl rfl
end Go.Proofs.Ytiknldgpnhikhaa
namespace Go.Proofs.Ytiknldgpnhikhaa
open Go.RowKit Lx Sx
set_option maxRecDepth 100000
set_option maxHeartbeats 1000000
def nmT (j : Nat) : List UInt8 := [84, UInt8.ofNat (97 + j)]
def lg : Option Nat → Tree
  | none => .node 5 [] [] []
  | some b => .node 9 (nmT b) [] []
def cm (n : Nat) (back : Option Nat) (i : Nat) : Tree := if i + 1 = n then lg back else .node 9 (nmT (i + 1)) [] []
def wrT (b : Bool) (y : Tree) : Tree := if b then .node 8 [] [] [y] else y
def ej (ls : List Bool) (i : Nat) : Bool := ls.getD i false
def cC (n : Nat) (back : Option Nat) (ls : List Bool) (i : Nat) : Tree := .node 3 (nmT i) [] [wrT (ej ls i) (cm n back i)]
def al (n : Nat) (back : Option Nat) (ls : List Bool) : Tree := .node 1 [77] [] ((List.range n).map (cC n back ls))
def hO : Option Nat → Int
  | none => -1
  | some b => (b : Int)
theorem nt {n : Nat} (hn : n ≤ 20) (back : Option Nat) (hb : ∀ b, back = some b → b < n) (ls : List Bool) : cg n ls (hO back) (al n back ls) := by
  have loop : ∀ e i, n - i ≤ e → i ≤ n → bV (3 * e + 1) n ls (hO back) ((List.range i).map (cC n back ls)) i (al n back ls) := fun e => by
    induction e with
    | zero =>
      intro i hi hle
      obtain rfl : i = n := by omega
      exact cH 0 _ _ _ _ _ _ ⟨fun h => by omega, fun _ => rfl⟩
    | succ e ihe =>
      intro i hi hle
      by_cases hin : i = n
      · subst hin
        exact cH _ _ _ _ _ _ _ ⟨fun h => by omega, fun _ => rfl⟩
      have hi1 : i < n := by omega
      have ih := ihe (i + 1) (by omega) (by omega)
      rw [List.range_succ, List.map_append, List.map_singleton] at ih
      have l2 : ∀ (z : Nat) (s : List UInt8) (ks : List Tree), Tree.node (z : Int) s [] ks = wrT (ej ls i) (cm n back i) → bu (3 * e + 2) n ls (hO back) z s ks ((List.range i).map (cC n back ls)) i (al n back ls) := fun z s ks hz => by
        refine gz _ _ _ _ _ _ _ _ _ _ ⟨by omega, ⟨by omega, by omega⟩, by simp, by simp; omega, by omega, ?_⟩
        rw [hz]
        exact ih
      have l1 : ∀ (z : Nat) (s : List UInt8), Tree.node (z : Int) s [] [] = cm n back i → br (3 * e + 3) n ls (hO back) z s ((List.range i).map (cC n back ls)) i (al n back ls) := fun z s hz => by
        refine gL _ _ _ _ _ _ _ _ _ ⟨fun h => ?_, fun h => ?_⟩
        · obtain ⟨b, hb, _⟩ | h' := dp ls i
          · have hbit : ej ls i = b := by unfold ej; rw [List.getD_eq_getElem?_getD, hb]; rfl
            refine ⟨b, hb, fun h1 => l2 8 [] _ ?_, fun h1 => l2 z s [] ?_⟩
            · rw [hbit, h1, ← hz]; rfl
            · rw [hbit, h1, ← hz]; rfl
          · exact absurd h h'
        · have hbit : ej ls i = false := by unfold ej; rw [List.getD_eq_getElem?_getD, List.getElem?_eq_none (by omega)]; rfl
          exact l2 z s [] (by rw [hbit, ← hz]; rfl)
      rw [show 3 * (e + 1) + 1 = 3 * e + 3 + 1 by omega]
      refine cH _ _ _ _ _ _ _ ⟨fun _ => ⟨by omega, by omega, ⟨by omega, by omega⟩, by simp, by unfold InI; omega, fun h1 => ⟨fun h2 => ?_, fun h2 => ?_⟩, fun h1 => ?_⟩, fun h => by omega⟩
      · cases hbk : back with
        | none => rw [hbk] at h2; simp [hO] at h2
        | some b =>
          have hbn := hb b hbk
          simp only [hO]
          have e1 : ((97 : Int) + (b : Int)).toNat = 97 + b := by omega
          refine ⟨by unfold InI; omega, ⟨by omega, by omega⟩, by simp, ?_⟩
          rw [e1]
          have := l1 9 (nmT b) (by rw [cm, if_pos (by omega), hbk]; rfl)
          rw [hbk] at this
          exact this
      · cases hbk : back with
        | none =>
          have := l1 5 [] (by rw [cm, if_pos (by omega), hbk]; rfl)
          rw [hbk] at this
          exact this
        | some b => rw [hbk] at h2; simp only [hO] at h2; omega
      · exact l1 9 (nmT (i + 1)) (by rw [cm, if_neg (by omega)]; rfl)
  have := loop n 0 (by omega) (by omega)
  exact ia _ _ _ _ _ this
def tyT (j : Nat) : Tree := if j = 21 then .node 5 [] [] [] else .node 9 (nmT j) [] []
theorem sa : ∀ i, i < 21 → ∀ b : Bool, ∀ j, j < 22 → shapeK (.node 3 (nmT i) [] [wrT b (tyT j)]) = true := by decide +kernel
theorem rT : ∀ i, i < 21 → ∀ j, j < 21 → nmT i = nmT j → i = j := by decide +kernel
theorem sH : ∀ i, i < 21 → bv (nmT i) 0 = -1 := by decide +kernel
theorem qe : ∀ i, i < 21 → shapeK (.node 9 (nmT i) [] []) = true := by decide +kernel
theorem j7 {n : Nat} (hn : n ≤ 20) {back : Option Nat} (hb : ∀ b, back = some b → b < n) {i : Nat} (hi : i < n) : ∃ j, j < 22 ∧ cm n back i = tyT j := by
  unfold cm
  split
  · cases hbk : back with
    | none => exact ⟨21, by decide, rfl⟩
    | some b => have := hb b hbk; exact ⟨b, by omega, by rw [tyT, if_neg (by omega)]; rfl⟩
  · exact ⟨i + 1, by omega, by rw [tyT, if_neg (by omega)]⟩
theorem e6 {n : Nat} {back : Option Nat} {ls : List Bool} {i : Nat} (hi : i < n) : (al n back ls).kids[i]? = some (cC n back ls i) := by
  simp only [al, Tree.kids, List.getElem?_map, List.getElem?_range hi, Option.map_some]
theorem fq {n : Nat} {back : Option Nat} {ls : List Bool} (hn : n ≤ 20) {j : Nat} (hj : j < n) : ar [al n back ls] 0 (nmT j) = (0, (j : Int), true) := by
  unfold ar
  rw [sH j (by omega), if_neg (by decide)]
  unfold inK
  rw [if_neg (by decide)]
  simp only [Int.toNat_zero, List.getElem?_cons_zero]
  have hnm : bI (nmT j) (al n back ls).kids 0 = (j : Int) := by
    have go : ∀ (k i : Nat), i + k = n → i ≤ j → bI (nmT j) (((List.range' i k).map (cC n back ls))) i = (j : Int) := fun k => by
      induction k with
      | zero => intro i h1 h2; omega
      | succ k ih =>
        intro i h1 h2
        rw [List.range'_succ, List.map_cons, bI]
        by_cases e : i = j
        · subst e
          rw [if_pos (show (cC n back ls i).text = nmT i from rfl)]
        · rw [if_neg (fun (h : (cC n back ls i).text = nmT j) => e (rT i (by omega) j (by omega) h))]
          exact ih (i + 1) (by omega) (by omega)
    have := go n 0 (by omega) (by omega)
    rw [← List.range_eq_range'] at this
    exact this
  rw [hnm, if_neg (by omega)]
section
variable {n : Nat} {back : Option Nat} {ls : List Bool} (hn : n ≤ 20) (hb : ∀ b, back = some b → b < n)
include hn hb
theorem oX {i : Nat} (hi : i < n) : shapeK (cC n back ls i) = true := by
  obtain ⟨j, hj, e⟩ := j7 hn hb hi
  unfold cC
  rw [e]
  exact sa i (by omega) _ j hj
theorem mS : shapeK (al n back ls) = true := by
  have go : ∀ (l : List Nat) (i : Nat) (m : Int), (∀ x ∈ l, x < n) → shapeKs 1 m i (l.map (cC n back ls)) = true := fun l => by
    induction l with
    | nil => intro i m _; rfl
    | cons x r ih =>
      intro i m h
      have hx := h x (by simp)
      rw [List.map_cons, shapeKs, oX hn hb hx, ih _ _ (fun y hy => h y (by simp [hy]))]
      simp [cC, fp, Tree.kind]
  rw [al, shapeK, go _ _ _ (fun x hx => List.mem_range.1 hx)]
  have : dT 1 [77] = true := by decide +kernel
  rw [this]
  simp [gn]
  split <;> omega
theorem jJ : aM [al n back ls] = true := by
  simp only [aM, mS hn hb, Bool.and_true]
  rfl
theorem jC : kbulk [al n back ls] ≤ 1000 := by
  have hk : ∀ i, i < n → tbulk (cC n back ls i) ≤ 12 := fun i hi => by
    have hbd : tbulk (cm n back i) ≤ 3 := by
      obtain ⟨j, hj, e⟩ := j7 hn hb hi
      rw [e, tyT]
      split <;> simp [tbulk, lsum, kbulk, nmT]
    unfold cC wrT
    split <;> simp [tbulk, lsum, kbulk, nmT] <;> omega
  have go : ∀ (l : List Nat), (∀ x ∈ l, x < n) → kbulk (l.map (cC n back ls)) ≤ 12 * l.length := fun l => by
    induction l with
    | nil => intro _; simp [kbulk]
    | cons x r ih =>
      intro h
      have h1 := hk x (h x (by simp))
      have h2 := ih fun y hy => h y (by simp [hy])
      simp only [List.map_cons, kbulk, List.length_cons]; omega
  have := go (List.range n) (fun x hx => List.mem_range.1 hx)
  rw [List.length_range] at this
  simp only [al, kbulk, tbulk, lsum, List.length_cons, List.length_nil]
  omega
theorem iy {j : Nat} (hj : j < n) : leafK (df [al n back ls] 0 (j : Int)) = cm n back j ∧ lisK (df [al n back ls] 0 (j : Int)) = (if ej ls j then 1 else 0) := by
  have e : df [al n back ls] ((0 : Nat) : Int) (j : Int) = wrT (ej ls j) (cm n back j) := iL (t := al n back ls) (a := cC n back ls j) rfl (e6 hj) rfl
  have h8 : (cm n back j).kind ≠ 8 := by
    obtain ⟨k, hk, e⟩ := j7 hn hb hj
    rw [e, tyT]
    split
    · decide
    · show (9 : Int) ≠ 8
      decide
  rw [show (0 : Int) = ((0 : Nat) : Int) from rfl, e]
  unfold wrT
  split
  · rename_i hbt
    obtain ⟨g1, g2⟩ := fC (t := .node 8 [] [] [cm n back j]) (u := cm n back j) (r := []) rfl rfl
    rw [g1, g2, (ds h8).1, (ds h8).2]
    exact ⟨rfl, rfl⟩
  · exact ds h8
theorem jQ {j : Nat} (hj : j < n) : bg [al n back ls] (0, (j : Int)) = (if j + 1 = n then back.map fun b => (0, (b : Int)) else some (0, ((j + 1 : Nat) : Int))) := by
  have := i3 (p := [al n back ls]) (i := 0) (d := j) (t := al n back ls) (x := cC n back ls j) rfl (e6 hj) rfl
  rw [show ((0 : Nat) : Int) = 0 from rfl, (iy hn hb hj).1] at this
  rw [this, cm]
  split
  · cases hbk : back with
    | none => rfl
    | some b =>
      subst hbk
      have hf := fq (back := some b) (ls := ls) hn (hb b rfl)
      simp only [lg, Tree.kind, Tree.text, hf, Option.map_some]
      rfl
  · rename_i hne
    have hf := fq (back := back) (ls := ls) hn (show j + 1 < n by omega)
    simp only [Tree.kind, Tree.text, hf]
    rfl
end
end Go.Proofs.Ytiknldgpnhikhaa
