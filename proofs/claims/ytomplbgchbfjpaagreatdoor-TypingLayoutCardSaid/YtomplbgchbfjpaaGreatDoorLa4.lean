/- Contracts of the functions that the law reaches, part 4. -/
import Derived.Test.YtomplbgchbfjpaaGreatDoorLa3
set_option linter.unusedVariables false
set_option linter.unusedSimpArgs false
namespace Go.Proofs.YtomplbgchbfjpaaGreatDoor
open Go.RowKit Lx
set_option maxRecDepth 100000
theorem Eb (at0 : Nat) (t : Nat × Nat × Nat) : ∃ a b c d : Int, nh at0 t = .agg #[.int .i64 a, .int .i64 b, .int .i64 c, .int .i64 d] := by
 unfold nh; split <;> exact ⟨_, _, _, _, rfl⟩
abbrev yH : Obj := .cells #[.int .i64 0, .int .i64 0, .int .i64 0, .int .i64 0] 189
set_option maxHeartbeats 4000000 in
theorem IQ (l : List UInt8) (x : Int) (k : Nat) (hxk : x = k) (w : World) (hlt : k < l.length) (hl : l.length ≤ 281474976710656) : Calls Tryz.prog 171 #[.string ⟨l.toArray⟩, .int .i64 x] w (tT k (tokenT (l.drop k)) w) := by
 subst hxk
 obtain ⟨T, hT⟩ : ∃ T, tokenT (l.drop k) = T := ⟨_, rfl⟩
 rw [hT]
 have h0 : 0 < (l.drop k).length := by simp; omega
 obtain ⟨c, hc⟩ : ∃ c, ({ data := l.toArray } : ByteArray)[k]'hlt = c := ⟨_, rfl⟩
 have HC := Lib.hid (show l[k] = c from hc)
 have HC0 := Lib.hid (show (l.drop k)[0] = c from by rw [List.getElem_drop]; exact hc)
 have HT := Lib.hid ((uI h0 HC0.out).symm.trans hT)
 clear hT
 go_enter Tryz.func171, Tryz.ntmps171
 cases ha : aR c
 ·skip
  have HW := Lib.hid (show T = (0, 0, 1) from by rw [← HT.out, if_pos ha])
  go_wp2_with (first | (go_at_call 185; refine qmm (bc _ _) ?_) | (go_at_call 186; refine qmm (bL _ _) ?_) | (go_at_call 187; refine qmm (db _ _) ?_) | (go_at_call 188; refine qmm (cb _ _) ?_) | (go_at_call 189; refine qmm (aY _ _) ?_) | (go_at_call 191; refine qmm (eT _ _ k rfl _ hlt hl) ?_))
  exact bodyPost_ret (v := .agg #[.int .i64 0, .int .i64 0, .int .i64 1, .int .i64 k]) (by simp [results, Tryz.results171, go_sem]) rfl (cH HW.out (by omega) (by omega) (by omega) qEx)
 have HA := Lib.hid (show ¬ aR c = false from by simp [ha])
 cases h34 : ((c.toNat : Int) == 34)
 rotate_left
 ·have h34' := dn (m := 34) h34
  have HT2 := Lib.hid (show T = (6, quotedT (l.drop (k + 1)) 1) from by
   rw [← HT.out, if_neg HA.out, if_neg (by simp [bn, cf, upperB, h34']), if_neg (by simp [bB, h34']), if_pos h34', List.tail_drop])
  clear h34'
  go_wp2_with (first | (go_at_call 185; refine qmm (bc _ _) ?_) | (go_at_call 186; refine qmm (bL _ _) ?_) | (go_at_call 187; refine qmm (db _ _) ?_) | (go_at_call 188; refine qmm (cb _ _) ?_) | (go_at_call 189; refine qmm (aY _ _) ?_) | (go_at_call 191; refine qmm (eT _ _ k rfl _ hlt hl) ?_))
  go_loopg [6] (l.length - (k + 1)) (fun g n wx => ∃ i : Nat, g = l.length - i ∧ wx = w.alloc yH ∧ k + 1 ≤ i ∧ i ≤ l.length ∧ n = .int .i64 i ∧ Hid (quotedT (l.drop (k + 1)) 1 = quotedT (l.drop i) (i - k)))
  case atStart => exact ⟨k + 1, rfl, rfl, Nat.le_refl _, by omega, by go_num, Lib.hid (by congr 1; omega)⟩
  case round =>
   obtain ⟨i, rfl, rfl, hki, hil, rfl, hrel⟩ := hrel
   by_cases hit : i < l.length
   ·skip
    obtain ⟨d, hd⟩ : ∃ c, ({ data := l.toArray } : ByteArray)[i]'hit = c := ⟨_, rfl⟩
    have HD := Lib.hid (show l[i] = d from hd)
    have HS := Lib.hid (Er (j := i - k) hit HD.out)
    cases hq : ((d.toNat : Int) == 34)
    rotate_left
    ·have HW := Lib.hid (show T = (6, i - k + 1, 0) from by rw [HT2.out, hrel.out, HS.out, if_neg (by simp [zz (dn (m := 34) hq)]), if_pos (dn (m := 34) hq)])
     go_wp2_with (first | (go_at_call 185; refine qmm (bc _ _) ?_) | (go_at_call 186; refine qmm (bL _ _) ?_) | (go_at_call 187; refine qmm (db _ _) ?_) | (go_at_call 188; refine qmm (cb _ _) ?_) | (go_at_call 189; refine qmm (aY _ _) ?_) | (go_at_call 191; refine qmm (eT _ _ k rfl _ hlt hl) ?_))
     exact bodyPost_ret (v := .agg #[.int .i64 ((i : Int) + 1 - k), .int .i64 6, .int .i64 0, .int .i64 0]) (by simp [results, Tryz.results171, go_sem]) rfl (gK HW.out (by omega) (by omega) qEx)
    cases had : aR d
    ·have HW := Lib.hid (show T = (6, i - k, 1) from by rw [HT2.out, hrel.out, HS.out, if_pos had])
     go_wp2_with (first | (go_at_call 185; refine qmm (bc _ _) ?_) | (go_at_call 186; refine qmm (bL _ _) ?_) | (go_at_call 187; refine qmm (db _ _) ?_) | (go_at_call 188; refine qmm (cb _ _) ?_) | (go_at_call 189; refine qmm (aY _ _) ?_) | (go_at_call 191; refine qmm (eT _ _ k rfl _ hlt hl) ?_))
     exact bodyPost_ret (v := .agg #[.int .i64 0, .int .i64 0, .int .i64 1, .int .i64 i]) (by simp [results, Tryz.results171, go_sem]) rfl (cH HW.out (by omega) (by omega) (by omega) qEx)
    cases hpr : dJ d
    ·have HW := Lib.hid (show T = (6, 0, 2) from by rw [HT2.out, hrel.out, HS.out, if_neg (by simp [had]), if_neg (bT (m := 34) hq), if_pos (.inr (DS had hpr))])
     go_wp2_with (first | (go_at_call 185; refine qmm (bc _ _) ?_) | (go_at_call 186; refine qmm (bL _ _) ?_) | (go_at_call 187; refine qmm (db _ _) ?_) | (go_at_call 188; refine qmm (cb _ _) ?_) | (go_at_call 189; refine qmm (aY _ _) ?_) | (go_at_call 191; refine qmm (eT _ _ k rfl _ hlt hl) ?_))
     exact bodyPost_ret (v := .agg #[.int .i64 0, .int .i64 0, .int .i64 2, .int .i64 k]) (by simp [results, Tryz.results171, go_sem]) rfl (cH HW.out (by omega) (by omega) (by omega) qEx)
    cases h92 : ((d.toNat : Int) == 92)
    rotate_left
    ·have HW := Lib.hid (show T = (6, 0, 2) from by rw [HT2.out, hrel.out, HS.out, if_neg (by simp [had]), if_neg (bT (m := 34) hq), if_pos (.inl (dn (m := 92) h92))])
     go_wp2_with (first | (go_at_call 185; refine qmm (bc _ _) ?_) | (go_at_call 186; refine qmm (bL _ _) ?_) | (go_at_call 187; refine qmm (db _ _) ?_) | (go_at_call 188; refine qmm (cb _ _) ?_) | (go_at_call 189; refine qmm (aY _ _) ?_) | (go_at_call 191; refine qmm (eT _ _ k rfl _ hlt hl) ?_))
     exact bodyPost_ret (v := .agg #[.int .i64 0, .int .i64 0, .int .i64 2, .int .i64 k]) (by simp [results, Tryz.results171, go_sem]) rfl (cH HW.out (by omega) (by omega) (by omega) qEx)
    ·go_wp2_with (first | (go_at_call 185; refine qmm (bc _ _) ?_) | (go_at_call 186; refine qmm (bL _ _) ?_) | (go_at_call 187; refine qmm (db _ _) ?_) | (go_at_call 188; refine qmm (cb _ _) ?_) | (go_at_call 189; refine qmm (aY _ _) ?_) | (go_at_call 191; refine qmm (eT _ _ k rfl _ hlt hl) ?_))
     go_roundg (l.length - (i + 1))
     case measure => omega
     case rel => exact ⟨i + 1, rfl, rfl, by omega, by omega, by go_num, Lib.hid (by rw [hrel.out, HS.out, if_neg (by simp [had]), if_neg (bT (m := 34) hq), if_neg (fun h => h.elim (bT (m := 92) h92) (Ep hpr))]; congr 1; omega)⟩
   ·have HW := Lib.hid (show T = (6, 0, 2) from by rw [HT2.out, hrel.out, yh (by omega)])
    go_wp2_with (first | (go_at_call 185; refine qmm (bc _ _) ?_) | (go_at_call 186; refine qmm (bL _ _) ?_) | (go_at_call 187; refine qmm (db _ _) ?_) | (go_at_call 188; refine qmm (cb _ _) ?_) | (go_at_call 189; refine qmm (aY _ _) ?_) | (go_at_call 191; refine qmm (eT _ _ k rfl _ hlt hl) ?_))
    exact bodyPost_ret (v := .agg #[.int .i64 0, .int .i64 0, .int .i64 2, .int .i64 k]) (by simp [results, Tryz.results171, go_sem]) rfl (cH HW.out (by omega) (by omega) (by omega) qEx)
 cases hdg : bB c
 rotate_left
 ·have HT2 := Lib.hid (show T = (5, eM (l.drop k)) from by
   rw [← HT.out, if_neg HA.out, if_neg (by simp [bn, cf, upperB, bB] at hdg ⊢; omega), if_pos hdg])
  go_wp2_with (first | (go_at_call 185; refine qmm (bc _ _) ?_) | (go_at_call 186; refine qmm (bL _ _) ?_) | (go_at_call 187; refine qmm (db _ _) ?_) | (go_at_call 188; refine qmm (cb _ _) ?_) | (go_at_call 189; refine qmm (aY _ _) ?_) | (go_at_call 191; refine qmm (eT _ _ k rfl _ hlt hl) ?_))
  go_loopg [7] (l.length - k) (fun g n wx => ∃ i : Nat, g = l.length - i ∧ wx = w.alloc yH ∧ k ≤ i ∧ i ≤ l.length ∧ n = .int .i64 i ∧ Hid (spanN bB (l.drop k) = i - k + spanN bB (l.drop i)))
  case atStart => exact ⟨k, rfl, rfl, Nat.le_refl _, by omega, rfl, Lib.hid (by omega)⟩
  case round =>
   obtain ⟨i, rfl, rfl, hki, hil, rfl, hrel⟩ := hrel
   by_cases hit : i < l.length
   ·skip
    obtain ⟨d, hd⟩ : ∃ c, ({ data := l.toArray } : ByteArray)[i]'hit = c := ⟨_, rfl⟩
    have HD := Lib.hid (show l[i] = d from hd)
    cases hdd : bB d
    ·skip
     have HN := Lib.hid (show spanN bB (l.drop k) = i - k from by rw [hrel.out, qt hit HD.out hdd]; omega)
     by_cases h1 : 1 < i - k
     ·have h1' : (1 : Int) < i - k := by omega
      cases h48 : ((c.toNat : Int) == 48)
      ·have HG := Lib.hid (show 1 < i - k → ¬ ((l.drop k).getD 0 0).toNat = 48 from fun _ => by rw [aE h0 HC0.out]; exact bT (m := 48) h48)
       by_cases h15 : 15 < i - k
       ·have h15' : (15 : Int) < i - k := by omega
        have HW := Lib.hid (show T = (5, 0, 3) from by rw [HT2.out, oz HN.out HG.out h15])
        go_wp2_with (first | (go_at_call 185; refine qmm (bc _ _) ?_) | (go_at_call 186; refine qmm (bL _ _) ?_) | (go_at_call 187; refine qmm (db _ _) ?_) | (go_at_call 188; refine qmm (cb _ _) ?_) | (go_at_call 189; refine qmm (aY _ _) ?_) | (go_at_call 191; refine qmm (eT _ _ k rfl _ hlt hl) ?_))
        exact bodyPost_ret (v := .agg #[.int .i64 0, .int .i64 0, .int .i64 3, .int .i64 k]) (by simp [results, Tryz.results171, go_sem]) rfl (cH HW.out (by omega) (by omega) (by omega) qEx)
       ·have h15' : ¬ ((15 : Int) < i - k) := by omega
        have HW := Lib.hid (show T = (5, i - k, 0) from by rw [HT2.out, iu HN.out HG.out h15])
        go_wp2_with (first | (go_at_call 185; refine qmm (bc _ _) ?_) | (go_at_call 186; refine qmm (bL _ _) ?_) | (go_at_call 187; refine qmm (db _ _) ?_) | (go_at_call 188; refine qmm (cb _ _) ?_) | (go_at_call 189; refine qmm (aY _ _) ?_) | (go_at_call 191; refine qmm (eT _ _ k rfl _ hlt hl) ?_))
        exact bodyPost_ret (v := .agg #[.int .i64 ((i : Int) - k), .int .i64 5, .int .i64 0, .int .i64 0]) (by simp [results, Tryz.results171, go_sem]) rfl (gK HW.out (by omega) (by omega) qEx)
      ·skip
       have HW := Lib.hid (show T = (5, 0, 2) from by rw [HT2.out, oc HN.out h1 h0 HC0.out h48])
       go_wp2_with (first | (go_at_call 185; refine qmm (bc _ _) ?_) | (go_at_call 186; refine qmm (bL _ _) ?_) | (go_at_call 187; refine qmm (db _ _) ?_) | (go_at_call 188; refine qmm (cb _ _) ?_) | (go_at_call 189; refine qmm (aY _ _) ?_) | (go_at_call 191; refine qmm (eT _ _ k rfl _ hlt hl) ?_))
       exact bodyPost_ret (v := .agg #[.int .i64 0, .int .i64 0, .int .i64 2, .int .i64 k]) (by simp [results, Tryz.results171, go_sem]) rfl (cH HW.out (by omega) (by omega) (by omega) qEx)
     ·have h1' : ¬ ((1 : Int) < i - k) := by omega
      have h15' : ¬ ((15 : Int) < i - k) := by omega
      have HW := Lib.hid (show T = (5, i - k, 0) from by rw [HT2.out, iu HN.out (fun h => absurd h h1) (by omega)])
      go_wp2_with (first | (go_at_call 185; refine qmm (bc _ _) ?_) | (go_at_call 186; refine qmm (bL _ _) ?_) | (go_at_call 187; refine qmm (db _ _) ?_) | (go_at_call 188; refine qmm (cb _ _) ?_) | (go_at_call 189; refine qmm (aY _ _) ?_) | (go_at_call 191; refine qmm (eT _ _ k rfl _ hlt hl) ?_))
      exact bodyPost_ret (v := .agg #[.int .i64 ((i : Int) - k), .int .i64 5, .int .i64 0, .int .i64 0]) (by simp [results, Tryz.results171, go_sem]) rfl (gK HW.out (by omega) (by omega) qEx)
    ·go_wp2_with (first | (go_at_call 185; refine qmm (bc _ _) ?_) | (go_at_call 186; refine qmm (bL _ _) ?_) | (go_at_call 187; refine qmm (db _ _) ?_) | (go_at_call 188; refine qmm (cb _ _) ?_) | (go_at_call 189; refine qmm (aY _ _) ?_) | (go_at_call 191; refine qmm (eT _ _ k rfl _ hlt hl) ?_))
     go_roundg (l.length - (i + 1))
     case measure => omega
     case rel => exact ⟨i + 1, rfl, rfl, by omega, by omega, by go_num, Lib.hid (by rw [hrel.out, ma hit HD.out hdd]; omega)⟩
   ·skip
    have HN := Lib.hid (show spanN bB (l.drop k) = i - k from by rw [hrel.out, rU (by omega)]; omega)
    by_cases h1 : 1 < i - k
    ·have h1' : (1 : Int) < i - k := by omega
     cases h48 : ((c.toNat : Int) == 48)
     ·have HG := Lib.hid (show 1 < i - k → ¬ ((l.drop k).getD 0 0).toNat = 48 from fun _ => by rw [aE h0 HC0.out]; exact bT (m := 48) h48)
      by_cases h15 : 15 < i - k
      ·have h15' : (15 : Int) < i - k := by omega
       have HW := Lib.hid (show T = (5, 0, 3) from by rw [HT2.out, oz HN.out HG.out h15])
       go_wp2_with (first | (go_at_call 185; refine qmm (bc _ _) ?_) | (go_at_call 186; refine qmm (bL _ _) ?_) | (go_at_call 187; refine qmm (db _ _) ?_) | (go_at_call 188; refine qmm (cb _ _) ?_) | (go_at_call 189; refine qmm (aY _ _) ?_) | (go_at_call 191; refine qmm (eT _ _ k rfl _ hlt hl) ?_))
       exact bodyPost_ret (v := .agg #[.int .i64 0, .int .i64 0, .int .i64 3, .int .i64 k]) (by simp [results, Tryz.results171, go_sem]) rfl (cH HW.out (by omega) (by omega) (by omega) qEx)
      ·have h15' : ¬ ((15 : Int) < i - k) := by omega
       have HW := Lib.hid (show T = (5, i - k, 0) from by rw [HT2.out, iu HN.out HG.out h15])
       go_wp2_with (first | (go_at_call 185; refine qmm (bc _ _) ?_) | (go_at_call 186; refine qmm (bL _ _) ?_) | (go_at_call 187; refine qmm (db _ _) ?_) | (go_at_call 188; refine qmm (cb _ _) ?_) | (go_at_call 189; refine qmm (aY _ _) ?_) | (go_at_call 191; refine qmm (eT _ _ k rfl _ hlt hl) ?_))
       exact bodyPost_ret (v := .agg #[.int .i64 ((i : Int) - k), .int .i64 5, .int .i64 0, .int .i64 0]) (by simp [results, Tryz.results171, go_sem]) rfl (gK HW.out (by omega) (by omega) qEx)
     ·skip
      have HW := Lib.hid (show T = (5, 0, 2) from by rw [HT2.out, oc HN.out h1 h0 HC0.out h48])
      go_wp2_with (first | (go_at_call 185; refine qmm (bc _ _) ?_) | (go_at_call 186; refine qmm (bL _ _) ?_) | (go_at_call 187; refine qmm (db _ _) ?_) | (go_at_call 188; refine qmm (cb _ _) ?_) | (go_at_call 189; refine qmm (aY _ _) ?_) | (go_at_call 191; refine qmm (eT _ _ k rfl _ hlt hl) ?_))
      exact bodyPost_ret (v := .agg #[.int .i64 0, .int .i64 0, .int .i64 2, .int .i64 k]) (by simp [results, Tryz.results171, go_sem]) rfl (cH HW.out (by omega) (by omega) (by omega) qEx)
    ·have h1' : ¬ ((1 : Int) < i - k) := by omega
     have h15' : ¬ ((15 : Int) < i - k) := by omega
     have HW := Lib.hid (show T = (5, i - k, 0) from by rw [HT2.out, iu HN.out (fun h => absurd h h1) (by omega)])
     go_wp2_with (first | (go_at_call 185; refine qmm (bc _ _) ?_) | (go_at_call 186; refine qmm (bL _ _) ?_) | (go_at_call 187; refine qmm (db _ _) ?_) | (go_at_call 188; refine qmm (cb _ _) ?_) | (go_at_call 189; refine qmm (aY _ _) ?_) | (go_at_call 191; refine qmm (eT _ _ k rfl _ hlt hl) ?_))
     exact bodyPost_ret (v := .agg #[.int .i64 ((i : Int) - k), .int .i64 5, .int .i64 0, .int .i64 0]) (by simp [results, Tryz.results171, go_sem]) rfl (gK HW.out (by omega) (by omega) qEx)
 have HDg := Lib.hid (show ¬ bB c = true from by simp [hdg])
 have HQt := Lib.hid (bT (m := 34) h34)
 cases hle : bn c
 rotate_left
 ·have HT2 := Lib.hid (show bA (l.drop k) = T from by rw [← HT.out, if_neg HA.out, if_pos hle])
  obtain ⟨a0, a1, a2, a3, hform⟩ := Eb k T
  have HF := Lib.hid hform
  have CW := Lib.hid (fun w => LT l k k rfl w hlt (by rw [HC.out]; exact hle) hl)
  clear hform
  have hbe : cf c = true ∨ (cf c = false ∧ upperB c = true) := by cases h : cf c <;> simp_all [bn]
  rcases hbe with hlo | ⟨hlo, hup⟩
  all_goals
   go_wp2_with (first | (go_at_call 185; refine qmm (bc _ _) ?_) | (go_at_call 186; refine qmm (bL _ _) ?_) | (go_at_call 187; refine qmm (db _ _) ?_) | (go_at_call 188; refine qmm (cb _ _) ?_) | (go_at_call 189; refine qmm (aY _ _) ?_) | (go_at_call 191; refine qmm (eT _ _ k rfl _ hlt hl) ?_))
   refine (CW.out _).mono ?_
   rintro e w1 ⟨rfl, hext⟩
   rw [HT2.out, HF.out]
   have hsz := hext.size
   have hc0 := hext.cell (p := ⟨w.heap.size, 0, none⟩) (by simp)
   have hc1 := hext.cell (p := ⟨w.heap.size, 1, none⟩) (by simp)
   have hc2 := hext.cell (p := ⟨w.heap.size, 2, none⟩) (by simp)
   have hc3 := hext.cell (p := ⟨w.heap.size, 3, none⟩) (by simp)
   have hf0 := hext.frozen (p := ⟨w.heap.size, 0, none⟩) (by simp)
   have hf1 := hext.frozen (p := ⟨w.heap.size, 1, none⟩) (by simp)
   have hf2 := hext.frozen (p := ⟨w.heap.size, 2, none⟩) (by simp)
   have hf3 := hext.frozen (p := ⟨w.heap.size, 3, none⟩) (by simp)
   have HX := Lib.hid hext
   clear hext
   simp at hsz hc0 hc1 hc2 hc3 hf0 hf1 hf2 hf3
   go_wp2_with (first | (go_at_call 185; refine qmm (bc _ _) ?_) | (go_at_call 186; refine qmm (bL _ _) ?_) | (go_at_call 187; refine qmm (db _ _) ?_) | (go_at_call 188; refine qmm (cb _ _) ?_) | (go_at_call 189; refine qmm (aY _ _) ?_) | (go_at_call 191; refine qmm (eT _ _ k rfl _ hlt hl) ?_))
   exact bodyPost_ret (v := .agg #[.int .i64 a0, .int .i64 a1, .int .i64 a2, .int .i64 a3]) (by simp [results, Tryz.results171, go_sem, hc0, hc1, hc2, hc3]) rfl ⟨by rw [HF.out], (((((Ext.refl w).alloc _).trans HX.out).setCell (Nat.le_refl _) _).setCell (Nat.le_refl _) _).setCell (Nat.le_refl _) _ |>.setCell (Nat.le_refl _) _⟩
 have HLt := Lib.hid (show ¬ bn c = true from by simp [hle])
 have hlo : cf c = false := by cases h : cf c <;> simp_all [bn]
 have hup : upperB c = false := by cases h : upperB c <;> simp_all [bn]
 have HSg := Lib.hid (Gr (l.drop k))
 have HG0 := Lib.hid (aE h0 HC0.out)
 have HT2 := Lib.hid (show T = if signLen (l.drop k) = 0 then (0, 0, 2) else (8, signLen (l.drop k), 0) from by
  rw [← HSg.out, HG0.out, ← HT.out, if_neg HA.out, if_neg HLt.out, if_neg HDg.out, if_neg HQt.out])
 obtain ⟨m, hm⟩ : ∃ m, signLen (l.drop k) = m := ⟨_, rfl⟩
 have HM := Lib.hid hm
 by_cases hm0 : m = 0
 ·have HW := Lib.hid (show T = (0, 0, 2) from by rw [HT2.out, HM.out, if_pos hm0])
  subst hm0
  go_wp2_with (first | (go_at_call 185; refine qmm (bc _ _) ?_) | (go_at_call 186; refine qmm (bL _ _) ?_) | (go_at_call 187; refine qmm (db _ _) ?_) | (go_at_call 188; refine qmm (cb _ _) ?_) | (go_at_call 189; refine qmm (aY _ _) ?_) | (go_at_call 191; refine qmm (eT _ _ k rfl _ hlt hl) ?_))
  exact bodyPost_ret (v := .agg #[.int .i64 0, .int .i64 0, .int .i64 2, .int .i64 k]) (by simp [results, Tryz.results171, go_sem]) rfl (cH HW.out (by omega) (by omega) (by omega) qEx)
 ·have HW := Lib.hid (show T = (8, m, 0) from by rw [HT2.out, HM.out, if_neg hm0])
  have hmb : ((m : Int) == 0) = false := by simp; omega
  go_wp2_with (first | (go_at_call 185; refine qmm (bc _ _) ?_) | (go_at_call 186; refine qmm (bL _ _) ?_) | (go_at_call 187; refine qmm (db _ _) ?_) | (go_at_call 188; refine qmm (cb _ _) ?_) | (go_at_call 189; refine qmm (aY _ _) ?_) | (go_at_call 191; refine qmm (eT _ _ k rfl _ hlt hl) ?_))
  exact bodyPost_ret (v := .agg #[.int .i64 m, .int .i64 8, .int .i64 0, .int .i64 0]) (by simp [results, Tryz.results171, go_sem]) rfl (gK HW.out (by omega) (by omega) qEx)
def AM (c : UInt8) : Int := Lib.indexByte signs c
theorem CR : ∀ (l : List UInt8) (c : UInt8), 0 ≤ Lib.indexByte l c ↔ l.contains c = true
 | [], c => by simp [Lib.indexByte]
 | b :: l, c => by
  have ih := CR l c
  have hg := Lib.indexByte_ge l c
  unfold Lib.indexByte
  by_cases h : b = c
  ·simp [h]
  ·have h' : ¬ c = b := fun e => h e.symm
   simp only [beq_iff_eq, h, if_false, List.contains_cons, h', Bool.or_eq_true, false_or]
   rw [← ih]
   split <;> omega
theorem px (c : UInt8) : 0 ≤ AM c ↔ signs.contains c = true := CR _ _
theorem lE (c : UInt8) (w : World) : Calls Tryz.prog 120 #[.string ⟨#[40, 41, 91, 93, 58, 44, 61, 43, 45, 42, 60, 63]⟩, .int .u8 (c.toNat : Int)] w fun e w' => e = .returned (.int .i64 (AM c)) ∧ w = w' := by
 refine (Ec _ _ w).mono ?_
 rintro e w' ⟨rfl, rfl⟩
 refine ⟨bw ?_, rfl⟩
 have : ((c.toNat : Int)).toNat.toUInt8 = c := by simp
 rw [this]; rfl
set_option maxHeartbeats 4000000 in
theorem KV (l : List UInt8) (w : World) (h0 : 0 < l.length) (hl : l.length ≤ 281474976710656) : Calls Tryz.prog 79 #[.string ⟨l.toArray⟩] w fun e w' => e = .returned (.tuple #[.int .i64 ((tokenT l).1 : Nat), .int .i64 ((tokenT l).2.1 : Nat), .int .i64 ((tokenT l).2.2 : Nat)]) ∧ w = w' := by
 obtain ⟨c0, hc0⟩ : ∃ c, ({ data := l.toArray } : ByteArray)[0]'h0 = c := ⟨_, rfl⟩
 have HC0 := Lib.hid (show l[0] = c0 from hc0)
 have HT := Lib.hid (uI h0 HC0.out)
 go_enter Tryz.func79, Tryz.ntmps79
 cases ha : aR c0
 ·skip
  have HW := Lib.hid (show tokenT l = (0, 0, 1) from by rw [HT.out, if_pos ha])
  go_wp2_with (first | (go_at_call 78; refine qmm (dd _ _) ?_) | (go_at_call 115; refine qmm (bt _ _) ?_) | (go_at_call 117; refine qmm (dA _ _) ?_) | (go_at_call 116; refine qmm (oa _ _ h0 hl) ?_) | (go_at_call 118; refine qmm (jA _ _ hl) ?_) | (go_at_call 119; refine qmm (jJ _ _ h0 hl) ?_) | (go_at_call 120; refine qmm (lE _ _) ?_))
  go_ret3
  exact ⟨by rw [HW.out]; rfl, rfl⟩
 have HA := Lib.hid (show ¬ aR c0 = false from by simp [ha])
 cases hle : bn c0
 rotate_left
 ·skip
  have HW := Lib.hid (show tokenT l = bA l from by rw [HT.out, if_neg HA.out, if_pos hle])
  go_wp2_with (first | (go_at_call 78; refine qmm (dd _ _) ?_) | (go_at_call 115; refine qmm (bt _ _) ?_) | (go_at_call 117; refine qmm (dA _ _) ?_) | (go_at_call 116; refine qmm (oa _ _ h0 hl) ?_) | (go_at_call 118; refine qmm (jA _ _ hl) ?_) | (go_at_call 119; refine qmm (jJ _ _ h0 hl) ?_) | (go_at_call 120; refine qmm (lE _ _) ?_))
  go_ret3
  exact ⟨by rw [HW.out]; rfl, rfl⟩
 have HL := Lib.hid (show ¬ bn c0 = true from by simp [hle])
 cases hd : bB c0
 rotate_left
 ·skip
  have HW := Lib.hid (show tokenT l = (5, eM l) from by rw [HT.out, if_neg HA.out, if_neg HL.out, if_pos hd])
  go_wp2_with (first | (go_at_call 78; refine qmm (dd _ _) ?_) | (go_at_call 115; refine qmm (bt _ _) ?_) | (go_at_call 117; refine qmm (dA _ _) ?_) | (go_at_call 116; refine qmm (oa _ _ h0 hl) ?_) | (go_at_call 118; refine qmm (jA _ _ hl) ?_) | (go_at_call 119; refine qmm (jJ _ _ h0 hl) ?_) | (go_at_call 120; refine qmm (lE _ _) ?_))
  go_ret3
  exact ⟨by rw [HW.out]; rfl, rfl⟩
 have HD := Lib.hid (show ¬ bB c0 = true from by simp [hd])
 cases h34 : ((c0.toNat : Int) == 34)
 rotate_left
 ·skip
  have HW := Lib.hid (show tokenT l = (6, quotedT l.tail 1) from by rw [HT.out, if_neg HA.out, if_neg HL.out, if_neg HD.out, if_pos (dn (m := 34) h34)])
  go_wp2_with (first | (go_at_call 78; refine qmm (dd _ _) ?_) | (go_at_call 115; refine qmm (bt _ _) ?_) | (go_at_call 117; refine qmm (dA _ _) ?_) | (go_at_call 116; refine qmm (oa _ _ h0 hl) ?_) | (go_at_call 118; refine qmm (jA _ _ hl) ?_) | (go_at_call 119; refine qmm (jJ _ _ h0 hl) ?_) | (go_at_call 120; refine qmm (lE _ _) ?_))
  go_ret3
  exact ⟨by rw [HW.out]; rfl, rfl⟩
 have HQ := Lib.hid (bT (m := 34) h34)
 cases h61 : ((c0.toNat : Int) == 61)
 ·skip
  have HE := Lib.hid (show ¬ (c0.toNat = 61 ∧ 1 < l.length ∧ (l.getD 1 0).toNat = 61) from fun h => bT (m := 61) h61 h.1)
  by_cases hs : 0 ≤ AM c0
  ·skip
   have HW := Lib.hid (show tokenT l = (8, 1, 0) from by rw [HT.out, if_neg HA.out, if_neg HL.out, if_neg HD.out, if_neg HQ.out, if_neg HE.out, if_pos ((px c0).1 hs)])
   go_wp2_with (first | (go_at_call 78; refine qmm (dd _ _) ?_) | (go_at_call 115; refine qmm (bt _ _) ?_) | (go_at_call 117; refine qmm (dA _ _) ?_) | (go_at_call 116; refine qmm (oa _ _ h0 hl) ?_) | (go_at_call 118; refine qmm (jA _ _ hl) ?_) | (go_at_call 119; refine qmm (jJ _ _ h0 hl) ?_) | (go_at_call 120; refine qmm (lE _ _) ?_))
   go_ret3
   exact ⟨by rw [HW.out]; rfl, rfl⟩
  ·skip
   have HW := Lib.hid (show tokenT l = (0, 0, 2) from by rw [HT.out, if_neg HA.out, if_neg HL.out, if_neg HD.out, if_neg HQ.out, if_neg HE.out, if_neg (fun h => hs ((px c0).2 h))])
   go_wp2_with (first | (go_at_call 78; refine qmm (dd _ _) ?_) | (go_at_call 115; refine qmm (bt _ _) ?_) | (go_at_call 117; refine qmm (dA _ _) ?_) | (go_at_call 116; refine qmm (oa _ _ h0 hl) ?_) | (go_at_call 118; refine qmm (jA _ _ hl) ?_) | (go_at_call 119; refine qmm (jJ _ _ h0 hl) ?_) | (go_at_call 120; refine qmm (lE _ _) ?_))
   go_ret3
   exact ⟨by rw [HW.out]; rfl, rfl⟩
 by_cases h1 : 1 < l.length
 rotate_left
 ·skip
  have HE := Lib.hid (show ¬ (c0.toNat = 61 ∧ 1 < l.length ∧ (l.getD 1 0).toNat = 61) from fun h => h1 h.2.1)
  by_cases hs : 0 ≤ AM c0
  ·skip
   have HW := Lib.hid (show tokenT l = (8, 1, 0) from by rw [HT.out, if_neg HA.out, if_neg HL.out, if_neg HD.out, if_neg HQ.out, if_neg HE.out, if_pos ((px c0).1 hs)])
   go_wp2_with (first | (go_at_call 78; refine qmm (dd _ _) ?_) | (go_at_call 115; refine qmm (bt _ _) ?_) | (go_at_call 117; refine qmm (dA _ _) ?_) | (go_at_call 116; refine qmm (oa _ _ h0 hl) ?_) | (go_at_call 118; refine qmm (jA _ _ hl) ?_) | (go_at_call 119; refine qmm (jJ _ _ h0 hl) ?_) | (go_at_call 120; refine qmm (lE _ _) ?_))
   go_ret3
   exact ⟨by rw [HW.out]; rfl, rfl⟩
  ·skip
   have HW := Lib.hid (show tokenT l = (0, 0, 2) from by rw [HT.out, if_neg HA.out, if_neg HL.out, if_neg HD.out, if_neg HQ.out, if_neg HE.out, if_neg (fun h => hs ((px c0).2 h))])
   go_wp2_with (first | (go_at_call 78; refine qmm (dd _ _) ?_) | (go_at_call 115; refine qmm (bt _ _) ?_) | (go_at_call 117; refine qmm (dA _ _) ?_) | (go_at_call 116; refine qmm (oa _ _ h0 hl) ?_) | (go_at_call 118; refine qmm (jA _ _ hl) ?_) | (go_at_call 119; refine qmm (jJ _ _ h0 hl) ?_) | (go_at_call 120; refine qmm (lE _ _) ?_))
   go_ret3
   exact ⟨by rw [HW.out]; rfl, rfl⟩
 obtain ⟨c1, hc1⟩ : ∃ c, ({ data := l.toArray } : ByteArray)[1]'h1 = c := ⟨_, rfl⟩
 have HC1 := Lib.hid (show l[1] = c1 from hc1)
 cases h62 : ((c1.toNat : Int) == 61)
 ·skip
  have HE := Lib.hid (show ¬ (c0.toNat = 61 ∧ 1 < l.length ∧ (l.getD 1 0).toNat = 61) from fun h => bT (m := 61) h62 (by rw [← aE h1 HC1.out]; exact h.2.2))
  by_cases hs : 0 ≤ AM c0
  ·skip
   have HW := Lib.hid (show tokenT l = (8, 1, 0) from by rw [HT.out, if_neg HA.out, if_neg HL.out, if_neg HD.out, if_neg HQ.out, if_neg HE.out, if_pos ((px c0).1 hs)])
   go_wp2_with (first | (go_at_call 78; refine qmm (dd _ _) ?_) | (go_at_call 115; refine qmm (bt _ _) ?_) | (go_at_call 117; refine qmm (dA _ _) ?_) | (go_at_call 116; refine qmm (oa _ _ h0 hl) ?_) | (go_at_call 118; refine qmm (jA _ _ hl) ?_) | (go_at_call 119; refine qmm (jJ _ _ h0 hl) ?_) | (go_at_call 120; refine qmm (lE _ _) ?_))
   go_ret3
   exact ⟨by rw [HW.out]; rfl, rfl⟩
  ·skip
   have HW := Lib.hid (show tokenT l = (0, 0, 2) from by rw [HT.out, if_neg HA.out, if_neg HL.out, if_neg HD.out, if_neg HQ.out, if_neg HE.out, if_neg (fun h => hs ((px c0).2 h))])
   go_wp2_with (first | (go_at_call 78; refine qmm (dd _ _) ?_) | (go_at_call 115; refine qmm (bt _ _) ?_) | (go_at_call 117; refine qmm (dA _ _) ?_) | (go_at_call 116; refine qmm (oa _ _ h0 hl) ?_) | (go_at_call 118; refine qmm (jA _ _ hl) ?_) | (go_at_call 119; refine qmm (jJ _ _ h0 hl) ?_) | (go_at_call 120; refine qmm (lE _ _) ?_))
   go_ret3
   exact ⟨by rw [HW.out]; rfl, rfl⟩
 ·skip
  have HW := Lib.hid (show tokenT l = (8, 2, 0) from by rw [HT.out, if_neg HA.out, if_neg HL.out, if_neg HD.out, if_neg HQ.out, if_pos ⟨dn (m := 61) h61, h1, by rw [aE h1 HC1.out]; exact dn (m := 61) h62⟩])
  go_wp2_with (first | (go_at_call 78; refine qmm (dd _ _) ?_) | (go_at_call 115; refine qmm (bt _ _) ?_) | (go_at_call 117; refine qmm (dA _ _) ?_) | (go_at_call 116; refine qmm (oa _ _ h0 hl) ?_) | (go_at_call 118; refine qmm (jA _ _ hl) ?_) | (go_at_call 119; refine qmm (jJ _ _ h0 hl) ?_) | (go_at_call 120; refine qmm (lE _ _) ?_))
  go_ret3
  exact ⟨by rw [HW.out]; rfl, rfl⟩
def dM (l : List TokZ) : List Value := l.flatMap fun t => [.int .i64 t.kind, .string ⟨t.lead.toArray⟩, .string ⟨t.text.toArray⟩]
def sT (w : World) (v : Value) (l : List TokZ) : Prop := ∃ A c, v = .slice A l.length c ∧ l.length ≤ c ∧ c ≤ maxLen ∧ Row w 3 A l.length (dM l)
def ScanPost (l : List UInt8) (w : World) (e : Ending) (w' : World) : Prop :=
 ∃ v, e = .returned (.tuple #[v, .string ⟨(scan l).tail.toArray⟩, .int .i64 ((scan l).place : Nat), .int .i64 ((scan l).err : Nat)]) ∧ sT w' v (scan l).toks ∧ Ext w w'
theorem JD : (Tryz.prog.info? 92).map (fun i => (i.zero, i.size, i.bytes)) = some (some (.agg #[.int .i64 0, .string ByteArray.empty, .string ByteArray.empty]), 3, 40) := by kernel_rfl
theorem zt (l : List TokZ) (t : TokZ) : dM (l ++ [t]) = dM l ++ [.int .i64 t.kind, .string ⟨t.lead.toArray⟩, .string ⟨t.text.toArray⟩] := by simp [dM]
theorem Gc {w : World} {base : Nat} {v : Value} {l : List TokZ} (h : w.ownsRow base 92 3 v l.length (dM l)) : sT w v l := by
 obtain ⟨A, c, rfl, hc, hm⟩ := Gk h
 exact ⟨A, c, rfl, hc, hm, Row.of_own h⟩
theorem tJ (w : World) : sT w (.slice none 0 0) [] := ⟨none, 0, rfl, Nat.le_refl _, Nat.zero_le _, Row.none_⟩
theorem Ch {l : List UInt8} {w w' : World} {v : Value} {r : Scanned} {tail : List UInt8} {p e : Int} (h : scan l = r) (ht : r.tail = tail) (hp : (r.place : Int) = p) (he : (r.err : Int) = e) (hr : sT w' v r.toks) (hx : Ext w w') :
  ScanPost l w (.returned (.tuple #[v, .string ⟨tail.toArray⟩, .int .i64 p, .int .i64 e])) w' := by
 subst h; subst ht; subst hp; subst he
 exact ⟨v, rfl, hr, hx⟩
theorem neI {n m : Nat} (h : ((n : Int) != (m : Int)) = false) : n = m := by simp at h; omega
theorem neT {n m : Nat} (h : ((n : Int) != (m : Int)) = true) : ¬ n = m := by simp at h; omega
def wj (k : Nat) : Option Nat → Int
 | none => -1
 | some p => ((k + p : Nat) : Int)
def wD (l : List UInt8) (k : Nat) (w : World) (e : Ending) (w' : World) : Prop :=
 e = .returned (.tuple #[.int .i64 ((aI false (l.drop k) 0).1 : Nat), .int .i64 (wj k (aI false (l.drop k) 0).2)]) ∧ w = w'
theorem yz {l : List UInt8} {k n : Nat} {b : Option Nat} {w : World} {x y : Int} (h : aI false (l.drop k) 0 = (n, b)) (hx : x = n) (hy : y = wj k b) : wD l k w (.returned (.tuple #[.int .i64 x, .int .i64 y])) w := by
 subst hx; subst hy; unfold wD; rw [h]; exact ⟨rfl, rfl⟩
set_option maxHeartbeats 2000000 in
theorem Jk (l : List UInt8) (x : Int) (k : Nat) (hxk : x = k) (w : World) (hk : k ≤ l.length) (hl : l.length ≤ 281474976710656) : Calls Tryz.prog 174 #[.string ⟨l.toArray⟩, .int .i64 x] w (wD l k w) := by
 subst hxk
 go_enter Tryz.func174, Tryz.ntmps174
 go_wp2_with (first | (go_at_call 170; refine qmm (jH _ _) ?_) | (go_at_call 185; refine qmm (bc _ _) ?_))
 go_loopg [6] (l.length - k) (fun g n wx => ∃ i : Nat, g = l.length - i ∧ wx = w ∧ k ≤ i ∧ i ≤ l.length ∧ n = .int .i64 i ∧ Hid (aI false (l.drop k) 0 = aI false (l.drop i) (i - k)))
 case atStart => exact ⟨k, rfl, rfl, Nat.le_refl _, hk, rfl, Lib.hid (by congr 1; omega)⟩
 case round =>
  obtain ⟨i, rfl, rfl, hki, hil, rfl, HL⟩ := hrel
  by_cases hit : i < l.length
  rotate_left
  ·go_wp2_with (first | (go_at_call 170; refine qmm (jH _ _) ?_) | (go_at_call 185; refine qmm (bc _ _) ?_))
   go_ret2
   exact yz (n := i - k) (b := none) (by rw [HL.out, vj _ (by omega)]) (by omega) rfl
  obtain ⟨c, hc⟩ : ∃ c, ({ data := l.toArray } : ByteArray)[i]'hit = c := ⟨_, rfl⟩
  have HC := Lib.hid (show l[i] = c from hc)
  cases hw : bR c
  rotate_left
  ·go_wp2_with (first | (go_at_call 170; refine qmm (jH _ _) ?_) | (go_at_call 185; refine qmm (bc _ _) ?_))
   go_roundg (l.length - (i + 1))
   case measure => omega
   case rel => exact ⟨i + 1, rfl, rfl, by omega, by omega, by go_num, Lib.hid (by rw [HL.out, Cf hit HC.out hw]; congr 1; omega)⟩
  cases h35 : ((c.toNat : Int) == 35)
  ·go_wp2_with (first | (go_at_call 170; refine qmm (jH _ _) ?_) | (go_at_call 185; refine qmm (bc _ _) ?_))
   go_ret2
   exact yz (n := i - k) (b := none) (by rw [HL.out, Cj hit HC.out hw (bT (m := 35) h35)]) (by omega) rfl
  have HL2 := Lib.hid (HL.out.trans (DV (n := i - k) hit HC.out (dn (m := 35) h35)))
  have HCI := Lib.hid (dn (m := 35) h35)
  go_wp2_with (first | (go_at_call 170; refine qmm (jH _ _) ?_) | (go_at_call 185; refine qmm (bc _ _) ?_))
  clear HL
  obtain ⟨wo, rfl⟩ : ∃ wo : World, wo = wr := ⟨_, rfl⟩
  go_loopg [6] (l.length - i) (fun g n wx => ∃ j : Nat, g = l.length - j ∧ wx = wo ∧ i ≤ j ∧ j ≤ l.length ∧ n = .int .i64 j ∧ Hid (aI false (l.drop k) 0 = aI true (l.drop j) (j - k)))
  case atStart => exact ⟨i, rfl, rfl, Nat.le_refl _, by omega, rfl, HL2⟩
  case round =>
   obtain ⟨j, rfl, rfl, hij, hjl, rfl, HL3⟩ := hrel
   by_cases hjt : j < l.length
   rotate_left
   ·go_wp2_with (first | (go_at_call 170; refine qmm (jH _ _) ?_) | (go_at_call 185; refine qmm (bc _ _) ?_))
    go_roundg (l.length - j)
    case measure => omega
    case rel => exact ⟨j, rfl, rfl, by omega, by omega, rfl, Lib.hid (by rw [HL3.out, vj _ (by omega), vj _ (by omega)])⟩
   obtain ⟨d, hd⟩ : ∃ c, ({ data := l.toArray } : ByteArray)[j]'hjt = c := ⟨_, rfl⟩
   have HD := Lib.hid (show l[j] = d from hd)
   cases h10 : ((d.toNat : Int) != 10)
   ·have hne : i < j := by
     rcases Nat.lt_or_ge i j with h | h
     ·exact h
     ·have : i = j := by omega
      subst this
      have h2 := HCI.out
      have h3 : c = d := by rw [← HC.out, ← HD.out]
      subst h3
      simp [h2] at h10
    go_wp2_with (first | (go_at_call 170; refine qmm (jH _ _) ?_) | (go_at_call 185; refine qmm (bc _ _) ?_))
    go_roundg (l.length - j)
    case measure => omega
    case rel => exact ⟨j, rfl, rfl, by omega, by omega, rfl, Lib.hid (by rw [HL3.out, DL hjt HD.out (neI (m := 10) h10)])⟩
   cases ha : aR d
   ·go_wp2_with (first | (go_at_call 170; refine qmm (jH _ _) ?_) | (go_at_call 185; refine qmm (bc _ _) ?_))
    go_ret2
    exact yz (n := j - k) (b := some (j - k)) (by rw [HL3.out, Fq hjt HD.out (neT (m := 10) h10) ha]) (by omega) (by simp [wj]; omega)
   ·go_wp2_with (first | (go_at_call 170; refine qmm (jH _ _) ?_) | (go_at_call 185; refine qmm (bc _ _) ?_))
    go_roundg (l.length - (j + 1))
    case measure => omega
    case rel => exact ⟨j + 1, rfl, rfl, by omega, by omega, by go_num, Lib.hid (by rw [HL3.out, Go.Proofs.YtomplbgchbfjpaaGreatDoor.Lx.Id hjt HD.out (neT (m := 10) h10) ha]; congr 1; omega)⟩
theorem pf : ∀ (b : Bool) (l : List UInt8) (n : Nat), (aI b l n).1 ≤ n + l.length
 | _, [], n => by simp [aI]
 | false, c :: r, n => by
  have h1 := pf false r (n + 1)
  have h2 := pf true r (n + 1)
  unfold aI
  simp only [List.length_cons]
  split
  ·omega
  ·split
   ·omega
   ·simp
 | true, c :: r, n => by
  have h1 := pf false r (n + 1)
  have h2 := pf true r (n + 1)
  unfold aI
  simp only [List.length_cons]
  split
  ·omega
  ·split
   ·simp
   ·omega
def Hc (l : List UInt8) (w : World) (Rs : Scanned) (g : Nat) (s6 s7 : Value) (wx : World) : Prop :=
  ∃ (p F : Nat) (acc : List TokZ), p ≤ l.length ∧ g = l.length - p ∧ s7 = .int .i64 p ∧ acc.length ≤ p ∧ l.length - p < F ∧
    scanT F (l.drop p) p acc = Rs ∧ wx.ownsRow w.heap.size 92 3 s6 acc.length (dM acc) ∧ Ext w wx
def ScanPost0 (Rs : Scanned) (w : World) (e : Ending) (w' : World) : Prop :=
 ∃ v, e = .returned (.tuple #[v, .string ⟨Rs.tail.toArray⟩, .int .i64 (Rs.place : Nat), .int .i64 (Rs.err : Nat)]) ∧ sT w' v Rs.toks ∧ Ext w w'
theorem qZ {Rs : Scanned} {w w' : World} {v : Value} {r : Scanned} {tail : List UInt8} {p e : Int} (h : Rs = r) (ht : r.tail = tail) (hp : (r.place : Int) = p) (he : (r.err : Int) = e) (hr : sT w' v r.toks) (hx : Ext w w') :
  ScanPost0 Rs w (.returned (.tuple #[v, .string ⟨tail.toArray⟩, .int .i64 p, .int .i64 e])) w' := by
 subst h; subst ht; subst hp; subst he
 exact ⟨v, rfl, hr, hx⟩
set_option maxHeartbeats 4000000 in
theorem Lm (l : List UInt8) (w : World) (hl : l.length ≤ 4096) : Calls Tryz.prog 177 #[.string ⟨l.toArray⟩] w (ScanPost0 (scanT (l.length + 1) l 0 []) w) := by
 obtain ⟨Rs, hR⟩ : ∃ Rs, scanT (l.length + 1) l 0 [] = Rs := ⟨_, rfl⟩
 rw [hR]
 have H0 := Lib.hid (show scanT (l.length + 1) (l.drop 0) 0 [] = Rs from by rw [← hR]; simp)
 clear hR
 have hx := wG; have hx2 := qf
 go_enter Tryz.func177, Tryz.ntmps177
 go_wp2_with fail
 go_loopg [6, 7] l.length (fun g s6 s7 wx => Hc l w Rs g s6 s7 wx)
 case atStart => exact ⟨0, l.length + 1, [], Nat.zero_le _, by omega, rfl, Nat.le_refl _, by omega, H0.out, World.ownsRow_nil _ _ _ _, Ext.refl _⟩
 case round =>
  obtain ⟨p, F, acc, hpl, rfl, rfl, hacc, hF, hscan, hown, hext⟩ := hrel
  have HSc := Lib.hid hscan; clear hscan
  have HO := Lib.hid hown; clear hown
  have HE := Lib.hid hext; clear hext
  obtain ⟨F', rfl⟩ : ∃ F', F = F' + 1 := ⟨F - 1, by omega⟩
  obtain ⟨n, b, hLd⟩ : ∃ n b, aI false (l.drop p) 0 = (n, b) := ⟨_, _, rfl⟩
  have hnl : p + n ≤ l.length := by have h := pf false (l.drop p) 0; rw [hLd] at h; simp at h; omega
  have HLd := Lib.hid hLd; clear hLd
  go_wp2_with fail
  refine (Jk _ _ p rfl _ hpl (by omega)).mono ?_
  rintro e w' ⟨rfl, rfl⟩
  rw [HLd.out]
  cases b with
  | some q =>
   have hq : (0 : Int) ≤ ((p + q : Nat) : Int) := by omega
   have hq2 : wj p (some q) = ((p + q : Nat) : Int) := rfl
   rw [hq2]
   generalize hz : ((p + q : Nat) : Int) = z at *
   have HZ := Lib.hid hz; clear hz hq2
   go_wp2
   exact bodyPost_ret (v := .tuple #[.slice none 0 0, .string ⟨([] : List UInt8).toArray⟩, .int .i64 z, .int .i64 1]) (by simp [results, Tryz.results177, go_sem]) rfl (qZ (r := ⟨[], [], p + q, 1⟩) (HSc.out.symm.trans (Gb HLd.out)) rfl (by rw [HZ.out]) rfl (tJ _) HE.out)
  | none =>
   have hq2 : wj p none = -1 := rfl
   rw [hq2]
   clear hq2
   obtain ⟨E, hE⟩ : ∃ E, p + n = E := ⟨_, rfl⟩
   have hE1 : (p : Int) + n = (E : Nat) := by omega
   have hE2 : E - p = n := by omega
   have HEE := Lib.hid hE
   have hpE : p ≤ E := by omega
   have hEl : E ≤ l.length := by omega
   clear hE hnl
   by_cases hend : E = l.length
   ·have hendb : ((E : Int) == (l.length : Int)) = true := by simp; omega
    have hb0 : (0 : Int) ≤ (p : Int) := by omega
    have hb1 : (p : Int) ≤ (l.length : Int) := by omega
    have HEnd := Lib.hid hend; clear hend
    go_wp2
    go_quiet (fail)
    go_wp2
    exact bodyPost_ret (v := .tuple #[u6, .string ⟨(l.drop p).toArray⟩, .int .i64 0, .int .i64 0]) (by simp [results, Tryz.results177, go_sem]) rfl (qZ (r := ⟨acc, l.drop p, 0, 0⟩) (HSc.out.symm.trans (FL HLd.out (by have := HEnd.out; have := HEE.out; simp; omega))) rfl rfl rfl (Gc HO.out) (Ext.drewN HE.out _))
   ·have hEt : E < l.length := by omega
    have hendb : ((E : Int) == (l.length : Int)) = false := by simp; omega
    clear hend
    obtain ⟨kd, m, e, hT⟩ : ∃ kd m e, tokenT (l.drop E) = (kd, m, e) := ⟨_, _, _, rfl⟩
    have hlen := EV (l := l.drop E) (by simp; omega)
    rw [hT] at hlen
    simp only [List.length_drop] at hlen
    obtain ⟨hm1, hm2⟩ := hlen
    have HM := Lib.hid hm2; clear hm2
    have HT := Lib.hid hT; clear hT
    have HDp := Lib.hid (show (l.drop p).drop n = l.drop E from by rw [List.drop_drop, HEE.out])
    have CN := Lib.hid (fun w => IQ l (E : Nat) E rfl w hEt (by omega))
    have HnE := Lib.hid (show ¬ n = (l.drop p).length from by have := HEE.out; simp; omega)
    go_wp2_with fail
    refine (CN.out _).mono ?_
    rintro e0 w1 ⟨rfl, hext1⟩
    rw [HT.out]
    by_cases he : e = 0
    rotate_left
    ·have HI := Lib.hid (show nh E (kd, m, e) = .agg #[.int .i64 0, .int .i64 0, .int .i64 e, .int .i64 ((E + m : Nat) : Int)] from by simp [nh, he])
     rw [HI.out]
     have heb : ((e : Int) != 0) = true := by simp; omega
     have HX1 := Lib.hid (HE.out.trans hext1); clear hext1
     generalize hz : ((E + m : Nat) : Int) = z at *
     have HZ := Lib.hid hz; clear hz
     clear HI
     go_wp2
     go_quiet (fail)
     go_wp2
     exact bodyPost_ret (v := .tuple #[.slice none 0 0, .string ⟨([] : List UInt8).toArray⟩, .int .i64 z, .int .i64 e]) (by simp [results, Tryz.results177, go_sem]) rfl (qZ (r := ⟨[], [], p + n + m, e⟩) (HSc.out.symm.trans (GQ HLd.out HnE.out (by rw [HDp.out]; exact HT.out) he)) rfl (by rw [← HZ.out]; have := HEE.out; simp; omega) rfl (tJ _) (Ext.drewN (HX1.out.alloc _) _))
    ·subst he
     have HI := Lib.hid (show nh E (kd, m, 0) = .agg #[.int .i64 m, .int .i64 kd, .int .i64 0, .int .i64 0] from by simp [nh])
     rw [HI.out]
     have hmp : 0 < m := HM.out rfl
     have hown := Jz HO.out hext1
     have hx1 := hext1.size
     have hsz := HE.out.size
     have HX1 := Lib.hid (HE.out.trans hext1)
     have hne : ∀ k, u6.ownBlock = some k → k < wr.heap.size := fun k hk => (HO.out.lt k hk).2
     have hneB : u6.ownBlock ≠ some w1.heap.size := fun h => by have := hne _ h; omega
     clear hext1 HI CN HM
     go_wp2
     obtain ⟨W2, hW2⟩ : ∃ W2, w1.alloc (.cells #[.int .i64 m, .int .i64 kd, .int .i64 0, .int .i64 0] 189) = W2 := ⟨_, rfl⟩
     rw [hW2]
     have hc0 : W2.cell? ⟨w1.heap.size, 0, none⟩ = some (.int .i64 m) := by rw [← hW2]; simp
     have hc1 : W2.cell? ⟨w1.heap.size, 1, none⟩ = some (.int .i64 kd) := by rw [← hW2]; simp
     have hown2 : W2.ownsRow w.heap.size 92 3 u6 acc.length (dM acc) := by rw [← hW2]; exact hown.alloc _
     have hBW : w1.heap.size < W2.heap.size := by rw [← hW2]; simp
     have HX2 := Lib.hid (show Ext w W2 from by rw [← hW2]; exact HX1.out.alloc _)
     obtain ⟨B, hB⟩ : ∃ B, w1.heap.size = B := ⟨_, rfl⟩
     have hwB : w.heap.size ≤ B := by omega
     rw [hB] at hc0 hc1 hBW hneB
     rw [hB]
     clear hW2 hB hown hne hx1 hsz HX1 HE HO
     have hb0 : (0 : Int) ≤ (p : Int) := by omega
     have hb1 : (p : Int) ≤ (E : Int) := by omega
     have hb2 : (E : Int) ≤ (l.length : Int) := by omega
     have hb3 : (E : Int) + m ≤ (l.length : Int) := by omega
     have hb4 : (E : Int) ≤ (E : Int) + m := by omega
     have hwr0 : IntKind.i64.wrap (E : Int) = (E : Int) := IntWalk.i64_in _ (by omega)
     have hwr : IntKind.i64.wrap ((E : Int) + m) = (E : Int) + m := IntWalk.i64_in _ (by omega)
     have hb5 : (0 : Int) ≤ (E : Int) + m := by omega
     have hb6 : ((E : Int) + m).toNat = E + m := by omega
     have hsz2 : (acc.length + 1) * 40 ≤ 140737488355328 := by omega
     have hsz3 : acc.length + 1 ≤ maxLen := by unfold maxLen; omega
     have hbs : w.heap.size ≤ W2.heap.size := by omega
     obtain ⟨i0, hi0, hz0, hz1, hz2⟩ := Cu JD
     go_region_held3 (fun w' => w'.cell? ⟨B, 0, none⟩ = some (.int .i64 m) ∧ w'.cell? ⟨B, 1, none⟩ = some (.int .i64 kd))
      (first | go_keep | (go_split_ands; refine ⟨?_, ?_⟩ <;> (rw [hgrow.cell_far _ (by simp; omega) (Ne.symm hneB)]; simp [*])))
      ((refine step_append_lies _ (by rfl) _ _ _ (by rfl) w.heap.size 92 i0 _ 3 40 Tryz.underlying85 hi0 hz0 hz1 hz2 rfl (by omega) u6 acc.length (dM acc) (by rfl) ((hown2.alloc _).drew) ⟨W2.heap.size, 0, none⟩ 1 1 [.int .i64 kd, .string ⟨((l.drop p).take n).toArray⟩, .string ⟨((l.drop E).take m).toArray⟩] (by rfl) (by rfl) (World.news_of_block (cs := #[.int .i64 kd, .string ⟨((l.drop p).take n).toArray⟩, .string ⟨((l.drop E).take m).toArray⟩]) (t := 92) (fr := (0, 0)) (heap_alloc_new W2 _)) (by simp [Value.oneCell']) (by omega) hsz3 hsz2 (by simp; omega) (W2.heap.size + 1) (by simp) ?_; intro gg cap w3 hown3 hgrow hat hlt3))
     have hc03 : w3.cell? ⟨B, 0, none⟩ = some (.int .i64 m) := by rename_i hh; exact hh.1
     have HX := Lib.hid (((HX2.out.alloc _).drew).grown hgrow (fun k hk => (hown2.lt k hk).1))
     have HO1 := Lib.hid (show w3.ownsRow w.heap.size 92 3 (.slice (some ⟨gg, 0, none⟩) (acc.length + 1) cap) (acc ++ [TokZ.mk kd ((l.drop p).take n) ((l.drop E).take m)]).length (dM (acc ++ [TokZ.mk kd ((l.drop p).take n) ((l.drop E).take m)])) from by
      rw [zt, List.length_append]; exact hown3)
     clear hown3 hgrow hat hown2 hsz2 hsz3 hi0 hz0 hz1 hz2 hwr hwr0 hb6 hc0 hc1
     go_wp2
     go_roundg (l.length - (E + m))
     case measure => omega
     case rel =>
      refine ⟨E + m, F', acc ++ [TokZ.mk kd ((l.drop p).take n) ((l.drop E).take m)], by omega, rfl, by go_num, by simp; omega, by omega, ?_, HO1.out, HX.out⟩
      rw [← HSc.out, Fz HLd.out HnE.out (by rw [HDp.out]; exact HT.out), HDp.out, List.drop_drop, ← HEE.out]
      congr 2 <;> omega
theorem Nd (l : List UInt8) (w : World) (hl : l.length ≤ 281474976710656) : Calls Tryz.prog 154 #[.string ⟨l.toArray⟩] w (ScanPost l w) := by
 by_cases h4 : 4096 < l.length
 ·have HS := Lib.hid (show scan l = ⟨[], [], 4096, 3⟩ from by simp [scan, h4])
  go_enter Tryz.func154, Tryz.ntmps154
  go_wp2
  exact bodyPost_ret (v := .tuple #[.slice none 0 0, .string ⟨([] : List UInt8).toArray⟩, .int .i64 4096, .int .i64 3]) (by simp [results, Tryz.results154, go_sem]) rfl (Ch HS.out rfl rfl rfl (tJ _) (Ext.refl _))
 ·have HS := Lib.hid (show scan l = scanT (l.length + 1) l 0 [] from by simp [scan, h4])
  go_enter Tryz.func154, Tryz.ntmps154
  go_wp2_with fail
  refine (Lm _ _ (by omega)).mono ?_
  rintro e w' ⟨v, rfl, htr, hext⟩
  obtain ⟨A, c, rfl, hc1, hc2, hrow⟩ := htr
  have HR := Lib.hid hrow; clear hrow
  have HX := Lib.hid hext; clear hext
  rw [← HS.out] at HR hc1 ⊢
  go_wp2
  exact bodyPost_ret (v := .tuple #[.slice A (scan l).toks.length c, .string ⟨(scan l).tail.toArray⟩, .int .i64 ((scan l).place : Nat), .int .i64 ((scan l).err : Nat)]) (by simp [results, Tryz.results154, go_sem]) rfl ⟨_, rfl, ⟨A, c, rfl, hc1, hc2, HR.out⟩, HX.out⟩
theorem we : ∀ (l : List TokZ) (k : Nat) (h : k < l.length), (dM l)[k * 3]? = some (.int .i64 l[k].kind) ∧ (dM l)[k * 3 + 1]? = some (.string ⟨l[k].lead.toArray⟩) ∧ (dM l)[k * 3 + 2]? = some (.string ⟨l[k].text.toArray⟩)
 | t :: l, 0, _ => ⟨rfl, rfl, rfl⟩
 | t :: l, k + 1, h => by
  have ih := we l k (by simpa using h)
  have e : dM (t :: l) = [.int .i64 t.kind, .string ⟨t.lead.toArray⟩, .string ⟨t.text.toArray⟩] ++ dM l := rfl
  rw [e]
  refine ⟨?_, ?_, ?_⟩
  ·rw [List.getElem?_append_right (by simp; omega)]; simpa [Nat.succ_mul] using ih.1
  ·rw [List.getElem?_append_right (by simp; omega)]
   have : (k + 1) * 3 + 1 - 3 = k * 3 + 1 := by omega
   simpa [this] using ih.2.1
  ·rw [List.getElem?_append_right (by simp; omega)]
   have : (k + 1) * 3 + 2 - 3 = k * 3 + 2 := by omega
   simpa [this] using ih.2.2
theorem zm {w : World} {A : Option Addr} {l : List TokZ} (h : Row w 3 A l.length (dM l)) {k : Nat} (hk : k < l.length) :
  ∃ b off, A = some ⟨b, off, none⟩ ∧ b < w.heap.size ∧ w.cell? ⟨b, off + k * 3, none⟩ = some (.int .i64 l[k].kind) ∧ w.cell? ⟨b, off + k * 3 + 1, none⟩ = some (.string ⟨l[k].lead.toArray⟩) ∧ w.cell? ⟨b, off + k * 3 + 2, none⟩ = some (.string ⟨l[k].text.toArray⟩) := by
 obtain ⟨b, off, rfl, hb, hc⟩ := h.2 (by omega)
 obtain ⟨h0, h1, h2⟩ := we l k hk
 refine ⟨b, off, rfl, hb, ?_, ?_, ?_⟩
 ·rw [hc _ (by omega), h0]
 ·rw [Nat.add_assoc, hc _ (by omega), h1]
 ·rw [Nat.add_assoc, hc _ (by omega), h2]
set_option maxHeartbeats 1000000 in
theorem Lk (l : List UInt8) (w : World) (hl : l.length ≤ 281474976710656) : Calls Tryz.prog 126 #[.string ⟨l.toArray⟩] w fun e w' => e = .returned (.int .i64 (bm l : Nat)) ∧ w = w' := by
 by_cases h0 : l = []
 ·subst h0
  go_enter Tryz.func126, Tryz.ntmps126
  go_wp2
  go_ret
  exact ⟨rfl, rfl⟩
 ·have hb1 : (l == []) = false := by simpa using h0
  have hb2 : l.isEmpty = false := by simpa using h0
  have hpos : 0 < l.length := List.length_pos_iff.2 h0
  obtain ⟨k, n, e, hT⟩ : ∃ k n e, tokenT l = (k, n, e) := ⟨_, _, _, rfl⟩
  have HT := Lib.hid hT
  have HC := Lib.hid (show bm l = if e = 0 ∧ n = l.length then k else 0 from by simp only [bm, if_neg h0, hT])
  clear hT h0
  go_enter Tryz.func126, Tryz.ntmps126
  go_wp2_with fail
  refine (KV _ _ hpos hl).mono ?_
  rintro e0 w' ⟨rfl, rfl⟩
  rw [HT.out]
  by_cases he : e = 0
  ·subst he
   by_cases hn : n = l.length
   ·have hnb : ((n : Int) != (l.length : Int)) = false := by simp; omega
    have HR := Lib.hid (HC.out.trans (if_pos ⟨rfl, hn⟩))
    clear hn
    go_wp2
    go_ret
    exact ⟨bw (by rw [HR.out]), rfl⟩
   ·have hnb : ((n : Int) != (l.length : Int)) = true := by simp; omega
    have HR := Lib.hid (HC.out.trans (if_neg (fun h => hn h.2)))
    clear hn
    go_wp2
    go_ret
    exact ⟨bw (by rw [HR.out]; rfl), rfl⟩
  ·have heb : ((e : Int) != 0) = true := by simp; omega
   have HR := Lib.hid (HC.out.trans (if_neg (fun h => he h.1)))
   go_wp2
   go_ret
   exact ⟨bw (by rw [HR.out]; rfl), rfl⟩
theorem vh {l : List UInt8} {c : UInt8} (h0 : 0 < l.length) (hc : l[0] = c) (h : bR c = true ∨ c.toNat = 35) : tokenT l = (0, 0, 2) := by
 have hv : c.toNat = 9 ∨ c.toNat = 10 ∨ c.toNat = 13 ∨ c.toNat = 32 ∨ c.toNat = 35 := by
  rcases h with h | h
  ·simp [bR] at h; omega
  ·omega
 have ha : aR c = true := by
  rcases hv with h | h | h | h | h <;> simp [aR, bR, dJ, h]
 have hs : signs.contains c = false := by
  have h : ∀ n : UInt8, (c == n) = (c.toNat == n.toNat) := fun n => by rw [Bool.eq_iff_iff]; simp [UInt8.toNat_inj]
  simp only [signs, List.contains_cons, List.contains_nil, Bool.or_false, h]
  rcases hv with h | h | h | h | h <;> rw [h] <;> rfl
 rw [uI h0 hc, if_neg (by simp [ha]), if_neg (by simp [bn, cf, upperB]; omega), if_neg (by simp [bB]; omega), if_neg (by omega), if_neg (by omega), if_neg (by rw [hs]; simp)]
set_option maxHeartbeats 1000000 in
theorem zR (l : List UInt8) (w : World) (hl : l.length ≤ 281474976710656) : Calls Tryz.prog 139 #[.string ⟨l.toArray⟩] w fun e w' => e = .returned (.int .i64 (bm l : Nat)) ∧ Ext w w' := by
 by_cases h0 : l = []
 ·subst h0
  go_enter Tryz.func139, Tryz.ntmps139
  go_wp2
  go_ret
  exact ⟨rfl, Ext.refl _⟩
 ·have hb1 : (l == []) = false := by simpa using h0
  have hb2 : l.isEmpty = false := by simpa using h0
  have hpos : 0 < l.length := List.length_pos_iff.2 h0
  obtain ⟨k, n, e, hT⟩ : ∃ k n e, tokenT l = (k, n, e) := ⟨_, _, _, rfl⟩
  have HT := Lib.hid hT
  have HC := Lib.hid (show bm l = if e = 0 ∧ n = l.length then k else 0 from by simp only [bm, if_neg h0, hT])
  clear hT h0
  obtain ⟨c, hc⟩ : ∃ c, ({ data := l.toArray } : ByteArray)[0]'hpos = c := ⟨_, rfl⟩
  have HC0 := Lib.hid (show l[0] = c from hc)
  cases hw : bR c
  rotate_left
  ·have hz : (k, n, e) = (0, 0, 2) := HT.out.symm.trans (vh hpos HC0.out (.inl hw))
   have HR := Lib.hid (show bm l = 0 from by simp only [Prod.mk.injEq] at hz; rw [HC.out, if_neg (by omega)])
   clear hz
   go_enter Tryz.func139, Tryz.ntmps139
   go_wp2_with (first | (go_at_call 170; refine qmm (jH _ _) ?_))
   go_ret
   exact ⟨bw (by rw [HR.out]; rfl), Ext.refl _⟩
  cases h35 : ((c.toNat : Int) == 35)
  rotate_left
  ·have hz : (k, n, e) = (0, 0, 2) := HT.out.symm.trans (vh hpos HC0.out (.inr (dn (m := 35) h35)))
   have HR := Lib.hid (show bm l = 0 from by simp only [Prod.mk.injEq] at hz; rw [HC.out, if_neg (by omega)])
   clear hz
   go_enter Tryz.func139, Tryz.ntmps139
   go_wp2_with (first | (go_at_call 170; refine qmm (jH _ _) ?_))
   go_ret
   exact ⟨bw (by rw [HR.out]; rfl), Ext.refl _⟩
  have CN := Lib.hid (fun w => IQ l 0 0 rfl w hpos hl)
  go_enter Tryz.func139, Tryz.ntmps139
  go_wp2_with (first | (go_at_call 170; refine qmm (jH _ _) ?_))
  refine (CN.out _).mono ?_
  rintro e0 w1 ⟨rfl, hext⟩
  rw [List.drop_zero, HT.out]
  have HX := Lib.hid hext; clear hext CN
  by_cases he : e = 0
  ·subst he
   have HI := Lib.hid (show nh 0 (k, n, 0) = .agg #[.int .i64 n, .int .i64 k, .int .i64 0, .int .i64 0] from by simp [nh])
   rw [HI.out]
   clear HI
   by_cases hn : n = l.length
   ·have hnb : ((n : Int) != (l.length : Int)) = false := by simp; omega
    have HR := Lib.hid (HC.out.trans (if_pos ⟨rfl, hn⟩))
    clear hn
    go_wp2
    go_ret
    exact ⟨bw (by rw [HR.out]), HX.out.alloc _⟩
   ·have hnb : ((n : Int) != (l.length : Int)) = true := by simp; omega
    have HR := Lib.hid (HC.out.trans (if_neg (fun h => hn h.2)))
    clear hn
    go_wp2
    go_ret
    exact ⟨bw (by rw [HR.out]; rfl), HX.out.alloc _⟩
  ·have HI := Lib.hid (show nh 0 (k, n, e) = .agg #[.int .i64 0, .int .i64 0, .int .i64 e, .int .i64 ((0 + n : Nat) : Int)] from by simp [nh, he])
   rw [HI.out]
   clear HI
   have heb : ((e : Int) != 0) = true := by simp; omega
   have HR := Lib.hid (HC.out.trans (if_neg (fun h => he h.1)))
   go_wp2
   go_ret
   exact ⟨bw (by rw [HR.out]; rfl), HX.out.alloc _⟩
open Go.RowKit Lx Sx
theorem sum0_calls {fid : FuncId} {us : List V} {v : V} (hp1 : pureL us = true) (hp2 : v.pure = true) (h : ∀ (S : Nat → Prop) w ρ xs, LRel S w ρ us xs → Calls Tryz.prog fid xs.toArray w fun e w' => ∃ x, e = .returned x ∧ VRel S w' ρ v x ∧ Chg [] w w') : oX Tryz.prog fid us v :=
 ⟨hp1, hp2, fun S w ρ xs hr hx => (h S w ρ xs hx).mono fun e w' ⟨x, h1, h2, hc⟩ =>
  ⟨x, S, ρ, v, _, h1, rfl, hr.chg0 hc, ⟨ChgP.of0 hc, fun _ h => h, fun _ h => .inl h, fun id b hb => .inl ⟨id, hb⟩, fun id x h => by
   simp only [sy] at h
   split at h
   ·exact h
   ·cases h⟩, h2⟩⟩
theorem Dq {w w' : World} (h : Ext w w') : Chg [] w w' := Chg.of_ext h []
theorem Ko (l : List UInt8) (hl : l.length ≤ 281474976710656) : oX Tryz.prog 126 [.str l] (.int .i64 (bm l : Nat)) :=
 sum0_calls rfl rfl fun S w ρ xs hx => by
  simp only [LRel] at hx
  obtain ⟨x, ys, rfl, h1, rfl⟩ := hx
  simp only [VRel] at h1; subst h1
  exact (Lk l w hl).mono fun e w' ⟨h1, h2⟩ => ⟨_, h1, by simp only [VRel], h2 ▸ Chg.refl _ _⟩
theorem GZ (l : List UInt8) (hl : l.length ≤ 281474976710656) : oX Tryz.prog 139 [.str l] (.int .i64 (bm l : Nat)) :=
 sum0_calls rfl rfl fun S w ρ xs hx => by
  simp only [LRel] at hx
  obtain ⟨x, ys, rfl, h1, rfl⟩ := hx
  simp only [VRel] at h1; subst h1
  exact (zR l w hl).mono fun e w' ⟨h1, h2⟩ => ⟨_, h1, by simp only [VRel], Dq h2⟩
def lsum : List (List UInt8) → Nat
 | [] => 0
 | l :: r => l.length + 1 + lsum r
mutual
def tbulk : Tree → Nat
 | .node _ s ls ks => s.length + lsum ls + kbulk ks + 1
def kbulk : List Tree → Nat
 | [] => 0
 | t :: r => tbulk t + kbulk r
end
theorem bf (t : Tree) : 0 < tbulk t := by cases t; simp only [tbulk]; omega
theorem gI : ∀ (ks : List Tree), ks.length ≤ kbulk ks
 | [] => Nat.le_refl _
 | t :: r => by have := gI r; have := bf t; simp only [kbulk, List.length_cons]; omega
theorem ct : ∀ {ks : List Tree} {i : Nat} {t : Tree}, ks[i]? = some t → tbulk t ≤ kbulk ks
 | [], i, t, h => by simp at h
 | u :: r, 0, t, h => by simp only [List.getElem?_cons_zero, Option.some.injEq] at h; subst h; simp only [kbulk]; omega
 | u :: r, i + 1, t, h => by have := ct (ks := r) (i := i) (by simpa using h); simp only [kbulk]; omega
theorem fE : ∀ (a b : List Tree), kbulk (a ++ b) = kbulk a + kbulk b
 | [], b => by simp [kbulk]
 | t :: r, b => by simp only [List.cons_append, kbulk, fE r b]; omega
theorem wB : ∀ (l : List (List UInt8)), l.length ≤ lsum l
 | [] => Nat.le_refl _
 | x :: r => by have := wB r; simp only [lsum, List.length_cons]; omega
theorem wO : ∀ {l : List (List UInt8)} {i : Nat} {x : List UInt8}, l[i]? = some x → x.length + 1 ≤ lsum l
 | [], i, x, h => by simp at h
 | u :: r, 0, x, h => by simp only [List.getElem?_cons_zero, Option.some.injEq] at h; subst h; simp only [lsum]; omega
 | u :: r, i + 1, x, h => by have := wO (l := r) (i := i) (by simpa using h); simp only [lsum]; omega
theorem aW (t : Tree) : tbulk t = t.text.length + lsum t.leads + kbulk t.kids + 1 := by cases t; simp [tbulk, Tree.text, Tree.leads, Tree.kids]
theorem aK {t u : Tree} {i : Nat} (h : t.kids[i]? = some u) : tbulk u < tbulk t := by
 have := ct h; rw [aW t]; omega
theorem bM (t : Tree) : t.kids.length < tbulk t := by
 have := gI t.kids; rw [aW t]; omega
theorem cv (t : Tree) : t.text.length < tbulk t := by rw [aW t]; omega
theorem yM (t : Tree) : t.leads.length < tbulk t := by
 have := wB t.leads; rw [aW t]; omega
theorem cy {C : Tree → Prop} (h : ∀ t : Tree, (∀ (i : Nat) (u : Tree), t.kids[i]? = some u → C u) → C t) : ∀ t, C t := fun t => by
 have : ∀ n t, tbulk t ≤ n → C t := fun n => by
  induction n with
  | zero => intro t ht; have := bf t; omega
  | succ n ih => intro t ht; exact h t fun i u hu => ih u (by have := aK hu; omega)
 exact this _ t (Nat.le_refl _)
theorem bb {α : Type} (l : List α) (i : Nat) : (∃ x, l[i]? = some x ∧ i < l.length) ∨ (¬ i < l.length) := by
 by_cases h : i < l.length
 ·exact .inl ⟨l[i], by simp [h], h⟩
 ·exact .inr h
theorem bk {α : Type} {l : List α} {i : Nat} {x : α} (h : l[i]? = some x) : l.drop i = x :: l.drop (i + 1) := by
 obtain ⟨hl, rfl⟩ := List.getElem?_eq_some_iff.1 h
 exact List.drop_eq_getElem_cons hl
set_option maxHeartbeats 1000000
def f0 (n : Int) (least leads list : Nat) (most : Int) : Int := if 0 ≤ most ∧ most < n then -1 else if n < least then -1 else if most < 0 ∧ (list : Int) < n then leads + (n - list - 1) else leads
def dm (k n : Int) : Int := if k = 1 then (if n < 0 then -1 else 3) else if k = 2 then f0 n 2 6 2 (-1) else if k = 16 then f0 n 0 3 0 (-1) else if k = 18 then f0 n 1 2 0 (-1) else if k = 3 then f0 n 1 3 0 1 else if k = 4 then f0 n 1 2 0 1 else if k = 8 then f0 n 1 2 0 1 else if k = 22 then f0 n 1 2 0 1 else if k = 17 then f0 n 1 0 0 1 else if k = 19 then f0 n 3 3 0 3 else if k = 20 then f0 n 2 4 0 2 else if k = 21 then f0 n 2 1 0 2 else if k = 5 ∨ k = 6 ∨ k = 7 ∨ k = 9 ∨ k = 10 ∨ k = 11 ∨ k = 12 ∨ k = 13 ∨ k = 14 ∨ k = 15 then f0 n 0 1 0 0 else -1
theorem rO (a b c : Int) : fo a b c (if a < b then -1 else c) := vU 0 _ _ _ _ ⟨fun h => by rw [if_pos h], fun h => by rw [if_neg h]⟩
theorem KS (a b c : Int) : bX a b c (if a = b then c else -1) := uB 0 _ _ _ _ ⟨fun h => by rw [if_pos h], fun h => by rw [if_neg h]⟩
theorem LE (m : Nat) {n : Int} (h0 : 0 ≤ n) (h1 : n ≤ 1000000000) (a b c : Nat) (z : Int) (hb : b ≤ 10) (hc : c ≤ 2) (hz : ¬ (0 ≤ z ∧ z < n)) : lf (m + 1) n a b c z (f0 n a b c z) := by
 refine wM m _ _ _ _ _ _ ⟨fun h => ⟨fun h' => ⟨by omega, by omega, by omega, _, rO _ _ _, ?_⟩, fun h' => ⟨_, rO _ _ _, ?_⟩⟩, fun h => ⟨_, rO _ _ _, ?_⟩⟩
 ·simp only [f0, if_neg hz, h, h', true_and, if_true]
 ·simp only [f0, if_neg hz, h, h', true_and, if_false]
 ·simp only [f0, if_neg hz, h, false_and, if_false]
theorem KB (m : Nat) {n : Int} (h0 : 0 ≤ n) (h1 : n ≤ 1000000000) (a b c : Nat) (z : Int) (hb : b ≤ 10) (hc : c ≤ 2) : aG (m + 2) n a b c z (f0 n a b c z) := by
 refine wL (m + 1) _ _ _ _ _ _ ⟨fun h => ⟨fun h' => ?_, fun h' => LE m h0 h1 _ _ _ _ hb hc (by omega)⟩, fun h => LE m h0 h1 _ _ _ _ hb hc (by omega)⟩
 simp [f0, h, h']
theorem Jt {k n : Int} (h0 : 0 ≤ n) (h1 : n ≤ 1000000000) : pw k n (dm k n) := by
 have l0 : ∀ {r : Int} (a b c : Nat) (z : Int), b ≤ 10 → c ≤ 2 → r = f0 n a b c z → aG 3 n a b c z r := fun a b c z hb hc e => by rw [e]; exact KB 1 h0 h1 a b c z hb hc
 have l0' : ∀ {r : Int} (a b c : Nat) (z : Int), b ≤ 10 → c ≤ 2 → r = f0 n a b c z → aG 4 n a b c z r := fun a b c z hb hc e => by rw [e]; exact KB 2 h0 h1 a b c z hb hc
 refine xh 4 _ _ _ ?_
 repeat' first | (refine ⟨_, rO _ _ _, ?_⟩) | (refine And.intro (fun _ => ?_) (fun _ => ?_)) | (refine wg 3 _ _ _ _ ?_)
 all_goals first | (refine l0' _ _ _ _ (by decide) (by decide) ?_) | (refine l0 _ _ _ _ (by decide) (by decide) ?_) | skip
 all_goals simp_all [dm]
theorem tm {k n : Int} (h0 : 0 ≤ n) (h1 : n ≤ 1000000000) : fj k n (dm k n) := by
 refine tE 2 _ _ _ ?_
 repeat' first | (refine ⟨_, KS _ _ _, ?_⟩) | (refine And.intro (fun _ => ?_) (fun _ => ?_)) | (refine sM 1 _ _ _ _ ?_) | (refine sL 0 _ _ _ _ ?_) | (refine And.intro (by omega) ?_)
 all_goals simp_all [dm]
 all_goals (try unfold f0)
 all_goals (repeat' split)
 all_goals omega
def xg (x : List UInt8) : Bool := x == [43] || x == [45] || x == [42] || x == [60] || x == [61, 61]
def nd (k : Int) (x : List UInt8) : Bool := if k = 1 ∨ k = 3 then (bm x : Int) == 2 else if k = 2 ∨ k = 4 ∨ k = 12 ∨ k = 20 then (bm x : Int) == 1 else if k = 9 then (bm x : Int) == 2 || (bm x : Int) == 4 else if k = 16 then (bm x : Int) == 1 || (bm x : Int) == 3 else if k = 10 then (bm x : Int) == 5 else if k = 11 then (bm x : Int) == 6 else if k = 21 then xg x else x == []
theorem Dw (x : List UInt8) : mA x (xg x) := by
 refine uW 0 _ _ ?_
 repeat' (refine And.intro (fun _ => ?_) (fun _ => ?_))
 all_goals simp_all [xg]
theorem Cd (x : List UInt8) : gQ x (xg x) := by
 refine qx 0 _ _ ?_
 repeat' (refine And.intro (fun _ => ?_) (fun _ => ?_))
 all_goals simp_all [xg]
theorem Ix (k : Int) (x : List UInt8) (hx : x.length ≤ 281474976710656) : od k x (nd k x) := by
 refine ww 2 _ _ _ ?_
 refine ⟨_, Ko x hx, ?_⟩
 repeat' first | (refine ⟨_, Dw _, ?_⟩) | (refine And.intro (fun _ => ?_) (fun _ => ?_)) | (refine vW 1 _ _ _ _ _ ?_) | (refine vV 0 _ _ _ _ _ ?_)
 all_goals simp_all [nd]
theorem FQ (k : Int) (x : List UInt8) (hx : x.length ≤ 281474976710656) : iQ k x (nd k x) := by
 refine rD 2 _ _ _ ?_
 refine ⟨_, GZ x hx, ?_⟩
 repeat' first | (refine ⟨_, Cd _, ?_⟩) | (refine And.intro (fun _ => ?_) (fun _ => ?_)) | (refine ra 1 _ _ _ _ _ ?_) | (refine qK 0 _ _ _ _ _ ?_)
 all_goals simp_all [nd]
def hJ (k : Int) : Bool := decide (5 ≤ k ∧ k ≤ 9)
def gu (k : Int) : Bool := decide (10 ≤ k ∧ k ≤ 22 ∧ k ≠ 17)
def tS (k : Int) : Bool := gu k && decide (k ≠ 19 ∧ k ≠ 20 ∧ k ≠ 21)
theorem Hb (k : Int) : kY k (hJ k) := wi 0 _ _ ⟨fun h => by simp [hJ, h], fun h => by simp [hJ, h]⟩
theorem Gs (k : Int) : gf k (hJ k) := sP 0 _ _ ⟨fun h => by simp [hJ, h], fun h => by simp [hJ, h]⟩
theorem vu (a b : Int) : (a != b) = decide (a ≠ b) := by by_cases h : a = b <;> simp [h]
theorem BW (k : Int) : dW k (gu k) := sH 0 _ _ ⟨fun h => ⟨fun h' => by simp [gu, h, h', vu], fun h' => by simp [gu, h, h']⟩, fun h => by simp [gu, h]⟩
theorem zp (k : Int) : en k (gu k) := sR 0 _ _ ⟨fun h => ⟨fun h' => by simp [gu, h, h', vu], fun h' => by simp [gu, h, h']⟩, fun h => by simp [gu, h]⟩
theorem Ib (k : Int) : oB k (tS k) := by
 refine wf 0 _ _ ⟨_, BW k, ?_⟩
 repeat' (refine And.intro (fun _ => ?_) (fun _ => ?_))
 all_goals simp_all [tS, vu]
theorem vn (k : Int) : gv k (tS k) := by
 refine sK 0 _ _ ⟨_, zp k, ?_⟩
 repeat' (refine And.intro (fun _ => ?_) (fun _ => ?_))
 all_goals simp_all [tS, vu]
def gb (k n : Int) (i : Int) (kk : Int) : Bool := if k = 1 then kk == 2 || kk == 3 else if k = 2 then (if i = n - 1 then gu kk else if i = n - 2 then hJ kk else kk == 4) else if k = 3 ∨ k = 4 ∨ k = 8 then hJ kk else if k = 16 then kk == 17 else if k = 21 then tS kk || (decide (i = 0) && kk == 21) else gu kk
theorem Kg {t u : Tree} {i : Nat} (hu : t.kids[i]? = some u) : pg t i (gb t.kind t.kids.length i u.kind) := by
 refine wW 1 _ _ _ ⟨i, rfl, u, hu, ?_⟩
 repeat' first | (refine ⟨_, BW _, ?_⟩) | (refine ⟨_, Hb _, ?_⟩) | (refine ⟨_, Ib _, ?_⟩) | (refine And.intro (fun _ => ?_) (fun _ => ?_)) | (refine wl 0 _ _ _ _ _ ?_)
 all_goals simp_all [gb]
theorem MN (t : Tree) (i : Nat) (kk : Int) : mE t i kk (gb t.kind t.kids.length i kk) := by
 refine uR 1 _ _ _ _ ?_
 repeat' first | (refine ⟨_, zp _, ?_⟩) | (refine ⟨_, Gs _, ?_⟩) | (refine ⟨_, vn _, ?_⟩) | (refine And.intro (fun _ => ?_) (fun _ => ?_)) | (refine uD 0 _ _ _ _ _ ?_)
 all_goals simp_all [gb]
mutual
def shapeK : Tree → Bool
 | .node k s _ ks => decide (0 ≤ dm k ks.length) && nd k s && shapeKs k ks.length 0 ks
def shapeKs (k n : Int) : Nat → List Tree → Bool
 | _, [] => true
 | i, t :: r => gb k n i t.kind && shapeK t && shapeKs k n (i + 1) r
end
theorem bG (t : Tree) : shapeK t = (decide (0 ≤ dm t.kind t.kids.length) && nd t.kind t.text && shapeKs t.kind t.kids.length 0 t.kids) := by cases t; simp only [shapeK]; rfl
theorem po : ∀ t : Tree, tbulk t ≤ 1000000000 → eG t (shapeK t) := cy fun t ih hb => by
 have hk := bM t
 have ht := cv t
 have loop : ∀ m i, t.kids.length - i ≤ m → (0 ≤ dm t.kind t.kids.length ∧ nd t.kind t.text = true) → kx (m + 1) t i (shapeKs t.kind t.kids.length i (t.kids.drop i)) := fun m => by
  induction m with
  | zero =>
   intro i hi hw
   refine qn 0 _ _ _ ⟨fun h => by omega, fun h => ?_⟩
   rw [List.drop_of_length_le (by omega), shapeKs]
  | succ m ihm =>
   intro i hi hw
   refine qn (m + 1) _ _ _ ⟨fun h => ?_, fun h => ?_⟩
   ·obtain ⟨u, hu, _⟩ | h' := bb t.kids i
    ·rw [bk hu, shapeKs]
     have hbu := aK hu
     refine ⟨u, hu, _, Kg hu, fun h1 => by simp [h1], fun h1 => ⟨_, ih i u hu (by omega), fun h2 => by simp [h1, h2], fun h2 => ⟨by omega, ?_⟩⟩⟩
     simp only [h1, h2, Bool.true_and]
     exact ihm (i + 1) (by omega) hw
    ·exact absurd h h'
   ·rw [List.drop_of_length_le (by omega), shapeKs]
 rw [bG]
 refine wN (t.kids.length + 1) _ _ ⟨_, Jt (by omega) (by omega), fun h => ?_, fun h => ⟨_, Ix _ _ (by omega), fun h1 => by simp [h1], fun h1 => ?_⟩⟩
 ·rw [decide_eq_false (by omega)]; rfl
 ·rw [decide_eq_true (by omega), h1]
  exact loop _ 0 (by omega) ⟨by omega, h1⟩
theorem zi : ∀ t : Tree, tbulk t ≤ 1000000000 → eJ t (shapeK t) := cy fun t ih hb => by
 have hk := bM t
 have ht := cv t
 have loop : ∀ m i, t.kids.length - i ≤ m → fP (m + 1) t i (shapeKs t.kind t.kids.length i (t.kids.drop i)) := fun m => by
  induction m with
  | zero =>
   intro i hi
   refine mQ 0 _ _ _ ⟨fun h => by omega, fun h => ?_⟩
   rw [List.drop_of_length_le (by omega), shapeKs]
  | succ m ihm =>
   intro i hi
   refine mQ (m + 1) _ _ _ ⟨fun h => ?_, fun h => ?_⟩
   ·obtain ⟨u, hu, _⟩ | h' := bb t.kids i
    ·rw [bk hu, shapeKs]
     have hbu := aK hu
     refine ⟨u, hu, _, MN _ _ _, fun h1 => by simp [h1], fun h1 => ⟨u, hu, _, ih i u hu (by omega), fun h2 => by simp [h1, h2], fun h2 => ?_⟩⟩
     simp only [h1, h2, Bool.true_and]
     exact ihm (i + 1) (by omega)
    ·exact absurd h h'
   ·rw [List.drop_of_length_le (by omega), shapeKs]
 rw [bG]
 refine sW (t.kids.length + 1) _ _ ⟨_, tm (by omega) (by omega), fun h => ?_, fun h => ⟨_, FQ _ _ (by omega), fun h1 => by simp [h1], fun h1 => ?_⟩⟩
 ·rw [decide_eq_false (by omega)]; rfl
 ·rw [decide_eq_true (by omega), h1]
  exact loop _ 0 (by omega)
open Go.RowKit
set_option maxHeartbeats 1000000 in
theorem CT (s : ByteArray) (c : Int) (w : World) : Calls Tryz.prog 159 #[.string s, .int .u8 c] w fun e w' => e = .returned (.int .i64 (Lib.indexByte s.data.toList c.toNat.toUInt8)) ∧ w = w' := by
 go_enter Tryz.func159, Tryz.ntmps159
 go_wp2
 rw [run_callFunc_extern Tryz.func178 (by kernel_rfl) (by kernel_rfl) (by kernel_rfl) (e := Extern.BytealgIndexByte.indexByte) (by kernel_rfl), Lib.run_indexByteString]
 simp only [Result.andThen]
 rw [Oper.upon_value]
 go_wp2
 go_ret
 exact ⟨rfl, rfl⟩
theorem DX (s : ByteArray) (c : Int) (w : World) : Calls Tryz.prog 120 #[.string s, .int .u8 c] w fun e w' => e = .returned (.int .i64 (Lib.indexByte s.data.toList c.toNat.toUInt8)) ∧ w = w' := by
 go_enter Tryz.func120, Tryz.ntmps120
 go_wp2_with (go_at_call 159; refine qmm (CT _ _ _) ?_)
 go_ret
 exact ⟨rfl, rfl⟩
def fy (s : List UInt8) : List Tree → Nat → Int
 | [], _ => -1
 | t :: r, i => if t.text = s then (i : Int) else fy s r (i + 1)
theorem qW (s : List UInt8) : ∀ (l : List Tree) (i : Nat), fy s l i = -1 ∨ ∃ k t, fy s l i = ((i + k : Nat) : Int) ∧ l[k]? = some t ∧ t.text = s ∧ ∀ j u, j < k → l[j]? = some u → u.text ≠ s
 | [], i => .inl rfl
 | t :: r, i => by
  simp only [fy]
  split
  ·rename_i h
   exact .inr ⟨0, t, rfl, rfl, h, fun j u hj _ => by omega⟩
  ·rename_i h
   rcases qW s r (i + 1) with h1 | ⟨k, u, h1, h2, h3, h4⟩
   ·exact .inl h1
   ·refine .inr ⟨k + 1, u, by rw [h1]; congr 1; omega, by simpa using h2, h3, fun j x hj hx => ?_⟩
    cases j with
    | zero => simp at hx; subst hx; exact h
    | succ j => exact h4 j x (by omega) (by simpa using hx)
theorem Hd (t : Tree) (s : List UInt8) : oZ t s (t.text == s) := wZ 0 _ _ _ rfl
theorem Ct (l : List Tree) (s : List UInt8) (hl : l.length ≤ 1000000000) : lS l s (fy s l 0) := by
 have loop : ∀ m i, l.length - i ≤ m → ia (m + 1) l s i (fy s (l.drop i) i) := fun m => by
  induction m with
  | zero =>
   intro i hi
   refine ol 0 _ _ _ _ ⟨fun h => by omega, fun h => ?_⟩
   rw [List.drop_of_length_le (by omega), fy]
  | succ m ihm =>
   intro i hi
   refine ol (m + 1) _ _ _ _ ⟨fun h => ?_, fun h => ?_⟩
   ·obtain ⟨u, hu, _⟩ | h' := bb l i
    ·rw [bk hu, fy]
     refine ⟨u, hu, _, Hd u s, fun h1 => ?_, fun h1 => ⟨by omega, ?_⟩⟩
     ·rw [if_pos (by simpa using h1)]
     ·rw [if_neg (by simpa using h1)]; exact ihm (i + 1) (by omega)
    ·exact absurd h h'
   ·rw [List.drop_of_length_le (by omega), fy]
 exact uy _ _ _ _ (loop l.length 0 (by omega))
theorem CQ (l : List Tree) (s : List UInt8) (hl : l.length ≤ 1000000000) : oJ l s (fy s l 0) := zy 0 _ _ _ ⟨_, Ct l s hl, rfl⟩
def eR : List UInt8 → Nat → Int
 | [], _ => -1
 | c :: r, i => if c = 46 then (i : Int) else eR r (i + 1)
theorem xq : ∀ (l : List UInt8) (i : Nat), eR l i = -1 ∨ ∃ k, eR l i = ((i + k : Nat) : Int) ∧ k < l.length
 | [], i => .inl rfl
 | c :: r, i => by
  simp only [eR]
  split
  ·exact .inr ⟨0, rfl, by simp⟩
  ·rcases xq r (i + 1) with h1 | ⟨k, h1, h2⟩
   ·exact .inl h1
   ·exact .inr ⟨k + 1, by rw [h1]; congr 1; omega, by simp; omega⟩
theorem IW (c : UInt8) : ∀ (l : List UInt8), -1 ≤ Lib.indexByte l c
 | [] => by simp [Lib.indexByte]
 | b :: r => by
  have := IW c r
  simp only [Lib.indexByte]
  split
  ·omega
  ·split <;> omega
theorem uv : ∀ (l : List UInt8) (i : Nat), eR l i = if Lib.indexByte l 46 = -1 then -1 else Lib.indexByte l 46 + (i : Int)
 | [], i => by simp [eR, Lib.indexByte]
 | c :: r, i => by
  have ih := uv r (i + 1)
  have := IW 46 r
  simp only [eR, Lib.indexByte, ih]
  by_cases h : c = 46
  ·simp [h]
  ·have h' : (c == 46) = false := by simpa using h
   simp only [if_neg h, h']
   by_cases h2 : Lib.indexByte r 46 = -1
   ·simp [h2]
   ·have h3 : (Lib.indexByte r 46 == -1) = false := by simpa using h2
    simp only [if_neg h2, h3, Bool.false_eq_true, if_false]
    rw [if_neg (by omega)]; omega
theorem Ck (l : List UInt8) : gL l 46 (eR l 0) := sum0_calls rfl rfl fun S w ρ xs hx => by
 simp only [LRel] at hx
 obtain ⟨x, ys, rfl, h1, y, zs, rfl, h2, rfl⟩ := hx
 simp only [VRel] at h1 h2; subst h1 h2
 refine (CT _ _ w).mono fun e w' ⟨h1, h2⟩ => ⟨_, h1, ?_, h2 ▸ Chg.refl _ _⟩
 simp only [VRel]
 have e : eR l 0 = Lib.indexByte l 46 := by
  rw [uv]; split
  ·rename_i h; rw [h]
  ·simp
 rw [e]; rfl
theorem Ki (l : List UInt8) : dN l (eR l 0) := by
 refine mH 1 _ _ ⟨fun h => ?_, fun h => mw 0 _ _ ?_⟩
 ·subst h; rfl
 ·exact ⟨_, Ck l, rfl⟩
theorem LR (l : List UInt8) (hl : l.length ≤ 1000000000) : mD l (if 0 ≤ eR l 0 then l.take (eR l 0).toNat else l) (if 0 ≤ eR l 0 then l.drop ((eR l 0).toNat + 1) else []) (decide (0 ≤ eR l 0)) := by
 refine uU 0 _ _ _ _ ⟨_, _, _, ?_, rfl, rfl, rfl⟩
 refine nQ 0 _ _ _ _ ⟨_, Ki l, fun h => ?_, fun h => ?_⟩
 ·rcases xq l 0 with h1 | ⟨k, h1, h2⟩
  ·rw [h1] at h; omega
  ·rw [h1]
   exact ⟨k, by simp, by omega, by omega, k + 1, by simp, by omega, by simp, by simp, by simp⟩
 ·simp [h]
def inK (p : List Tree) (m : Int) (w : List UInt8) : Int × Int × Bool := if m < 0 then (0, 0, false) else match p[m.toNat]? with
 | none => (0, 0, false)
 | some t => if fy w t.kids 0 < 0 then (0, 0, false) else (m, fy w t.kids 0, true)
def bd (p : List Tree) (m : Int) (w : List UInt8) : Int × Int × Bool := if 0 ≤ eR w 0 then inK p (fy (w.take (eR w 0).toNat) p 0) (w.drop ((eR w 0).toNat + 1)) else inK p m w
theorem Cw {p : List Tree} {m : Int} {w : List UInt8} (hm : m < p.length) (hp : kbulk p ≤ 1000000000) : lZ 1 p m w (inK p m w).1 (inK p m w).2.1 (inK p m w).2.2 := by
 refine xW 0 _ _ _ _ _ _ ⟨fun h => by simp [inK, h], fun h => ?_⟩
 obtain ⟨t, ht, _⟩ | h' := bb p m.toNat
 ·have := ct ht
  have := bM t
  refine ⟨m.toNat, by omega, t, ht, _, CQ _ _ (by omega), fun h1 => ?_, fun h1 => ?_⟩
  ·simp [inK, h, ht, h1]
  ·simp [inK, h, ht, h1]
 ·omega
theorem Ao {p : List Tree} {m : Int} {w : List UInt8} (h0 : 0 ≤ m) (hm : m < p.length) (hp : kbulk p ≤ 1000000000) (hw : w.length ≤ 1000000000) : nb p m w (bd p m w).1 (bd p m w).2.1 (bd p m w).2.2 := by
 have hpl := gI p
 refine yB 1 _ _ _ _ _ _ ⟨fun h => by omega, fun h => ⟨fun h => by omega, fun h => ⟨_, _, _, LR w hw, fun h1 => ?_, fun h1 => ?_⟩⟩⟩
 ·have h1 : 0 ≤ eR w 0 := by simpa using h1
  simp only [if_pos h1, bd]
  refine ⟨_, CQ _ _ (by omega), ?_⟩
  refine Cw ?_ hp
  rcases qW (w.take (eR w 0).toNat) p 0 with h2 | ⟨k, t, h2, h3, _⟩
  ·rw [h2]; omega
  ·have := (List.getElem?_eq_some_iff.1 h3).1
   rw [h2]; omega
 ·have h1 : ¬ 0 ≤ eR w 0 := by simpa using h1
  simp only [bd, if_neg h1]
  exact Cw hm hp
mutual
def nodK : Tree → List Int → List (List Int × Tree)
 | .node k s ls ks, q => (q, .node k s ls ks) :: nodKs ks q 0
def nodKs : List Tree → List Int → Nat → List (List Int × Tree)
 | [], _, _ => []
 | t :: r, q, i => nodK t (q ++ [(i : Int)]) ++ nodKs r q (i + 1)
end
theorem yj (t : Tree) (q : List Int) : nodK t q = (q, t) :: nodKs t.kids q 0 := by cases t; simp only [nodK]; rfl
mutual
theorem nodK_len : ∀ (t : Tree) (q : List Int), (nodK t q).length ≤ tbulk t
 | .node k s ls ks, q => by have := nodKs_len ks q 0; simp only [nodK, tbulk, List.length_cons]; omega
theorem nodKs_len : ∀ (l : List Tree) (q : List Int) (i : Nat), (nodKs l q i).length ≤ kbulk l
 | [], _, _ => by simp [nodKs, kbulk]
 | t :: r, q, i => by have := nodK_len t (q ++ [(i : Int)]); have := nodKs_len r q (i + 1); simp only [nodKs, kbulk, List.length_append]; omega
end
def atK : Tree → List Int → Option Tree
 | t, [] => some t
 |t, i :: r => if i < 0 then none else match t.kids[i.toNat]? with
  | none => none
  | some u => atK u r
theorem Db : ∀ (t : Tree) (q r : List Int), atK t (q ++ r) = (atK t q).bind fun u => atK u r
 | t, [], r => rfl
 | t, i :: q, r => by
  simp only [List.cons_append, atK]
  split
  ·rfl
  ·split
   ·rfl
   ·rename_i u hu; exact Db u q r
theorem Jw {t u : Tree} {i : Nat} (h : t.kids[i]? = some u) : atK t [(i : Int)] = some u := by
 simp [atK, h, show ¬ ((i : Int) < 0) by omega]
mutual
theorem nodK_at (root : Tree) : ∀ (t : Tree) (q : List Int), atK root q = some t → ∀ x ∈ nodK t q, atK root x.1 = some x.2
 | .node k s ls ks, q, h, x, hx => by
  simp only [nodK, List.mem_cons] at hx
  rcases hx with rfl | hx
  ·exact h
  ·exact nodKs_at root (.node k s ls ks) q h ks 0 rfl x hx
theorem nodKs_at (root t : Tree) (q : List Int) (h : atK root q = some t) : ∀ (l : List Tree) (i : Nat), t.kids.drop i = l → ∀ x ∈ nodKs l q i, atK root x.1 = some x.2
 | [], _, _, x, hx => by simp [nodKs] at hx
 | u :: r, i, hd, x, hx => by
  simp only [nodKs, List.mem_append] at hx
  have hu : t.kids[i]? = some u := by
   have := congrArg (·[0]?) hd
   simpa using this
  rcases hx with hx | hx
  ·exact nodK_at root u (q ++ [(i : Int)]) (by rw [Db, h]; exact Jw hu) x hx
  ·exact nodKs_at root t q h r (i + 1) (by rw [← List.tail_drop, hd]; rfl) x hx
end
theorem HH (l : List Int) (hl : l.length ≤ 1000000000) : ni l l := vY 0 _ _ fun b hb => ⟨fun h => (List.length_eq_zero_iff.1 (hb h)).symm, fun _ => ⟨hl, rfl⟩⟩
theorem tM (l : List Int) : dD l l true := by
 have loop : ∀ m i, l.length - i ≤ m → eX (m + 1) l l i true := fun m => by
  induction m with
  | zero => intro i hi; exact lF 0 _ _ _ _ ⟨fun h => by omega, fun h => rfl⟩
  | succ m ihm =>
   intro i hi
   refine lF (m + 1) _ _ _ _ ⟨fun h => ?_, fun h => rfl⟩
   obtain ⟨u, hu, _⟩ | h' := bb l i
   ·exact ⟨u, hu, u, hu, fun h => absurd rfl h, fun _ => ihm (i + 1) (by omega)⟩
   ·exact absurd h h'
 exact rE (l.length + 1) _ _ _ ⟨fun h => absurd rfl h, fun _ => loop l.length 0 (by omega)⟩
def ny (u : Tree) : Bool := u.kind == 16 || u.kind == 9
def tgK (p : List Tree) (m : Int) (q : List Int) (u : Tree) : GTarget := ⟨⟨m, q⟩, (bd p m u.text).1, (bd p m u.text).2.1, !(bd p m u.text).2.2⟩
def eS (p : List Tree) (m : Int) : List (List Int × Tree) → List GTarget
 | [] => []
 | x :: r => (if ny x.2 then [tgK p m x.1 x.2] else []) ++ eS p m r
theorem tw (p : List Tree) (m : Int) : ∀ a b, eS p m (a ++ b) = eS p m a ++ eS p m b
 | [], b => rfl
 | x :: r, b => by simp only [List.cons_append, eS, tw p m r b, List.append_assoc]
theorem tq (p : List Tree) (m : Int) : ∀ a, (eS p m a).length ≤ a.length
 | [] => Nat.le_refl _
 | x :: r => by have := tq p m r; simp only [eS, List.length_append, List.length_cons]; split <;> simp <;> omega
theorem JN {p : List Tree} {M : Int} (h0 : 0 ≤ M) (hM : M < p.length) (hp : kbulk p ≤ 1000000000) : ∀ (t : Tree) (q : List Int) (fd : List GTarget), q.length + tbulk t ≤ 1000000000 → fd.length + tbulk t ≤ 1000000000 → ft p M q fd t p M q (fd ++ eS p M (nodK t q)) := cy fun t ih q fd hq hf => by
 have hk := bM t
 have ht := cv t
 have hb := aW t
 have loop : ∀ k i fd, t.kids.length - i ≤ k → fd.length + kbulk (t.kids.drop i) ≤ 1000000000 → di (k + 1) t fd p M q i p M q (fd ++ eS p M (nodKs (t.kids.drop i) q i)) := fun k => by
  induction k with
  | zero =>
   intro i fd hi hf
   refine lq 0 _ _ _ _ _ _ _ _ _ _ ⟨fun h => by omega, fun h => ⟨rfl, rfl, rfl, ?_⟩⟩
   rw [List.drop_of_length_le (by omega)]; simp [nodKs, eS]
  | succ k ihk =>
   intro i fd hi hf
   refine lq (k + 1) _ _ _ _ _ _ _ _ _ _ ⟨fun h => ?_, fun h => ⟨rfl, rfl, rfl, ?_⟩⟩
   ·obtain ⟨u, hu, _⟩ | h' := bb t.kids i
    ·have hd := bk hu
     rw [hd, kbulk] at hf
     have hbu := aK hu
     have hl := nodK_len u (q ++ [(i : Int)])
     have hl2 := tq p M (nodK u (q ++ [(i : Int)]))
     refine ⟨u, hu, by simp; omega, _, _, _, _, ih i u hu (q ++ [(i : Int)]) fd (by simp; omega) (by omega), q.length, by simp, by simp, by omega, ?_⟩
     have := ihk (i + 1) (fd ++ eS p M (nodK u (q ++ [(i : Int)]))) (by omega) (by simp; omega)
     rw [hd, nodKs, tw, ← List.append_assoc]
     simpa using this
    ·exact absurd h h'
   ·rw [List.drop_of_length_le (by omega)]; simp [nodKs, eS]
 have key : ∀ b, b = ny t → fb (t.kids.length + 3) p M q fd t b p M q (fd ++ eS p M (nodK t q)) := fun b hbb => by
  rw [yj, eS]
  refine rj (t.kids.length + 2) _ _ _ _ _ _ _ _ _ _ ⟨fun h => ?_, fun h => ?_⟩
  ·rw [if_pos (by rw [← hbb]; exact h)]
   refine ⟨_, _, _, Ao h0 hM hp (by omega), _, HH q (by omega), qV (t.kids.length + 1) _ _ _ _ _ _ _ _ _ _ _ _ _ ⟨by simp; omega, ?_⟩⟩
   have := loop t.kids.length 0 (fd ++ [tgK p M q t]) (by omega) (by simp; omega)
   rw [← List.append_assoc]
   exact this
  ·rw [if_neg (by rw [← hbb, h]; simp)]
   have := loop (t.kids.length + 1) 0 fd (by omega) (by simp; omega)
   simpa using this
 refine rx (t.kids.length + 3) _ _ _ _ _ _ _ _ _ ⟨fun h => key _ (by simp [ny, h]), fun h => key _ (by simp [ny, h])⟩
def bg : List Tree → Bool
 | [] => true
 | t :: r => t.kind == 1 && shapeK t && bg r
theorem zk (p : List Tree) (hp : kbulk p ≤ 1000000000) : lW p (bg p) := by
 have hl := gI p
 have loop : ∀ m i, p.length - i ≤ m → lh (m + 1) p i (bg (p.drop i)) := fun m => by
  induction m with
  | zero =>
   intro i hi
   refine re 0 _ _ _ ⟨fun h => by omega, fun h => ?_⟩
   rw [List.drop_of_length_le (by omega), bg]
  | succ m ihm =>
   intro i hi
   refine re (m + 1) _ _ _ ⟨fun h => ?_, fun h => ?_⟩
   ·obtain ⟨u, hu, _⟩ | h' := bb p i
    ·rw [bk hu, bg]
     have := ct hu
     refine ⟨u, hu, fun h1 => by simp [h1], fun h1 => ⟨_, po u (by omega), fun h2 => by simp [h1, h2], fun h2 => ⟨by omega, ?_⟩⟩⟩
     simp only [h1, h2, beq_self_eq_true, Bool.true_and]
     exact ihm (i + 1) (by omega)
    ·exact absurd h h'
   ·rw [List.drop_of_length_le (by omega), bg]
 exact xc _ _ _ (loop p.length 0 (by omega))
def jm (p : List Tree) : Nat → List Tree → List GTarget
 | _, [] => []
 | i, t :: r => eS p i (nodK t []) ++ jm p (i + 1) r
theorem zn (p : List Tree) : ∀ (i : Nat) (l : List Tree), (jm p i l).length ≤ kbulk l
 | _, [] => Nat.le_refl _
 | i, t :: r => by
  have := zn p (i + 1) r
  have := tq p i (nodK t [])
  have := nodK_len t []
  simp only [jm, kbulk, List.length_append]; omega
def bv (p : List Tree) : List GTarget := if bg p then jm p 0 p else []
theorem zo (p : List Tree) (hp : kbulk p ≤ 100000000) : lU p (bv p) := by
 have hl := gI p
 have loop : ∀ m i z fd, p.length - i ≤ m → fd.length + kbulk (p.drop i) ≤ 1000000000 → la (m + 1) p p z [] fd i (fd ++ jm p i (p.drop i)) := fun m => by
  induction m with
  | zero =>
   intro i z fd hi hf
   refine rh 0 _ _ _ _ _ _ _ ⟨fun h => by omega, fun h => ?_⟩
   rw [List.drop_of_length_le (by omega)]; simp [jm]
  | succ m ihm =>
   intro i z fd hi hf
   refine rh (m + 1) _ _ _ _ _ _ _ ⟨fun h => ?_, fun h => ?_⟩
   ·obtain ⟨u, hu, _⟩ | h' := bb p i
    ·have := ct hu
     have hd := bk hu
     rw [hd, kbulk] at hf
     have := tq p i (nodK u [])
     have := nodK_len u []
     refine ⟨u, hu, _, _, _, _, JN (p := p) (M := (i : Int)) (by omega) (by omega) (by omega) u [] fd (by simp; omega) (by omega), by omega, ?_⟩
     rw [hd, jm, ← List.append_assoc]
     exact ihm (i + 1) _ _ (by omega) (by simp; omega)
    ·exact absurd h h'
   ·rw [List.drop_of_length_le (by omega)]; simp [jm]
 refine xp (p.length + 1) _ _ ⟨_, zk p (by omega), fun h => by simp [bv, h], fun h => ?_⟩
 have := loop p.length 0 0 [] (by omega) (by simp; omega)
 simpa [bv, h] using this
theorem xm {p : List Tree} {M : Int} {w : List UInt8} (h : (inK p M w).2.2 = true) : ∃ (i d : Nat) (t u : Tree), M = (i : Int) ∧ (inK p M w).1 = (i : Int) ∧ (inK p M w).2.1 = (d : Int) ∧ p[i]? = some t ∧ t.kids[d]? = some u ∧ u.text = w ∧ ∀ j v, j < d → t.kids[j]? = some v → v.text ≠ w := by
 unfold inK at h ⊢
 by_cases hM : M < 0
 ·rw [if_pos hM] at h; cases h
 ·rw [if_neg hM] at h ⊢
  cases ht : p[M.toNat]? with
  | none => rw [ht] at h; cases h
  | some t =>
   rw [ht] at h
   simp only at h ⊢
   rcases qW w t.kids 0 with e | ⟨k, u, e1, e2, e3, e4⟩
   ·simp [e] at h
   ·have hn : ¬ fy w t.kids 0 < 0 := by omega
    rw [if_neg hn]
    exact ⟨M.toNat, k, t, u, by omega, by simp only []; omega, by simp only []; omega, ht, e2, e3, e4⟩
theorem Io {p : List Tree} {M : Int} {w : List UInt8} (h : (bd p M w).2.2 = true) : ∃ (i d : Nat) (t u : Tree), (bd p M w).1 = (i : Int) ∧ (bd p M w).2.1 = (d : Int) ∧ p[i]? = some t ∧ t.kids[d]? = some u := by
 unfold bd at h ⊢
 split at h
 ·rename_i hd
  rw [if_pos hd]
  obtain ⟨i, d, t, u, _, a1, a2, a3, a4, _⟩ := xm h
  exact ⟨i, d, t, u, a1, a2, a3, a4⟩
 ·rename_i hd
  rw [if_neg hd]
  obtain ⟨i, d, t, u, _, a1, a2, a3, a4, _⟩ := xm h
  exact ⟨i, d, t, u, a1, a2, a3, a4⟩
theorem zq {w : List UInt8} {k : Nat} (h : bm w = k) (hk : 0 < k ∧ k < 5) : (bA w).2.1 = w.length ∧ (bA w).1 = k := by
 unfold bm at h
 split at h
 ·omega
 ·split at h
  ·rename_i hc
   have e : tokenT w = bA w := by
    unfold tokenT at h ⊢
    simp only [] at h ⊢
    repeat' split at h
    all_goals simp_all
    all_goals omega
   rw [e] at hc h
   exact ⟨hc.2, h⟩
  ·omega
theorem IM {w : List UInt8} {k : Nat} (h : bm w = k) (hk : k = 1 ∨ k = 2) : spanN aQ w = w.length ∧ (k = 1 ↔ cf (w.getD 0 0) = true) := by
 obtain ⟨h1, h2⟩ := zq h (by omega)
 unfold bA at h1 h2
 split at h1
 ·rename_i hc
  rw [if_pos hc] at h2
  unfold dL at h2
  repeat' split at h2
  all_goals simp only at h2
  all_goals omega
 ·rename_i hc
  rw [if_neg hc] at h2
  unfold bC at h1 h2
  split at h2
  ·simp only at h2; omega
  ·rename_i a1
   rw [if_neg a1] at h1
   split at h2
   ·simp only at h2; omega
   ·rename_i a2
    rw [if_neg a2] at h1
    split at h2
    ·rename_i a3
     rw [if_pos a3] at h1
     simp only at h1 h2
     exact ⟨h1, fun _ => a3, fun _ => h2.symm⟩
    ·rename_i a3
     rw [if_neg a3] at h1
     simp only at h1 h2
     exact ⟨h1, fun h => by omega, fun h => absurd h a3⟩
theorem Jj {w : List UInt8} {k : Nat} (h : bm w = k) (hk : k = 3 ∨ k = 4) : spanN aQ w < w.length ∧ w.getD (spanN aQ w) 0 = 46 ∧ (k = 3 ↔ cf (w.getD (spanN aQ w + 1) 0) = true) := by
 obtain ⟨h1, h2⟩ := zq h (by omega)
 unfold bA at h1 h2
 split at h1
 ·rename_i hc
  rw [if_pos hc] at h2
  have hc' := hc
  simp only [dc, Bool.and_eq_true, decide_eq_true_eq, beq_iff_eq] at hc'
  refine ⟨by omega, ?_, ?_⟩
  ·have := hc'.1.2
   exact UInt8.toNat_inj.1 (by rw [this]; rfl)
  ·unfold dL at h2
   repeat' split at h2
   all_goals simp only at h2
   all_goals first
    | omega
    | (rename_i a3; exact ⟨fun _ => a3, fun _ => h2.symm⟩)
    | (rename_i a3; exact ⟨fun h => by omega, fun h => absurd h a3⟩)
 ·rename_i hc
  rw [if_neg hc] at h2
  unfold bC at h2
  repeat' split at h2
  all_goals simp only at h2
  all_goals omega
theorem xl (c : UInt8) (r : List UInt8) : spanN aQ (c :: r) = if aQ c = true then spanN aQ r + 1 else 0 := by
 unfold spanN; rw [List.takeWhile_cons]; split <;> simp
theorem BN : ∀ (w : List UInt8) (i : Nat), spanN aQ w = w.length → eR w i = -1
 | [], i, h => rfl
 | c :: r, i, h => by
  rw [xl] at h
  split at h
  ·rename_i hc
   have : c ≠ 46 := fun e => by subst e; revert hc; decide
   rw [eR, if_neg this]
   exact BN r (i + 1) (by simpa using h)
  ·simp at h
theorem FG : ∀ (w : List UInt8) (i : Nat), spanN aQ w < w.length → w.getD (spanN aQ w) 0 = 46 → eR w i = ((i + spanN aQ w : Nat) : Int)
 | [], i, h, _ => by simp at h
 | c :: r, i, h, h2 => by
  rw [xl] at h h2 ⊢
  split at h
  ·rename_i hc
   rw [if_pos hc] at h2 ⊢
   have : c ≠ 46 := fun e => by subst e; revert hc; decide
   rw [eR, if_neg this, FG r (i + 1) (by simpa using h) (by simpa using h2)]
   congr 1; omega
  ·rename_i hc
   rw [if_neg hc] at h2 ⊢
   have : c = 46 := by simpa using h2
   rw [eR, if_pos this]; rfl
theorem dH {k n : Int} : ∀ {l : List Tree} {i j : Nat} {u : Tree}, shapeKs k n i l = true → l[j]? = some u → gb k n ((i + j : Nat) : Int) u.kind = true ∧ shapeK u = true
 | [], i, j, u, _, h => by simp at h
 | t :: r, i, 0, u, h, hj => by
  simp only [shapeKs, Bool.and_eq_true] at h
  simp only [List.getElem?_cons_zero, Option.some.injEq] at hj
  subst hj
  exact ⟨by simpa using h.1.1, h.1.2⟩
 | t :: r, i, j + 1, u, h, hj => by
  simp only [shapeKs, Bool.and_eq_true] at h
  have := dH (i := i + 1) (j := j) h.2 (by simpa using hj)
  exact ⟨by rw [show i + (j + 1) = i + 1 + j by omega]; exact this.1, this.2⟩
theorem iv : ∀ {p : List Tree} {i : Nat} {t : Tree}, bg p = true → p[i]? = some t → t.kind = 1 ∧ shapeK t = true
 | [], i, t, _, h => by simp at h
 | v :: r, 0, t, h, hi => by
  simp only [bg, Bool.and_eq_true, beq_iff_eq] at h
  simp only [List.getElem?_cons_zero, Option.some.injEq] at hi
  subst hi; exact h.1
 | v :: r, i + 1, t, h, hi => by
  simp only [bg, Bool.and_eq_true] at h
  exact iv h.2 (by simpa using hi)
abbrev Kn := ac
abbrev Env := List ar
structure Cx where
 p : List Tree
 nm : List ((Int × List UInt8) × ac)
 sg : List ((Int × Int) × aj)
 mo : Int
 pa : List Int
 wm : Int
 wp : List Int
structure Sv where
 tg : List GTarget
 fa : List ae
 rs : Int
 rl : Int
def Cx.go (x : Cx) (i : Int) : Cx := { x with pa := x.pa ++ [i] }
def faP (x : Cx) (k : Int) (b : List Int) (s : Sv) : Sv := { s with fa := s.fa ++ [⟨⟨x.mo, x.pa ++ b⟩, k⟩] }
def cZ (a b : Kn) : Bool := a.simple != 0 && b.simple != 0 && !(a.simple == b.simple && a.lists == b.lists)
def nZ (w : List UInt8) : Env → Option Kn
 | [] => none
 | b :: r => if b.name = w then some b.typ else nZ w r
abbrev Ev := Cx → Tree → Env → Sv → Kn × Sv
def cp (t : Tree) (i : Nat) : Tree := t.kids.getD i (.node 0 [] [] [])
def knS (x : Cx) (i : Nat) (k : Kn) (s : Sv) : Sv := if x.mo = x.wm ∧ x.pa ++ [(i : Int)] = x.wp then { s with rs := k.simple, rl := k.lists } else s
def DW (x : Cx) (i : Nat) : Kn × Sv → Kn × Sv
 | (k, s) => (k, knS x i k s)
def aU (E : Ev) (x : Cx) (t : Tree) (i : Nat) (env : Env) (s : Sv) : Kn × Sv := DW x i (E (x.go i) (cp t i) env s)
def noT : GTarget := ⟨⟨0, []⟩, 0, 0, true⟩
def dy (s : Sv) : Sv := { s with tg := s.tg.drop 1 }
def oM (x : Cx) (g : GTarget) : aj := if g.Free then ⟨[], ⟨0, 0⟩⟩ else (mlook (g.Module, g.Def) x.sg).getD ⟨[], ⟨0, 0⟩⟩
def rL (x : Cx) (t : Tree) (g : GTarget) (q : aj) (s : Sv) : Sv := if g.Free then faP x 1 [] s else if q.params.length = t.kids.length then s else faP x 3 [] s
def sF (x : Cx) (ps : List Kn) (i : Nat) : Kn × Sv → Sv
 |(k, s) => match ps[i]? with
  | some q => if cZ k q then faP x 4 [(i : Int), 0] s else s
  | none => s
def ij (E : Ev) (x : Cx) (ps : List Kn) (env : Env) : List Tree → Nat → Sv → Sv
 | [], _, s => s
 | a :: r, i, s => ij E x ps env r (i + 1) (sF x ps i (aU E (x.go i) a 0 env s))
def pD (E : Ev) (x : Cx) (t : Tree) (env : Env) (s : Sv) : Kn × Sv := ((oM x (s.tg.headD noT)).result, ij E x (oM x (s.tg.headD noT)).params env t.kids 0 (rL x t (s.tg.headD noT) (oM x (s.tg.headD noT)) (dy s)))
def Bl (x : Cx) (i : Nat) (f : Kn) : Kn × Sv → Kn × Sv
 | (k, s) => (if f.simple = 0 then k else f, if cZ k (if f.simple = 0 then k else f) then faP x 6 [(i : Int)] s else s)
def im (E : Ev) (x : Cx) (t : Tree) (env : Env) : Nat → Nat → Kn × Sv → Kn × Sv
 | 0, _, r => r
 | n + 1, i, (f, s) => im E x t env n (i + 1) (Bl x i f (aU E x t i env s))
def kP : Kn × Sv → Kn × Sv
 | (f, s) => (if f.simple = 0 then f else ⟨f.simple, f.lists + 1⟩, s)
def ifQ (x : Cx) (a : Kn) : Kn × Sv → Kn × Sv
 | (b, s) => (if a.simple = 0 then b else a, if cZ a b then faP x 6 [2] s else s)
def ifR (E : Ev) (x : Cx) (t : Tree) (env : Env) : Kn × Sv → Kn × Sv
 | (a, s) => ifQ x a (aU E x t 2 env s)
def ifS (x : Cx) : Kn × Sv → Sv
 | (c, s) => if cZ c ⟨7, 0⟩ then faP x 4 [0] s else s
def ifP (E : Ev) (x : Cx) (t : Tree) (env : Env) (s : Sv) : Kn × Sv := ifR E x t env (aU E x t 1 env (ifS x (aU E x t 0 env s)))
def okB (k : Kn) : Bool := (k.simple == 5 && k.lists == 0) || (k.simple == 6 && k.lists == 0)
def bad (k : Kn) : Bool := !okB k && k.simple != 0
def rK (a : Kn) : Kn := if okB a then a else ⟨0, 0⟩
def si (a b : Kn) : Kn := if okB b then (if (rK a).simple = 0 then b else rK a) else rK a
def qh (x : Cx) (a b : Kn) (s : Sv) : Sv :=
 if bad a then (if bad b then faP x 4 [1] (faP x 4 [0] s) else faP x 4 [0] s)
 else if bad b then faP x 4 [1] s else if cZ a b then faP x 6 [1] s else s
def tF (x : Cx) (a b : Kn) (s : Sv) : Sv := if cZ b ⟨5, 0⟩ then faP x 4 [1] (if cZ a ⟨5, 0⟩ then faP x 4 [0] s else s) else (if cZ a ⟨5, 0⟩ then faP x 4 [0] s else s)
def opQ (x : Cx) (w : List UInt8) (a : Kn) : Kn × Sv → Kn × Sv
 | (b, s) => if w = [43] then (si a b, qh x a b s) else if w = [61, 61] then (⟨7, 0⟩, if cZ a b then faP x 6 [1] s else s) else (if w = [60] then ⟨7, 0⟩ else ⟨5, 0⟩, tF x a b s)
def ua (E : Ev) (x : Cx) (t : Tree) (env : Env) : Kn × Sv → Kn × Sv
 | (a, s) => opQ x t.text a (aU E x t 1 env s)
def Ak (E : Ev) (x : Cx) (t : Tree) (env : Env) : Kn × Sv → Kn × Sv
 | (a, s) => aU E x t 1 (⟨t.text, a⟩ :: env) s
def ul (x : Cx) (s : Sv) : Option Kn → Kn × Sv
 | some k => (k, s)
 | none => (⟨0, 0⟩, faP x 1 [] s)
def cX (E : Ev) : Ev := fun x t env s =>
 if t.kind = 10 then (⟨5, 0⟩, s) else if t.kind = 11 then (⟨6, 0⟩, s) else if t.kind = 13 then (⟨7, 0⟩, s) else if t.kind = 14 then (⟨7, 0⟩, s)
 else if t.kind = 12 then ul x s (nZ t.text env) else if t.kind = 16 then pD E x t env s
 else if t.kind = 18 then kP (im E x t env t.kids.length 0 (⟨0, 0⟩, s)) else if t.kind = 19 then ifP E x t env s
 else if t.kind = 20 then Ak E x t env (aU E x t 0 env s) else if t.kind = 21 then ua E x t env (aU E x t 0 env s)
 else if t.kind = 22 then aU E x t 0 env s else (⟨0, 0⟩, s)
def aT : Nat → Ev
 | 0 => fun _ _ _ s => (⟨0, 0⟩, s)
 | n + 1 => cX (aT n)
def mkC (x : Cx) (s : Sv) : CKr := ⟨x.p, s.tg, x.nm, x.sg, x.mo, x.pa, s.fa, x.wm, x.wp, s.rs, s.rl⟩
section
variable (x : Cx) (s : Sv)
abbrev ckF (k : Int) (b : List Int) (s' : Sv) : Prop := ay (mkC x s) k b (mkC x s')
abbrev ckE (t : Tree) (env : Env) (k : Kn) (s' : Sv) : Prop := fH (mkC x s) t env k (mkC x s')
abbrev ckK (t : Tree) (i : Int) (env : Env) (k : Kn) (s' : Sv) : Prop := aV (mkC x s) t i env k (mkC x s')
abbrev ckV (t : Tree) (env : Env) (k : Kn) (s' : Sv) : Prop := gs (mkC x s) t env k (mkC x s')
abbrev ckC (t : Tree) (env : Env) (k : Kn) (s' : Sv) : Prop := jq (mkC x s) t env k (mkC x s')
abbrev ckB (t : Tree) (env : Env) (k : Kn) (s' : Sv) : Prop := gp (mkC x s) t env k (mkC x s')
abbrev ckO (t : Tree) (env : Env) (k : Kn) (s' : Sv) : Prop := fU (mkC x s) t env k (mkC x s')
abbrev ckS (ab : Kn × Kn) (k : Kn) (s' : Sv) : Prop := kh (mkC x s) ab k (mkC x s')
abbrev ckN (i : Int) : Prop := cc (mkC x s) i (mkC (x.go i) s)
abbrev ckD (i : Int) : Prop := aM (mkC (x.go i) s) (mkC x s)
end
theorem HU (a b : List Int) (h : a.length + b.length ≤ 1000000000) : oK [a, b] (a ++ b) := by
 refine wC 6 _ _ (?_)
 refine my 5 _ _ _ _ (⟨fun _ => ⟨a, rfl, by omega, fun h => absurd h (by omega), fun _ => ⟨by omega, ?_⟩⟩, fun h => absurd (show 0 < 2 by decide) h⟩)
 refine my 4 _ _ _ _ (⟨fun _ => ⟨b, rfl, by omega, fun h => absurd h (by omega), fun _ => ⟨by omega, ?_⟩⟩, fun h => absurd (show 1 < 2 by decide) h⟩)
 refine my 3 _ _ _ _ (⟨fun h => absurd h (show ¬ 2 < 2 by decide), fun _ => ⟨[], Mm _ (by omega), ?_⟩⟩)
 refine mx 2 _ _ _ _ (⟨fun _ => ⟨a, rfl, by simp; omega, by omega, ?_⟩, fun h => absurd (show 0 < 2 by decide) h⟩)
 refine mx 1 _ _ _ _ (⟨fun _ => ⟨b, rfl, by simp; omega, by omega, ?_⟩, fun h => absurd (show 1 < 2 by decide) h⟩)
 exact mx 0 _ _ _ _ (⟨fun h => absurd h (show ¬ 2 < 2 by decide), fun _ => rfl⟩)
theorem dx {x : Cx} {s : Sv} (k : Int) (b : List Int) (h1 : x.pa.length + b.length ≤ 1000000000) (h2 : s.fa.length + 1 ≤ 1000000000) : ckF x s k b (faP x k b s) :=
 rS_typing_checker_fault 0 _ _ _ _ (⟨_, HU x.pa b h1, by simp [mkC]; omega, rfl⟩)
theorem jB {x : Cx} {s : Sv} (i : Int) (h : x.pa.length + 1 ≤ 1000000000) : ckN x s i := ru 0 _ _ _ (⟨by simp [mkC]; omega, rfl⟩)
theorem iq {x : Cx} {s : Sv} (i : Int) : ckD x s i := rt 0 _ _ (⟨x.pa.length, by simp [mkC, Cx.go], by simp [mkC, Cx.go], by simp [mkC, Cx.go]⟩)
theorem Ji {x : Cx} {s : Sv} (h : 0 < s.tg.length) : ga (mkC x s) (s.tg.headD noT) (mkC x (dy s)) := by
 obtain ⟨tg, fa, rs, rl⟩ := s
 cases tg with
 | nil => simp at h
 | cons g r => exact sN 0 _ _ _ (⟨g, rfl, by simp [mkC], rfl, rfl⟩)
theorem jf (a b : Kn) : bK a b (cZ a b) := wz 0 _ _ _ (⟨fun h1 => ⟨fun h2 => by simp [cZ, h1, h2], fun h2 => by simp [cZ, h1, h2]⟩, fun h1 => by simp [cZ, h1]⟩)
theorem MA (a b : List Int) (ha : a.length ≤ 1000000000) : nq a b (decide (a = b)) := by
 by_cases hl : a.length = b.length
 ·have key : ∀ k i, a.length - i ≤ k → a.take i = b.take i → jk (k + 1) a b i (decide (a = b)) := by
   intro k
   induction k with
   | zero =>
    intro i hi ht
    refine pY 0 _ _ _ _ (⟨fun h => by omega, fun _ => ?_⟩)
    rw [List.take_of_length_le (by omega), List.take_of_length_le (by omega)] at ht
    simp [ht]
   | succ k ih =>
    intro i hi ht
    refine pY (k + 1) _ _ _ _ (⟨fun h => ?_, fun h => ?_⟩)
    ·have h' : i < b.length := by omega
     refine ⟨a[i], List.getElem?_eq_getElem h, b[i], List.getElem?_eq_getElem h', fun hn => ?_, fun he => ⟨by omega, ih (i + 1) (by omega) ?_⟩⟩
     ·have : a ≠ b := fun e => hn (by subst e; rfl)
      simp [this]
     ·rw [List.take_add_one, List.take_add_one, ht, List.getElem?_eq_getElem h, List.getElem?_eq_getElem h', he]
    ·rw [List.take_of_length_le (by omega), List.take_of_length_le (by omega)] at ht
     simp [ht]
  exact ql (a.length + 1) _ _ _ (⟨fun h => absurd hl h, fun _ => key a.length 0 (by omega) rfl⟩)
 ·exact ql 0 _ _ _ (⟨fun _ => by
   have : a ≠ b := fun e => hl (by rw [e])
   simp [this], fun h => absurd h hl⟩)
theorem Mf {x : Cx} {s s' : Sv} {t u : Tree} {i : Nat} {env : Env} {k : Kn} (hu : t.kids[i]? = some u) (hl : x.pa.length + 1 ≤ 1000000000) (h : ckE (x.go i) s u env k s') : ckK x s t i env k (knS x i k s') := by
 have hl' : (x.pa ++ [(i : Int)]).length ≤ 1000000000 := by simp; omega
 have he := MA (x.pa ++ [(i : Int)]) x.wp hl'
 unfold knS
 by_cases h1 : x.mo = x.wm
 ·by_cases h2 : x.pa ++ [(i : Int)] = x.wp
  ·rw [if_pos ⟨h1, h2⟩]
   refine jF 0 _ _ _ _ _ _ (⟨_, jB (i : Int) hl, i, rfl, u, hu, _, _, h, fun _ => ⟨_, he, fun _ => ⟨_, iq (x := x) (s := { s' with rs := k.simple, rl := k.lists }) i, rfl, rfl⟩, fun hb => ?_⟩, fun hn => absurd h1 hn⟩)
   rw [decide_eq_true h2] at hb; cases hb
  ·rw [if_neg (fun h => h2 h.2)]
   refine jF 0 _ _ _ _ _ _ (⟨_, jB (i : Int) hl, i, rfl, u, hu, _, _, h, fun _ => ⟨_, he, fun hb => ?_, fun _ => ⟨_, iq (x := x) (s := s') i, rfl, rfl⟩⟩, fun hn => absurd h1 hn⟩)
   rw [decide_eq_false h2] at hb; cases hb
 ·rw [if_neg (fun h => h1 h.1)]
  exact jF 0 _ _ _ _ _ _ (⟨_, jB (i : Int) hl, i, rfl, u, hu, _, _, h, fun hn => absurd hn h1, fun _ => ⟨_, iq (x := x) (s := s') i, rfl, rfl⟩⟩)
theorem Gg {x : Cx} {s : Sv} (t : Tree) (h1 : x.pa.length ≤ 1000000000) (h2 : s.fa.length + 1 ≤ 1000000000) : ∀ env : Env, dI (env.length + 1) (mkC x s) t env (ul x s (nZ t.text env)).1 (mkC x (ul x s (nZ t.text env)).2)
 | [] => jO 0 _ _ _ _ _ (⟨fun _ => ⟨_, dx (x := x) (s := s) 1 [] (by simpa using h1) h2, rfl, rfl⟩, fun y r h => (by cases h)⟩)
 | b :: r => by
  refine jO (r.length + 1) _ _ _ _ _ (⟨fun h => (by cases h), fun y r' h => ?_⟩)
  injection h with e1 e2; subst e1 e2
  refine ⟨fun hb => ?_, fun hb => ?_⟩
  ·rw [show nZ t.text (b :: r) = some b.typ from if_pos hb]
   exact ⟨rfl, rfl⟩
  ·rw [show nZ t.text (b :: r) = nZ t.text r from if_neg hb]
   exact Gg t h1 h2 r
theorem MW {x : Cx} {s : Sv} (t : Tree) (env : Env) (h1 : x.pa.length ≤ 1000000000) (h2 : s.fa.length + 1 ≤ 1000000000) : ckV x s t env (ul x s (nZ t.text env)).1 (ul x s (nZ t.text env)).2 :=
 rS_typing_checker_variable (env.length + 1) _ _ _ _ _ (Gg t h1 h2 env)
theorem lp {t : Tree} {i : Nat} (h : i < t.kids.length) : t.kids[i]? = some (cp t i) := by
 simp only [cp, List.getD_eq_getElem?_getD]
 rw [List.getElem?_eq_getElem h]; rfl
theorem nI {t u : Tree} {i : Nat} (h : t.kids[i]? = some u) : cp t i = u := by simp only [cp, List.getD_eq_getElem?_getD, h]; rfl
def exT (t : Tree) : Prop := shapeK t = true ∧ gu t.kind = true
theorem pM {n : Int} {a b c : Nat} {z : Int} (h : 0 ≤ f0 n a b c z) : (a : Int) ≤ n ∧ (0 ≤ z → n ≤ z) := by
 unfold f0 at h
 split at h
 ·omega
 ·split at h
  ·omega
  ·exact ⟨by omega, fun hz => by omega⟩
theorem vw {t : Tree} (h : exT t) : (t.kind = 22 → t.kids.length = 1) ∧ (t.kind = 20 → t.kids.length = 2) ∧ (t.kind = 19 → t.kids.length = 3) ∧ (t.kind = 21 → t.kids.length = 2) := by
 obtain ⟨hs, hk⟩ := h
 rw [bG] at hs
 simp only [Bool.and_eq_true, decide_eq_true_eq] at hs
 have hl := hs.1.1
 refine ⟨fun e => ?_, fun e => ?_, fun e => ?_, fun e => ?_⟩
 ·rw [e] at hl; have := pM (show 0 ≤ f0 t.kids.length 1 2 0 1 from hl); omega
 ·rw [e] at hl; have := pM (show 0 ≤ f0 t.kids.length 2 4 0 2 from hl); omega
 ·rw [e] at hl; have := pM (show 0 ≤ f0 t.kids.length 3 3 0 3 from hl); omega
 ·rw [e] at hl; have := pM (show 0 ≤ f0 t.kids.length 2 1 0 2 from hl); omega
theorem lT {t u : Tree} {i : Nat} (h : exT t) (hu : t.kids[i]? = some u) (h16 : t.kind ≠ 16) : exT u ∧ u.kind ≠ 17 := by
  obtain ⟨hs, hk⟩ := h
  rw [bG] at hs
  simp only [Bool.and_eq_true, decide_eq_true_eq] at hs
  obtain ⟨g1, g2⟩ := dH hs.2 hu
  have hk' : 10 ≤ t.kind ∧ t.kind ≤ 22 ∧ t.kind ≠ 17 := by simpa [gu] using hk
  have e : gu u.kind = true := by
    simp only [gb] at g1
    rw [if_neg (by omega), if_neg (by omega), if_neg (by omega), if_neg h16] at g1
    split at g1
    · simp only [Bool.or_eq_true, Bool.and_eq_true, beq_iff_eq, tS] at g1
      rcases g1 with g | ⟨_, g⟩
      · exact g.1
      · rw [g]; rfl
    · exact g1
  exact ⟨⟨g2, e⟩, by have : 10 ≤ u.kind ∧ u.kind ≤ 22 ∧ u.kind ≠ 17 := by simpa [gu   ] using e
                     exact this.2.2⟩
theorem JF {t u : Tree} {i : Nat} (h : exT t) (hu : t.kids[i]? = some u) (h16 : t.kind = 16) : u.kind = 17 ∧ u.kids.length = 1 ∧ exT (cp u 0) := by
 obtain ⟨hs, hk⟩ := h
 rw [bG] at hs
 simp only [Bool.and_eq_true, decide_eq_true_eq] at hs
 obtain ⟨g1, g2⟩ := dH hs.2 hu
 have e : u.kind = 17 := by
  rw [h16] at g1
  simpa [gb] using g1
 rw [bG] at g2
 simp only [Bool.and_eq_true, decide_eq_true_eq] at g2
 have hl := g2.1.1
 rw [e] at hl
 have := pM (show 0 ≤ f0 u.kids.length 1 0 0 1 from hl)
 have h1 : u.kids.length = 1 := by omega
 obtain ⟨g3, g4⟩ := dH g2.2 (lp (t := u) (i := 0) (by omega))
 rw [e] at g3
 exact ⟨e, h1, g4, by simpa [gb] using g3⟩
mutual
def uN : Tree → Nat
 | .node k w ls ks => (if k = 16 ∨ k = 9 then 1 else 0) + uNs ks
def uNs : List Tree → Nat
 | [] => 0
 | t :: r => uN t + uNs r
end
theorem jX (t : Tree) : uN t = (if t.kind = 16 ∨ t.kind = 9 then 1 else 0) + uNs t.kids := by cases t; simp only [uN]; rfl
def KOk (L : Nat) (k : Kn) : Prop := 0 ≤ k.lists ∧ k.lists ≤ (L : Int)
theorem KOk.mono {L M : Nat} {k : Kn} (h : KOk L k) (hl : L ≤ M) : KOk M k := ⟨h.1, by have := h.2; omega⟩
theorem qg {L : Nat} (z : Int) : KOk L ⟨z, 0⟩ := ⟨Int.le_refl _, by simp⟩
structure Hyp (x : Cx) (env : Env) (s : Sv) (L B u : Nat) : Prop where
 pa : x.pa.length + B ≤ 100000000
 fa : s.fa.length + 4 * B ≤ 900000000
 tg : u ≤ s.tg.length
 lb : L + B ≤ 900000000
 env : ∀ b ∈ env, KOk L b.typ
 sg : ∀ k g, mlook k x.sg = some g → KOk L g.result
structure Pst (L B u : Nat) (s : Sv) (r : Kn × Sv) : Prop where
 k : KOk (L + B) r.1
 tg : r.2.tg = s.tg.drop u
 fa : r.2.fa.length + 1 ≤ s.fa.length + 4 * B
theorem Hyp.to {x : Cx} {env : Env} {s s1 : Sv} {L B u B' u' : Nat} (h : Hyp x env s L B u) (hB : B' ≤ B) (hf : s1.fa.length + 4 * B' ≤ s.fa.length + 4 * B) (ht : u' ≤ s1.tg.length) : Hyp x env s1 L B' u' :=
 ⟨by have := h.pa; omega, by have := h.fa; omega, ht, by have := h.lb; omega, h.env, h.sg⟩
def Good (E : Ev) (N : Nat) : Prop := ∀ t, tbulk t ≤ N → exT t → ∀ x env s L, Hyp x env s L (tbulk t) (uN t) → ckE x s t env (E x t env s).1 (E x t env s).2 ∧ Pst L (tbulk t) (uN t) s (E x t env s)
theorem Mp (x : Cx) (i : Nat) (k : Kn) (s : Sv) : (knS x i k s).tg = s.tg := by unfold knS; split <;> rfl
theorem Ff (x : Cx) (i : Nat) (k : Kn) (s : Sv) : (knS x i k s).fa = s.fa := by unfold knS; split <;> rfl
theorem gU {E : Ev} {N : Nat} (hE : Good E N) {x : Cx} {env : Env} {s : Sv} {L : Nat} {t u : Tree} {i : Nat} (hu : t.kids[i]? = some u) (hb : tbulk u ≤ N) (hx : exT u) (hy : Hyp x env s L (tbulk u + 1) (uN u)) :
  ckK x s t i env (aU E x t i env s).1 (aU E x t i env s).2 ∧ Pst L (tbulk u) (uN u) s (aU E x t i env s) := by
 have hp := hy.pa
 obtain ⟨h1, h2⟩ := hE u hb hx (x.go i) env s L ⟨by simp [Cx.go]; omega, by have := hy.fa; omega, hy.tg, by have := hy.lb; omega, hy.env, hy.sg⟩
 have e : aU E x t i env s = DW x i (E (x.go i) u env s) := by unfold aU; rw [nI hu]
 rw [e]
 generalize E (x.go i) u env s = r at h1 h2 ⊢
 obtain ⟨k, s'⟩ := r
 exact ⟨Mf hu (by omega) h1, h2.k, (Mp _ _ _ _).trans h2.tg, by show (knS x i k s').fa.length + 1 ≤ _; rw [Ff]; exact h2.fa⟩
theorem dw (x : Cx) (k : Int) (b : List Int) (s : Sv) : (faP x k b s).fa.length = s.fa.length + 1 := by simp [faP]
theorem MJ {x : Cx} {s : Sv} (a b : Kn) (h1 : x.pa.length + 1 ≤ 1000000000) (h2 : s.fa.length + 3 ≤ 1000000000) : ckS x s (a, b) (si a b) (qh x a b s) := by
 have L4 : ∀ s0 : Sv, s0.fa.length + 1 ≤ 1000000000 → ∀ (w : Bool) (f : Kn), cW 1 (a, b) f.simple f.lists (mkC x s0) w f (mkC x (if w = false ∧ cZ a b = true then faP x 6 [1] s0 else s0)) := fun s0 h0 w f => by
  refine ss 0 _ _ _ _ _ _ _ (⟨fun hw => ⟨_, jf a b, fun hd => ?_, fun hd => ?_⟩, fun hw => ?_⟩)
  ·rw [if_pos ⟨hw, hd⟩]
   exact ⟨_, dx (x := x) (s := s0) 6 [1] h1 h0, rfl, rfl⟩
  ·rw [if_neg (fun h => by rw [hd] at h; cases h.2)]
   exact ⟨rfl, rfl⟩
  ·rw [if_neg (fun h => by rw [hw] at h; cases h.1)]
   exact ⟨rfl, rfl⟩
 have L3 : ∀ s0 : Sv, s0.fa.length + 2 ≤ 1000000000 → ∀ (w : Bool) (f : Kn) (v : Bool), v = okB b → fJ 2 (a, b) (mkC x s0) w f.simple f.lists v (if okB b then (if f.simple = 0 then b else f) else f) (mkC x (if bad b then faP x 4 [1] s0 else if w = false ∧ cZ a b = true then faP x 6 [1] s0 else s0)) := fun s0 h0 w f v hv => by
  refine su 1 _ _ _ _ _ _ _ _ (⟨fun hw => ?_, fun hw => ⟨fun hn => ?_, fun hn => ?_⟩⟩)
  ·have hok : okB b = true := hv ▸ hw
   have hbad : ¬ (bad b = true) := by simp [bad, hok]
   rw [if_neg hbad, if_pos hok]
   refine ⟨fun hz => ?_, fun hz => ?_⟩
   ·rw [if_pos hz]; exact L4 s0 (by omega) w b
   ·rw [if_neg hz]; exact L4 s0 (by omega) w f
  ·have hn' := hn
   simp only at hn'
   have hok : okB b = false := hv ▸ hw
   have hbad : bad b = true := by simp [bad, hok, hn']
   rw [if_pos hbad, if_neg (by rw [hok]; decide)]
   have := L4 (faP x 4 [1] s0) (by rw [dw]; omega) true f
   rw [if_neg (fun h => by cases h.1)] at this
   exact ⟨_, dx (x := x) (s := s0) 4 [1] h1 (by omega), this⟩
  ·have hn' := hn
   simp only at hn'
   have hok : okB b = false := hv ▸ hw
   have hbad : ¬ (bad b = true) := by simp [bad, hok, hn']
   rw [if_neg hbad, if_neg (by rw [hok]; decide)]
   exact L4 s0 (by omega) w f
 have L2 : ∀ s0 : Sv, s0.fa.length + 2 ≤ 1000000000 → ∀ (w : Bool) (f : Kn), dV 3 (a, b) (mkC x s0) w f.simple f.lists (if okB b then (if f.simple = 0 then b else f) else f) (mkC x (if bad b then faP x 4 [1] s0 else if w = false ∧ cZ a b = true then faP x 6 [1] s0 else s0)) := fun s0 h0 w f =>
  rL2_typing_checker_sum 2 _ _ _ _ _ _ _ (⟨fun h => L3 s0 h0 w f true (by have h' : b.simple = 5 ∧ b.lists = 0 := h; simp [okB, h'.1, h'.2]), fun h => L3 s0 h0 w f _ (by
   by_cases e1 : b.simple = 5
   ·by_cases e2 : b.lists = 0
    ·exact absurd ⟨e1, e2⟩ h
    ·simp [okB, e1, e2]
   ·simp [okB, e1])⟩)
 have L1 : ∀ v : Bool, v = okB a → fR 4 (mkC x s) (a, b) v (si a b) (mkC x (qh x a b s)) := fun v hv => by
  refine sd 3 _ _ _ _ _ (⟨fun hw => ?_, fun hw => ⟨fun hn => ?_, fun hn => ?_⟩⟩)
  ·have hok : okB a = true := hv ▸ hw
   have hbad : ¬ (bad a = true) := by simp [bad, hok]
   have := L2 s (by omega) false a
   simp only [true_and] at this
   unfold si qh rK
   rw [if_neg hbad, if_pos hok]
   exact this
  ·have hn' := hn
   simp only at hn'
   have hok : okB a = false := hv ▸ hw
   have hbad : bad a = true := by simp [bad, hok, hn']
   have := L2 (faP x 4 [0] s) (by rw [dw]; omega) true ⟨0, 0⟩
   rw [show (if bad b then faP x 4 [1] (faP x 4 [0] s) else if true = false ∧ cZ a b = true then faP x 6 [1] (faP x 4 [0] s) else faP x 4 [0] s) = (if bad b then faP x 4 [1] (faP x 4 [0] s) else faP x 4 [0] s) by rw [if_neg (c := true = false ∧ cZ a b = true) (fun h => by cases h.1)]] at this
   unfold si qh rK
   rw [if_pos hbad, if_neg (c := okB a = true) (by rw [hok]; decide)]
   exact ⟨_, dx (x := x) (s := s) 4 [0] h1 (by omega), this⟩
  ·have hn' := hn
   simp only at hn'
   have hok : okB a = false := hv ▸ hw
   have hbad : ¬ (bad a = true) := by simp [bad, hok, hn']
   have := L2 s (by omega) false ⟨0, 0⟩
   simp only [true_and] at this
   unfold si qh rK
   rw [if_neg hbad, if_neg (c := okB a = true) (by rw [hok]; decide)]
   exact this
 refine tk 5 _ _ _ _ (?_)
 exact sE 4 _ _ _ _ (⟨fun h => L1 true (by have h' : a.simple = 5 ∧ a.lists = 0 := h; simp [okB, h'.1, h'.2]), fun h => L1 _ (by
  by_cases e1 : a.simple = 5
  ·by_cases e2 : a.lists = 0
   ·exact absurd ⟨e1, e2⟩ h
   ·simp [okB, e1, e2]
  ·simp [okB, e1])⟩)
theorem Ns {x : Cx} {s : Sv} (t : Tree) (a b : Kn) (h1 : x.pa.length + 1 ≤ 1000000000) (h2 : s.fa.length + 3 ≤ 1000000000) : fD 4 t a b (mkC x s) (opQ x t.text a (b, s)).1 (mkC x (opQ x t.text a (b, s)).2) := by
 have L3 : ∀ s0 : Sv, t.text ≠ [43] → t.text ≠ [61, 61] → dt 1 t a b (mkC x s0) (if t.text = [60] then ⟨7, 0⟩ else ⟨5, 0⟩) (mkC x s0) := fun s0 _ _ =>
  rL3_typing_checker_operation 0 _ _ _ _ _ _ (⟨fun h => by rw [if_pos h]; exact ⟨rfl, rfl⟩, fun h => by rw [if_neg h]; exact ⟨rfl, rfl⟩⟩)
 have L2 : ∀ s0 : Sv, s0.fa.length + 1 ≤ 1000000000 → t.text ≠ [43] → t.text ≠ [61, 61] → dr 2 t a b (mkC x s0) (if t.text = [60] then ⟨7, 0⟩ else ⟨5, 0⟩) (mkC x (if cZ b ⟨5, 0⟩ then faP x 4 [1] s0 else s0)) := fun s0 h0 n1 n2 =>
  rL2_typing_checker_operation 1 _ _ _ _ _ _ (⟨_, jf b ⟨5, 0⟩, fun h => by rw [if_pos h]; exact ⟨_, dx (x := x) (s := s0) 4 [1] h1 h0, L3 _ n1 n2⟩, fun h => by rw [if_neg (c := cZ b ⟨5, 0⟩ = true) (by rw [h]; decide)]; exact L3 _ n1 n2⟩)
 refine pr 3 _ _ _ _ _ _ (⟨fun h => ?_, fun n1 => ⟨fun h => ?_, fun n2 => ?_⟩⟩)
 ·rw [show opQ x t.text a (b, s) = (si a b, qh x a b s) from if_pos h]
  exact ⟨_, _, MJ (x := x) (s := s) a b h1 h2, rfl, rfl⟩
 ·rw [show opQ x t.text a (b, s) = (⟨7, 0⟩, if cZ a b then faP x 6 [1] s else s) from (if_neg n1).trans (if_pos h)]
  refine ⟨_, jf a b, fun h => ?_, fun h => ?_⟩
  ·rw [if_pos h]; exact ⟨_, dx (x := x) (s := s) 6 [1] h1 (by omega), rfl, rfl⟩
  ·rw [if_neg (by rw [h]; decide)]; exact ⟨rfl, rfl⟩
 ·rw [show opQ x t.text a (b, s) = (if t.text = [60] then ⟨7, 0⟩ else ⟨5, 0⟩, tF x a b s) from (if_neg n1).trans (if_neg n2)]
  refine pi 2 _ _ _ _ _ _ (⟨_, jf a ⟨5, 0⟩, fun h => ?_, fun h => ?_⟩)
  ·have := L2 (faP x 4 [0] s) (by rw [dw]; omega) n1 n2
   unfold tF
   rw [if_pos (c := cZ a ⟨5, 0⟩ = true) h]
   exact ⟨_, dx (x := x) (s := s) 4 [0] h1 (by omega), this⟩
  ·have := L2 s (by omega) n1 n2
   unfold tF
   rw [if_neg (c := cZ a ⟨5, 0⟩ = true) (by rw [h]; decide)]
   exact this
theorem KR {L : Nat} {a b : Kn} (ha : KOk L a) (hb : KOk L b) : KOk L (si a b) := by
 have h1 : KOk L (rK a) := by unfold rK; split; exact ha; exact qg 0
 unfold si
 split
 ·split
  ·exact hb
  ·exact h1
 ·exact h1
theorem JO (x : Cx) (a b : Kn) (s : Sv) : (qh x a b s).tg = s.tg ∧ (qh x a b s).fa.length ≤ s.fa.length + 2 := by
 unfold qh
 repeat' split
 all_goals exact ⟨rfl, by first | (simp only [dw]; omega) | omega⟩
theorem JV (x : Cx) (a b : Kn) (s : Sv) : (tF x a b s).tg = s.tg ∧ (tF x a b s).fa.length ≤ s.fa.length + 2 := by
 unfold tF
 repeat' split
 all_goals exact ⟨rfl, by first | (simp only [dw]; omega) | omega⟩
theorem LJ {x : Cx} {w : List UInt8} {a b : Kn} {s : Sv} {L : Nat} (ha : KOk L a) (hb : KOk L b) : KOk L (opQ x w a (b, s)).1 ∧ (opQ x w a (b, s)).2.tg = s.tg ∧ (opQ x w a (b, s)).2.fa.length ≤ s.fa.length + 2 := by
 by_cases h1 : w = [43]
 ·rw [show opQ x w a (b, s) = (si a b, qh x a b s) from if_pos h1]
  exact ⟨KR ha hb, JO x a b s⟩
 ·by_cases h2 : w = [61, 61]
  ·rw [show opQ x w a (b, s) = (⟨7, 0⟩, if cZ a b then faP x 6 [1] s else s) from (if_neg h1).trans (if_pos h2)]
   refine ⟨qg _, ?_⟩
   simp only []
   split
   ·exact ⟨rfl, by rw [dw]; omega⟩
   ·exact ⟨rfl, by omega⟩
  ·rw [show opQ x w a (b, s) = (if w = [60] then ⟨7, 0⟩ else ⟨5, 0⟩, tF x a b s) from (if_neg h1).trans (if_neg h2)]
   refine ⟨?_, JV x a b s⟩
   simp only []
   split <;> exact qg _
theorem IP {t : Tree} (h : t.kids.length = 2) : ∃ a b, t.kids = [a, b] := by
 match e : t.kids, h with
 | [a, b], _ => exact ⟨a, b, rfl⟩
theorem Nb {t : Tree} (h : t.kids.length = 3) : ∃ a b c, t.kids = [a, b, c] := by
 match e : t.kids, h with
 | [a, b, c], _ => exact ⟨a, b, c, rfl⟩
theorem EC {t : Tree} (h : t.kids.length = 1) : ∃ a, t.kids = [a] := by
 match e : t.kids, h with
 | [a], _ => exact ⟨a, rfl⟩
theorem vx {s s1 : Sv} {u u' v : Nat} (h : s1.tg = s.tg.drop u) (hu : u + u' ≤ v) (hv : v ≤ s.tg.length) : u' ≤ s1.tg.length := by rw [h, List.length_drop]; omega
theorem Ij {E : Ev} {N : Nat} (hE : Good E N) {x : Cx} {env : Env} {s : Sv} {L : Nat} {t : Tree} (hb : tbulk t ≤ N + 1) (hx : exT t) (hk : t.kind = 21) (hy : Hyp x env s L (tbulk t) (uN t)) :
  ckO x s t env (ua E x t env (aU E x t 0 env s)).1 (ua E x t env (aU E x t 0 env s)).2 ∧ Pst L (tbulk t) (uN t) s (ua E x t env (aU E x t 0 env s)) := by
 obtain ⟨a, b, e⟩ := IP ((vw hx).2.2.2 hk)
 have ha : t.kids[0]? = some a := by rw [e]; rfl
 have hb' : t.kids[1]? = some b := by rw [e]; rfl
 have hB := aW t
 rw [e] at hB
 simp only [kbulk] at hB
 have hU : uN t = uN a + uN b := by rw [jX, e, hk]; simp [uNs]
 have p0 := hy.pa
 have p1 := hy.fa
 have p2 := hy.tg
 have p3 := hy.lb
 obtain ⟨A1, A2⟩ := gU hE (s := s) (env := env) (x := x) (L := L) ha (by omega) (lT hx ha (by omega)).1 (hy.to (by omega) (by omega) (by omega))
 generalize aU E x t 0 env s = r at A1 A2 ⊢
 obtain ⟨k1, s1⟩ := r
 have q1 := A2.fa
 simp only at q1
 obtain ⟨B1, B2⟩ := gU hE (s := s1) (env := env) (x := x) (L := L) hb' (by omega) (lT hx hb' (by omega)).1 (hy.to (by omega) (by omega) (vx (v := uN t) A2.tg (by omega) p2))
 show ckO x s t env (opQ x t.text k1 (aU E x t 1 env s1)).1 (opQ x t.text k1 (aU E x t 1 env s1)).2 ∧ Pst L (tbulk t) (uN t) s (opQ x t.text k1 (aU E x t 1 env s1))
 generalize aU E x t 1 env s1 = r at B1 B2 ⊢
 obtain ⟨k2, s2⟩ := r
 have q2 := B2.fa
 simp only at q2
 refine ⟨pW 4 _ _ _ _ _ (⟨_, _, A1, _, _, B1, Ns (x := x) (s := s2) t k1 k2 (by omega) (by omega)⟩), ?_⟩
 obtain ⟨g1, g2, g3⟩ := LJ (x := x) (w := t.text) (s := s2) (a := k1) (b := k2) (L := L + tbulk t) (A2.k.mono (by omega)) (B2.k.mono (by omega))
 exact ⟨g1, by rw [g2, B2.tg, A2.tg, List.drop_drop, hU], by omega⟩
theorem Js {E : Ev} {N : Nat} (hE : Good E N) {x : Cx} {env : Env} {s : Sv} {L : Nat} {t : Tree} (hb : tbulk t ≤ N + 1) (hx : exT t) (hk : t.kind = 19) (hy : Hyp x env s L (tbulk t) (uN t)) :
  ckB x s t env (ifP E x t env s).1 (ifP E x t env s).2 ∧ Pst L (tbulk t) (uN t) s (ifP E x t env s) := by
 obtain ⟨a, b, c, e⟩ := Nb ((vw hx).2.2.1 hk)
 have ha : t.kids[0]? = some a := by rw [e]; rfl
 have hb' : t.kids[1]? = some b := by rw [e]; rfl
 have hc : t.kids[2]? = some c := by rw [e]; rfl
 have hB := aW t
 rw [e] at hB
 simp only [kbulk] at hB
 have hU : uN t = uN a + uN b + uN c := by rw [jX, e, hk]; simp [uNs]; omega
 have p0 := hy.pa
 have p1 := hy.fa
 have p2 := hy.tg
 have p3 := hy.lb
 obtain ⟨A1, A2⟩ := gU hE (s := s) (env := env) (x := x) (L := L) ha (by omega) (lT hx ha (by omega)).1 (hy.to (by omega) (by omega) (by omega))
 unfold ifP
 generalize aU E x t 0 env s = r at A1 A2 ⊢
 obtain ⟨k1, s1⟩ := r
 have q1 := A2.fa
 simp only at q1
 obtain ⟨s1', hs1⟩ : ∃ s1', s1' = ifS x (k1, s1) := ⟨_, rfl⟩
 have f1 : s1'.tg = s1.tg ∧ s1'.fa.length ≤ s1.fa.length + 1 := by
  rw [hs1]; unfold ifS
  simp only []
  split
  ·exact ⟨rfl, by rw [dw]; omega⟩
  ·exact ⟨rfl, by omega⟩
 rw [← hs1]
 obtain ⟨B1, B2⟩ := gU hE (s := s1') (env := env) (x := x) (L := L) hb' (by omega) (lT hx hb' (by omega)).1 (hy.to (by omega) (by omega) (vx (v := uN t) (f1.1.trans A2.tg) (by omega) p2))
 generalize aU E x t 1 env s1' = r at B1 B2 ⊢
 obtain ⟨k2, s2⟩ := r
 have q2 := B2.fa
 simp only at q2
 have hd2 : s2.tg = s.tg.drop (uN a + uN b) := by have := B2.tg; simp only at this; rw [this, f1.1, A2.tg, List.drop_drop]
 obtain ⟨C1, C2⟩ := gU hE (s := s2) (env := env) (x := x) (L := L) hc (by omega) (lT hx hc (by omega)).1 (hy.to (by omega) (by omega) (vx (v := uN t) hd2 (by omega) p2))
 show ckB x s t env (ifQ x k2 (aU E x t 2 env s2)).1 (ifQ x k2 (aU E x t 2 env s2)).2 ∧ Pst L (tbulk t) (uN t) s (ifQ x k2 (aU E x t 2 env s2))
 generalize aU E x t 2 env s2 = r at C1 C2 ⊢
 obtain ⟨k3, s3⟩ := r
 have q3 := C2.fa
 simp only at q3
 have hd3 : s3.tg = s.tg.drop (uN t) := by have := C2.tg; simp only at this; rw [this, hd2, List.drop_drop, hU]
 have fin : dF 1 t env (mkC x s1') (ifQ x k2 (k3, s3)).1 (mkC x (ifQ x k2 (k3, s3)).2) := by
  refine pJ 0 _ _ _ _ _ (⟨_, _, B1, _, _, C1, _, jf k2 k3, fun h => ?_, fun h => ?_⟩)
  ·rw [show ifQ x k2 (k3, s3) = (if k2.simple = 0 then k3 else k2, if cZ k2 k3 then faP x 6 [2] s3 else s3) from rfl]
   rw [if_pos (c := cZ k2 k3 = true) h]
   refine ⟨_, dx (x := x) (s := s3) 6 [2] (by simp; omega) (by omega), fun hz => ?_, fun hz => ?_⟩
   ·rw [if_pos hz]; exact ⟨rfl, rfl⟩
   ·rw [if_neg hz]; exact ⟨rfl, rfl⟩
  ·rw [show ifQ x k2 (k3, s3) = (if k2.simple = 0 then k3 else k2, if cZ k2 k3 then faP x 6 [2] s3 else s3) from rfl]
   rw [if_neg (c := cZ k2 k3 = true) (by rw [h]; decide)]
   refine ⟨fun hz => ?_, fun hz => ?_⟩
   ·rw [if_pos hz]; exact ⟨rfl, rfl⟩
   ·rw [if_neg hz]; exact ⟨rfl, rfl⟩
 refine ⟨qb 1 _ _ _ _ _ (⟨_, _, A1, _, jf k1 ⟨7, 0⟩, fun h => ?_, fun h => ?_⟩), ?_⟩
 ·have e1 : s1' = faP x 4 [0] s1 := hs1.trans (if_pos h)
  rw [e1] at fin
  exact ⟨_, dx (x := x) (s := s1) 4 [0] (by simp; omega) (by omega), fin⟩
 ·have e1 : s1' = s1 := hs1.trans (if_neg (by rw [h]; decide))
  rw [e1] at fin
  exact fin
 ·refine ⟨?_, ?_, ?_⟩ <;> unfold ifQ <;> simp only []
  ·split
   ·exact C2.k.mono (by omega)
   ·exact B2.k.mono (by omega)
  ·split <;> exact hd3
  ·split
   ·rw [dw]; omega
   ·omega
theorem Fa {E : Ev} {N : Nat} (hE : Good E N) {x : Cx} {env : Env} {L M : Nat} {t : Tree} (hkl : t.kids.length ≤ 1000000000) (ht : ∀ (i : Nat) (u : Tree), t.kids[i]? = some u → tbulk u ≤ N ∧ tbulk u ≤ M ∧ exT u) : ∀ (n i : Nat) (f : Kn) (s : Sv), n + i = t.kids.length → KOk (L + M) f → Hyp x env s L (kbulk (t.kids.drop i) + 1) (uNs (t.kids.drop i)) → L + M ≤ 900000000 →
  L0_typing_checker_list (n + 1) t env (mkC x s) f.simple f.lists i (kP (im E x t env n i (f, s))).1 (mkC x (kP (im E x t env n i (f, s))).2) ∧
  KOk (L + M + 1) (kP (im E x t env n i (f, s))).1 ∧ (kP (im E x t env n i (f, s))).2.tg = s.tg.drop (uNs (t.kids.drop i)) ∧ (kP (im E x t env n i (f, s))).2.fa.length ≤ s.fa.length + 4 * kbulk (t.kids.drop i)
 | 0, i, f, s, hn, hf, hy, hl => by
  have h0 := hf.1
  have h1 := hf.2
  have hd : t.kids.drop i = [] := List.drop_of_length_le (by omega)
  rw [show im E x t env 0 i (f, s) = (f, s) from rfl]
  refine ⟨mq 0 _ _ _ _ _ _ _ _ (⟨fun h => absurd h (by omega), fun _ => ⟨fun hz => ?_, fun hz => ?_⟩⟩), ?_, ?_, ?_⟩
  ·rw [show kP (f, s) = (⟨f.simple, f.lists + 1⟩, s) by unfold kP; simp only [if_neg hz]]
   exact ⟨⟨by omega, by omega⟩, rfl, rfl⟩
  ·rw [show kP (f, s) = (f, s) by unfold kP; simp only [if_pos hz]]
   exact ⟨rfl, rfl⟩
  ·show KOk (L + M + 1) (if f.simple = 0 then f else ⟨f.simple, f.lists + 1⟩)
   split
   ·exact hf.mono (by omega)
   ·exact ⟨by simp only []; omega, by simp only []; omega⟩
  ·rw [hd]; simp [uNs, kP]
  ·rw [hd]; simp [kP]
 | n + 1, i, f, s, hn, hf, hy, hl => by
  have hlt : i < t.kids.length := by omega
  obtain ⟨u, hu⟩ : ∃ u, t.kids[i]? = some u := ⟨_, lp hlt⟩
  have hd := bk hu
  obtain ⟨b1, b2, b3⟩ := ht i u hu
  have p1 := hy.pa
  have p2 := hy.fa
  have p3 := hy.tg
  have p4 := hy.lb
  rw [hd] at p1 p2 p3 p4 hy ⊢
  simp only [kbulk, uNs] at p1 p2 p3 p4 hy ⊢
  obtain ⟨A1, A2⟩ := gU hE (s := s) (env := env) (x := x) (L := L) hu b1 b3 (hy.to (by omega) (by omega) (by omega))
  rw [show im E x t env (n + 1) i (f, s) = im E x t env n (i + 1) (Bl x i f (aU E x t i env s)) from rfl]
  generalize aU E x t i env s = r at A1 A2 ⊢
  obtain ⟨k, s1⟩ := r
  have q1 := A2.fa
  have q2 := A2.tg
  have q3 := A2.k
  simp only at q1 q2 q3
  obtain ⟨f1, hf1⟩ : ∃ f1, f1 = if f.simple = 0 then k else f := ⟨_, rfl⟩
  have hk1 : KOk (L + M) f1 := by
   rw [hf1]; split
   ·exact q3.mono (by omega)
   ·exact hf
  have next : ∀ s2 : Sv, s2.tg = s1.tg → s2.fa.length ≤ s1.fa.length + 1 → Hyp x env s2 L (kbulk (t.kids.drop (i + 1)) + 1) (uNs (t.kids.drop (i + 1))) := fun s2 e1 e2 =>
   hy.to (by omega) (by omega) (by rw [e1, q2, List.length_drop]; omega)
  rw [show Bl x i f (k, s1) = (if f.simple = 0 then k else f, if cZ k (if f.simple = 0 then k else f) then faP x 6 [(i : Int)] s1 else s1) from rfl, ← hf1]
  have fin : ∀ s2 : Sv, s2.tg = s1.tg → s2.fa.length ≤ s1.fa.length + 1 → KOk (L + M + 1) (kP (im E x t env n (i + 1) (f1, s2))).1 ∧ (kP (im E x t env n (i + 1) (f1, s2))).2.tg = s.tg.drop (uN u + uNs (t.kids.drop (i + 1))) ∧ (kP (im E x t env n (i + 1) (f1, s2))).2.fa.length ≤ s.fa.length + 4 * (tbulk u + kbulk (t.kids.drop (i + 1))) := fun s2 e1 e2 => by
   obtain ⟨_, g2, g3, g4⟩ := Fa hE hkl ht n (i + 1) f1 s2 (by omega) hk1 (next s2 e1 e2) hl
   exact ⟨g2, by rw [g3, e1, q2, List.drop_drop], by omega⟩
  have run : ∀ s2 : Sv, s2.tg = s1.tg → s2.fa.length ≤ s1.fa.length + 1 → _ := fun s2 e1 e2 => (Fa hE hkl ht n (i + 1) f1 s2 (by omega) hk1 (next s2 e1 e2) hl).1
  refine ⟨mq (n + 1) _ _ _ _ _ _ _ _ (⟨fun _ => ⟨_, _, A1, fun hz => ⟨_, jf k k, fun h => ?_, fun h => ?_⟩, fun hz => ⟨_, jf k f, fun h => ?_, fun h => ?_⟩⟩, fun h => absurd hlt h⟩), ?_⟩
  ·have e : f1 = k := hf1.trans (if_pos hz)
   rw [e] at run ⊢
   rw [if_pos (c := cZ k k = true) h]
   exact ⟨_, dx (x := x) (s := s1) 6 [(i : Int)] (by simp; omega) (by omega), by omega, run _ rfl (by rw [dw]; omega)⟩
  ·have e : f1 = k := hf1.trans (if_pos hz)
   rw [e] at run ⊢
   rw [if_neg (c := cZ k k = true) (by rw [h]; decide)]
   exact ⟨by omega, run s1 rfl (by omega)⟩
  ·have e : f1 = f := hf1.trans (if_neg hz)
   rw [e] at run ⊢
   rw [if_pos (c := cZ k f = true) h]
   exact ⟨_, dx (x := x) (s := s1) 6 [(i : Int)] (by simp; omega) (by omega), by omega, run _ rfl (by rw [dw]; omega)⟩
  ·have e : f1 = f := hf1.trans (if_neg hz)
   rw [e] at run ⊢
   rw [if_neg (c := cZ k f = true) (by rw [h]; decide)]
   exact ⟨by omega, run s1 rfl (by omega)⟩
  ·split
   ·exact fin _ rfl (by rw [dw]; omega)
   ·exact fin _ rfl (by omega)
theorem Bz {E : Ev} {N : Nat} (hE : Good E N) {x : Cx} {env : Env} {L : Nat} {t : Tree} (ps : List Kn) (z1 z2 : Int) (hkl : t.kids.length ≤ 1000000000) (ht : ∀ (i : Nat) (a : Tree), t.kids[i]? = some a → ∃ u, a.kids[0]? = some u ∧ tbulk u < tbulk a ∧ tbulk u ≤ N ∧ exT u ∧ uN a = uN u) : ∀ (n i : Nat) (s : Sv), n + i = t.kids.length → x.pa.length + kbulk (t.kids.drop i) + 1 ≤ 100000000 → Hyp x env s L (kbulk (t.kids.drop i)) (uNs (t.kids.drop i)) →
  L0_typing_checker_call (n + 1) t env (mkC x s) ps z1 z2 i ⟨z1, z2⟩ (mkC x (ij E x ps env (t.kids.drop i) i s)) ∧
  (ij E x ps env (t.kids.drop i) i s).tg = s.tg.drop (uNs (t.kids.drop i)) ∧ (ij E x ps env (t.kids.drop i) i s).fa.length ≤ s.fa.length + 4 * kbulk (t.kids.drop i)
 | 0, i, s, hn, hpa, hy => by
  have hd : t.kids.drop i = [] := List.drop_of_length_le (by omega)
  rw [hd]
  exact ⟨mf 0 _ _ _ _ _ _ _ _ _ (⟨fun h => absurd h (by omega), fun _ => ⟨rfl, rfl⟩⟩), by simp [uNs, ij], by simp [ij]⟩
 | n + 1, i, s, hn, hpa, hy => by
  have hlt : i < t.kids.length := by omega
  obtain ⟨a, ha⟩ : ∃ a, t.kids[i]? = some a := ⟨_, lp hlt⟩
  have hd := bk ha
  obtain ⟨u, hu, b1, b2, b3, b4⟩ := ht i a ha
  have p1 := hy.pa
  have p2 := hy.fa
  have p3 := hy.tg
  have p4 := hy.lb
  rw [hd] at p1 p2 p3 p4 hy hpa ⊢
  simp only [kbulk, uNs] at p1 p2 p3 p4 hy hpa ⊢
  obtain ⟨A1, A2⟩ := gU hE (s := s) (env := env) (x := x.go i) (L := L) hu b2 b3 ⟨by simp [Cx.go]; omega, by omega, by omega, by omega, hy.env, hy.sg⟩
  rw [show ij E x ps env (a :: t.kids.drop (i + 1)) i s = ij E x ps env (t.kids.drop (i + 1)) (i + 1) (sF x ps i (aU E (x.go i) a 0 env s)) from rfl]
  generalize aU E (x.go i) a 0 env s = r at A1 A2 ⊢
  obtain ⟨k, s1⟩ := r
  have q1 := A2.fa
  have q2 := A2.tg
  simp only at q1 q2
  have next : ∀ s2 : Sv, s2.tg = s1.tg → s2.fa.length ≤ s1.fa.length + 1 → Hyp x env s2 L (kbulk (t.kids.drop (i + 1))) (uNs (t.kids.drop (i + 1))) := fun s2 e1 e2 =>
   hy.to (by omega) (by omega) (by rw [e1, q2, List.length_drop]; omega)
  have fin : ∀ s2 : Sv, s2.tg = s1.tg → s2.fa.length ≤ s1.fa.length + 1 → (ij E x ps env (t.kids.drop (i + 1)) (i + 1) s2).tg = s.tg.drop (uN a + uNs (t.kids.drop (i + 1))) ∧ (ij E x ps env (t.kids.drop (i + 1)) (i + 1) s2).fa.length ≤ s.fa.length + 4 * (tbulk a + kbulk (t.kids.drop (i + 1))) := fun s2 e1 e2 => by
   obtain ⟨_, g3, g4⟩ := Bz hE ps z1 z2 hkl ht n (i + 1) s2 (by omega) (by omega) (next s2 e1 e2)
   exact ⟨by rw [g3, e1, q2, List.drop_drop, b4], by omega⟩
  have run : ∀ s2 : Sv, s2.tg = s1.tg → s2.fa.length ≤ s1.fa.length + 1 → _ := fun s2 e1 e2 => (Bz hE ps z1 z2 hkl ht n (i + 1) s2 (by omega) (by omega) (next s2 e1 e2)).1
  refine ⟨mf (n + 1) _ _ _ _ _ _ _ _ _ (⟨fun _ => ⟨a, ha, _, jB (x := x) (s := s) (i : Int) (by omega), _, _, A1, _, iq (x := x) (s := s1) (i : Int), fun hi => ?_, fun hi => ⟨by omega, ?_⟩⟩, fun h => absurd hlt h⟩), ?_⟩
  ·obtain ⟨q, hq⟩ : ∃ q, ps[i]? = some q := ⟨ps[i], List.getElem?_eq_getElem hi⟩
   rw [show sF x ps i (k, s1) = if cZ k q then faP x 4 [(i : Int), 0] s1 else s1 by unfold sF; simp only [hq]]
   refine ⟨q, hq, _, jf k q, fun h => ?_, fun h => ?_⟩
   ·rw [if_pos h]
    exact ⟨_, dx (x := x) (s := s1) 4 [(i : Int), 0] (by simp; omega) (by omega), run _ rfl (by rw [dw]; omega)⟩
   ·rw [if_neg (by rw [h]; decide)]
    exact run s1 rfl (by omega)
  ·have hq : ps[i]? = none := List.getElem?_eq_none (by omega)
   rw [show sF x ps i (k, s1) = s1 by unfold sF; simp only [hq]]
   exact run s1 rfl (by omega)
  ·have e : ∀ r, sF x ps i (k, s1) = r → r.tg = s1.tg ∧ r.fa.length ≤ s1.fa.length + 1 := fun r hr => by
    subst hr
    unfold sF
    simp only []
    split
    ·split
     ·exact ⟨rfl, by rw [dw]; omega⟩
     ·exact ⟨rfl, by omega⟩
    ·exact ⟨rfl, by omega⟩
   exact fin _ (e _ rfl).1 (e _ rfl).2
theorem Fp {E : Ev} {N : Nat} (hE : Good E N) {x : Cx} {env : Env} {s : Sv} {L : Nat} {t : Tree} (hb : tbulk t ≤ N + 1) (hx : exT t) (hk : t.kind = 16) (hy : Hyp x env s L (tbulk t) (uN t)) :
  ckC x s t env (pD E x t env s).1 (pD E x t env s).2 ∧ Pst L (tbulk t) (uN t) s (pD E x t env s) := by
 have hB := aW t
 have hU : uN t = 1 + uNs t.kids := by rw [jX, hk]; simp
 have p1 := hy.pa
 have p2 := hy.fa
 have p3 := hy.tg
 have p4 := hy.lb
 have hkl := bM t
 have ht : ∀ (i : Nat) (a : Tree), t.kids[i]? = some a → ∃ u, a.kids[0]? = some u ∧ tbulk u < tbulk a ∧ tbulk u ≤ N ∧ exT u ∧ uN a = uN u := fun i a ha => by
  obtain ⟨h1, h2, h3⟩ := JF hx ha hk
  obtain ⟨u, e⟩ := EC h2
  have hu : a.kids[0]? = some u := by rw [e]; rfl
  have h4 := aK hu
  have h5 := aK ha
  rw [nI hu] at h3
  exact ⟨u, hu, h4, by omega, h3, by rw [jX a, h1, e]; simp [uNs]⟩
 obtain ⟨g, hg⟩ : ∃ g, g = s.tg.headD noT := ⟨_, rfl⟩
 have huse := Ji (x := x) (s := s) (by omega)
 rw [← hg] at huse
 obtain ⟨q, hq⟩ : ∃ q, q = oM x g := ⟨_, rfl⟩
 have hqr : KOk L q.result := by
  rw [hq]; unfold oM
  split
  ·exact qg 0
  ·cases hm : mlook (g.Module, g.Def) x.sg with
   | none => exact qg 0
   | some d => exact hy.sg _ d hm
 obtain ⟨s1, hs1⟩ : ∃ s1, s1 = rL x t g q (dy s) := ⟨_, rfl⟩
 have f1 : s1.tg = s.tg.drop 1 ∧ s1.fa.length ≤ s.fa.length + 1 := by
  rw [hs1]; unfold rL
  split
  ·exact ⟨rfl, by rw [dw]; simp [dy]⟩
  ·split
   ·exact ⟨rfl, by simp [dy]⟩
   ·exact ⟨rfl, by rw [dw]; simp [dy]⟩
 have e0 : pD E x t env s = (q.result, ij E x q.params env t.kids 0 s1) := by rw [hs1, hq, hg]; rfl
 obtain ⟨A1, A2, A3⟩ := Bz hE (x := x) (env := env) (L := L) (t := t) q.params q.result.simple q.result.lists (by omega) ht t.kids.length 0 s1 (by omega) (by simp; omega) (hy.to (by simp; omega) (by simp; omega) (by rw [f1.1, List.length_drop]; simp; omega))
 simp only [List.drop_zero] at A1 A2 A3
 rw [e0]
 refine ⟨sG (t.kids.length + 1) _ _ _ _ _ (⟨_, _, huse, fun h => ?_, fun h => ⟨fun hm => ⟨fun hn => ?_, fun hn => ?_⟩, fun d hm => ⟨fun hn => ?_, fun hn => ?_⟩⟩⟩), ?_⟩
 ·have eq : q = ⟨[], ⟨0, 0⟩⟩ := hq.trans (if_pos h)
  have es : s1 = faP x 1 [] (dy s) := hs1.trans (if_pos h)
  rw [es, eq] at A1
  rw [es, eq]
  exact ⟨_, dx (x := x) (s := dy s) 1 [] (by simp; omega) (by simp [dy]; omega), A1⟩
 ·have eq : q = ⟨[], ⟨0, 0⟩⟩ := hq.trans ((if_neg (by rw [h]; decide)).trans (by have hm2 := hm; simp only [mkC] at hm2; rw [hm2]; rfl))
  have es : s1 = faP x 3 [] (dy s) := hs1.trans ((if_neg (by rw [h]; decide)).trans (if_neg (by rw [eq]; intro e; have e' : 0 = t.kids.length := e; exact hn (by omega))))
  rw [es, eq] at A1
  rw [es, eq]
  exact ⟨_, dx (x := x) (s := dy s) 3 [] (by simp; omega) (by simp [dy]; omega), A1⟩
 ·have eq : q = ⟨[], ⟨0, 0⟩⟩ := hq.trans ((if_neg (by rw [h]; decide)).trans (by have hm2 := hm; simp only [mkC] at hm2; rw [hm2]; rfl))
  have es : s1 = dy s := hs1.trans ((if_neg (by rw [h]; decide)).trans (if_pos (by rw [eq]; show 0 = t.kids.length; omega)))
  rw [es, eq] at A1
  rw [es, eq]
  exact A1
 ·have eq : q = d := hq.trans ((if_neg (by rw [h]; decide)).trans (by have hm2 := hm; simp only [mkC] at hm2; rw [hm2]; rfl))
  have es : s1 = faP x 3 [] (dy s) := hs1.trans ((if_neg (by rw [h]; decide)).trans (if_neg (by rw [eq]; exact hn)))
  rw [es, eq] at A1
  rw [es, eq]
  exact ⟨_, dx (x := x) (s := dy s) 3 [] (by simp; omega) (by simp [dy]; omega), A1⟩
 ·have eq : q = d := hq.trans ((if_neg (by rw [h]; decide)).trans (by have hm2 := hm; simp only [mkC] at hm2; rw [hm2]; rfl))
  have es : s1 = dy s := hs1.trans ((if_neg (by rw [h]; decide)).trans (if_pos (by rw [eq]; exact hn)))
  rw [es, eq] at A1
  rw [es, eq]
  exact A1
 ·exact ⟨hqr.mono (by omega), by simp only []; rw [A2, f1.1, List.drop_drop, hU], by simp only []; omega⟩
theorem FS {E : Ev} {N : Nat} (hE : Good E N) : Good (cX E) (N + 1) := fun t hb hx x env s L hy => by
 have p1 := hy.pa
 have p2 := hy.fa
 have p3 := hy.tg
 have p4 := hy.lb
 have hB := aW t
 have leaf : ∀ z : Int, uN t = uN t → Pst L (tbulk t) 0 s (⟨z, 0⟩, s) := fun z _ => ⟨qg _, by simp, by simp only []; omega⟩
 have hkl := bM t
 have run : ∀ (b : Bool) (k : Kn) (s' : Sv), dh 1 (mkC x s) t env b k (mkC x s') → t.kind ≠ 10 → t.kind ≠ 11 → (b = true ↔ t.kind = 13 ∨ t.kind = 14) → ckE x s t env k s' := fun b k s' h n1 n2 hb => by
  refine fm 1 _ _ _ _ _ (⟨fun h => absurd h n1, fun _ => ⟨fun h => absurd h n2, fun _ => ⟨fun h13 => ?_, fun h13 => ?_⟩⟩⟩)
  ·have : b = true := hb.2 (.inl h13)
   subst this; exact h
  ·have : b = (t.kind == 14) := by
    by_cases h14 : t.kind = 14
    ·rw [hb.2 (.inr h14)]; simp [h14]
    ·have : b ≠ true := fun e => (hb.1 e).elim h13 h14
     simp [this, h14]
   subst this; exact h
 have hk := hx.2
 have hk' : 10 ≤ t.kind ∧ t.kind ≤ 22 ∧ t.kind ≠ 17 := by simpa [gu] using hk
 have leafU : 10 ≤ t.kind → t.kind ≤ 15 → uN t = 0 := fun h1 h2 => by
  have hs := hx.1
  rw [bG] at hs
  simp only [Bool.and_eq_true, decide_eq_true_eq] at hs
  have hl := hs.1.1
  have h0 : (t.kids.length : Int) ≤ 0 := by
   have : t.kind = 10 ∨ t.kind = 11 ∨ t.kind = 12 ∨ t.kind = 13 ∨ t.kind = 14 ∨ t.kind = 15 := by omega
   rcases this with e | e | e | e | e | e <;> (rw [e] at hl; exact (pM (show 0 ≤ f0 t.kids.length 0 1 0 0 from hl)).2 (by omega))
  have h3 : t.kids = [] := List.length_eq_zero_iff.1 (by omega)
  rw [jX, h3, if_neg (by omega)]; simp [uNs]
 have drp : ∀ k, KOk (L + tbulk t) k → cX E x t env s = (k, s) → uN t = 0 → Pst L (tbulk t) (uN t) s (cX E x t env s) := fun k h1 h2 h3 => by rw [h2, h3]; exact ⟨h1, by simp, by simp only []; omega⟩
 by_cases h : t.kind = 10
 ·have e : cX E x t env s = (⟨5, 0⟩, s) := by simp [cX, h]
  refine ⟨?_, drp _ (qg _) e (leafU (by omega) (by omega))⟩
  rw [e]
  exact fm 0 _ _ _ _ _ (⟨fun _ => ⟨rfl, rfl⟩, fun h' => absurd h h'⟩)
 by_cases h : t.kind = 11
 ·have e : cX E x t env s = (⟨6, 0⟩, s) := by simp [cX, h]
  refine ⟨?_, drp _ (qg _) e (leafU (by omega) (by omega))⟩
  rw [e]
  exact fm 0 _ _ _ _ _ (⟨fun h' => absurd h' (by omega), fun _ => ⟨fun _ => ⟨rfl, rfl⟩, fun h' => absurd h h'⟩⟩)
 by_cases h : t.kind = 13 ∨ t.kind = 14
 ·have e : cX E x t env s = (⟨7, 0⟩, s) := by rcases h with h | h <;> simp [cX, h]
  refine ⟨?_, drp _ (qg _) e (leafU (by omega) (by omega))⟩
  rw [e]
  exact run true _ _ (aS 0 _ _ _ _ _ _ (⟨fun _ => ⟨rfl, rfl⟩, fun h' => (by cases h')⟩)) (by omega) (by omega) ⟨fun _ => h, fun _ => rfl⟩
 by_cases h : t.kind = 12
 ·have e : cX E x t env s = ul x s (nZ t.text env) := by simp [cX, h]
  have h0 := leafU (by omega) (by omega)
  have v := MW (x := x) (s := s) t env (by omega) (by omega)
  rw [e]
  refine ⟨run false _ _ (aS 0 _ _ _ _ _ _ (⟨fun h' => (by cases h'), fun _ => ⟨fun _ => ⟨_, _, v, rfl, rfl⟩, fun h' => absurd h h'⟩⟩)) (by omega) (by omega) (by constructor <;> intro h' <;> first | (cases h'; done) | omega), ?_⟩
  cases hv : nZ t.text env with
  | none => exact ⟨qg _, by rw [h0]; simp [ul, faP], by show (faP x 1 [] s).fa.length + 1 ≤ _; rw [dw]; omega⟩
  | some k =>
   have : ∀ l : Env, nZ t.text l = some k → ∃ b ∈ l, b.typ = k := fun l => by
    induction l with
    | nil => intro h; cases h
    | cons b r ih =>
     intro hh
     unfold nZ at hh
     split at hh
     ·injection hh with hh; exact ⟨b, List.mem_cons_self, hh⟩
     ·obtain ⟨c, c1, c2⟩ := ih hh; exact ⟨c, List.mem_cons_of_mem _ c1, c2⟩
   obtain ⟨b, hb1, hb2⟩ := this env hv
   exact ⟨by show KOk _ k; rw [← hb2]; exact (hy.env b hb1).mono (by omega), by rw [h0]; simp [ul], by simp only [ul]; omega⟩
 by_cases h : t.kind = 16
 ·have e : cX E x t env s = pD E x t env s := by simp [cX, h]
  obtain ⟨c1, c2⟩ := Fp hE hb hx h hy
  rw [e]
  exact ⟨run false _ _ (aS 0 _ _ _ _ _ _ (⟨fun h' => (by cases h'), fun _ => ⟨fun h' => absurd h' (by omega), fun _ => ⟨fun _ => ⟨_, _, c1, rfl, rfl⟩, fun h' => absurd h h'⟩⟩⟩)) (by omega) (by omega) (by constructor <;> intro h' <;> first | (cases h'; done) | omega), c2⟩
 by_cases h : t.kind = 18
 ·have e : cX E x t env s = kP (im E x t env t.kids.length 0 (⟨0, 0⟩, s)) := by simp [cX, h]
  have hU : uN t = uNs t.kids := by rw [jX, h]; simp
  obtain ⟨c1, c2, c3, c4⟩ := Fa hE (x := x) (env := env) (L := L) (M := kbulk t.kids) (t := t) (by omega) (fun i u hu => by
   have h1 := aK hu
   exact ⟨by omega, ct hu, (lT hx hu (by omega)).1⟩) t.kids.length 0 ⟨0, 0⟩ s (by omega) (qg _) (hy.to (by simp; omega) (by simp; omega) (by simp; omega)) (by omega)
  simp only [List.drop_zero] at c3 c4
  rw [e]
  refine ⟨run false _ _ (aS 0 _ _ _ _ _ _ (⟨fun h' => (by cases h'), fun _ => ⟨fun h' => absurd h' (by omega), fun _ => ⟨fun h' => absurd h' (by omega), fun _ => ⟨fun _ => ⟨_, _, sv (t.kids.length + 1) _ _ _ _ _ (c1), rfl, rfl⟩, fun h' => absurd h h'⟩⟩⟩⟩)) (by omega) (by omega) (by constructor <;> intro h' <;> first | (cases h'; done) | omega), c2.mono (by omega), by rw [c3, hU], by omega⟩
 by_cases h : t.kind = 19
 ·have e : cX E x t env s = ifP E x t env s := by simp [cX, h]
  obtain ⟨c1, c2⟩ := Js hE hb hx h hy
  rw [e]
  exact ⟨run false _ _ (aS 0 _ _ _ _ _ _ (⟨fun h' => (by cases h'), fun _ => ⟨fun h' => absurd h' (by omega), fun _ => ⟨fun h' => absurd h' (by omega), fun _ => ⟨fun h' => absurd h' (by omega), fun _ => ⟨fun _ => ⟨_, _, c1, rfl, rfl⟩, fun h' => absurd h h'⟩⟩⟩⟩⟩)) (by omega) (by omega) (by constructor <;> intro h' <;> first | (cases h'; done) | omega), c2⟩
 by_cases h : t.kind = 20
 ·have e : cX E x t env s = Ak E x t env (aU E x t 0 env s) := by simp [cX, h]
  obtain ⟨a, b, ek⟩ := IP ((vw hx).2.1 h)
  have ha : t.kids[0]? = some a := by rw [ek]; rfl
  have hb' : t.kids[1]? = some b := by rw [ek]; rfl
  rw [ek] at hB
  simp only [kbulk] at hB
  have hU : uN t = uN a + uN b := by rw [jX, ek, h]; simp [uNs]
  rw [e]
  obtain ⟨A1, A2⟩ := gU hE (s := s) (env := env) (x := x) (L := L) ha (by omega) (lT hx ha (by omega)).1 (hy.to (by omega) (by omega) (by omega))
  generalize aU E x t 0 env s = r at A1 A2 ⊢
  obtain ⟨k1, s1⟩ := r
  have q1 := A2.fa
  have q2 := A2.k
  simp only at q1 q2
  show ckE x s t env (aU E x t 1 (⟨t.text, k1⟩ :: env) s1).1 (aU E x t 1 (⟨t.text, k1⟩ :: env) s1).2 ∧ Pst L (tbulk t) (uN t) s (aU E x t 1 (⟨t.text, k1⟩ :: env) s1)
  obtain ⟨B1, B2⟩ := gU hE (s := s1) (env := ⟨t.text, k1⟩ :: env) (x := x) (L := L + tbulk a) hb' (by omega) (lT hx hb' (by omega)).1 ⟨by omega, by omega, vx (v := uN t) A2.tg (by omega) p3, by omega, fun c hc => by
   rcases List.mem_cons.1 hc with rfl | hc
   ·exact q2
   ·exact (hy.env c hc).mono (by omega), fun k g hg => (hy.sg k g hg).mono (by omega)⟩
  refine ⟨run false _ _ (aS 0 _ _ _ _ _ _ (⟨fun h' => (by cases h'), fun _ => ⟨fun h' => absurd h' (by omega), fun _ => ⟨fun h' => absurd h' (by omega), fun _ => ⟨fun h' => absurd h' (by omega), fun _ => ⟨fun h' => absurd h' (by omega), fun _ => ⟨fun _ => ⟨_, _, A1, _, _, B1, rfl, rfl⟩, fun h' => absurd h h'⟩⟩⟩⟩⟩⟩)) (by omega) (by omega) (by constructor <;> intro h' <;> first | (cases h'; done) | omega), B2.k.mono (by omega), by rw [B2.tg, A2.tg, List.drop_drop, hU], by have := B2.fa; omega⟩
 by_cases h : t.kind = 21
 ·have e : cX E x t env s = ua E x t env (aU E x t 0 env s) := by simp [cX, h]
  obtain ⟨c1, c2⟩ := Ij hE hb hx h hy
  rw [e]
  exact ⟨run false _ _ (aS 0 _ _ _ _ _ _ (⟨fun h' => (by cases h'), fun _ => ⟨fun h' => absurd h' (by omega), fun _ => ⟨fun h' => absurd h' (by omega), fun _ => ⟨fun h' => absurd h' (by omega), fun _ => ⟨fun h' => absurd h' (by omega), fun _ => ⟨fun h' => absurd h' (by omega), fun _ => ⟨fun _ => ⟨_, _, c1, rfl, rfl⟩, fun h' => absurd h h'⟩⟩⟩⟩⟩⟩⟩)) (by omega) (by omega) (by constructor <;> intro h' <;> first | (cases h'; done) | omega), c2⟩
 by_cases h : t.kind = 22
 ·have e : cX E x t env s = aU E x t 0 env s := by simp [cX, h]
  obtain ⟨a, ek⟩ := EC ((vw hx).1 h)
  have ha : t.kids[0]? = some a := by rw [ek]; rfl
  rw [ek] at hB
  simp only [kbulk] at hB
  have hU : uN t = uN a := by rw [jX, ek, h]; simp [uNs]
  obtain ⟨A1, A2⟩ := gU hE (s := s) (env := env) (x := x) (L := L) ha (by omega) (lT hx ha (by omega)).1 (hy.to (by omega) (by omega) (by omega))
  rw [e]
  exact ⟨run false _ _ (aS 0 _ _ _ _ _ _ (⟨fun h' => (by cases h'), fun _ => ⟨fun h' => absurd h' (by omega), fun _ => ⟨fun h' => absurd h' (by omega), fun _ => ⟨fun h' => absurd h' (by omega), fun _ => ⟨fun h' => absurd h' (by omega), fun _ => ⟨fun h' => absurd h' (by omega), fun _ => ⟨fun h' => absurd h' (by omega), fun _ => ⟨fun _ => ⟨_, _, A1, rfl, rfl⟩, fun h' => absurd h h'⟩⟩⟩⟩⟩⟩⟩⟩)) (by omega) (by omega) (by constructor <;> intro h' <;> first | (cases h'; done) | omega), A2.k.mono (by omega), by rw [A2.tg, hU], by have := A2.fa; omega⟩
 ·have e : cX E x t env s = (⟨0, 0⟩, s) := by
   have : t.kind = 15 := by omega
   simp [cX, this]
  refine ⟨?_, drp _ (qg _) e (leafU (by omega) (by omega))⟩
  rw [e]
  exact run false _ _ (aS 0 _ _ _ _ _ _ (⟨fun h' => (by cases h'), fun _ => ⟨fun h' => absurd h' (by omega), fun _ => ⟨fun h' => absurd h' (by omega), fun _ => ⟨fun h' => absurd h' (by omega), fun _ => ⟨fun h' => absurd h' (by omega), fun _ => ⟨fun h' => absurd h' (by omega), fun _ => ⟨fun h' => absurd h' (by omega), fun _ => ⟨fun h' => absurd h' (by omega), fun _ => ⟨rfl, rfl⟩⟩⟩⟩⟩⟩⟩⟩⟩)) (by omega) (by omega) (by constructor <;> intro h' <;> first | (cases h'; done) | omega)
theorem Aj : ∀ n, Good (aT n) n
 | 0 => fun t hb => by have := bM t; omega
 | n + 1 => FS (Aj n)
set_option maxHeartbeats 4000000
def gq (p0 q0 : CKr) : Prop := bu [] Tryz.prog 25 [.ptr 0 0] ⟨5, (CKr.y p0 3)⟩ (CKr.v q0)
def cG (m : Nat) (p1 : Tree) (p2 : aj) (b : Nat) (a : CKr) (d : Nat) (q0 : CKr) : Prop := ∀ (K : Ctx) (j1 : Nat), av K [2, 1, 0] → m ≤ j1 → qLG K Tryz.f55 (CKr.v q0) (xI (ah Tryz.f55)) [.loop (xI (ah Tryz.f55)) j1, .blk 0, .seq (xH (ah Tryz.f55))] 72 (mkF 72 0 [(0, .ptr 0 0), (4, .box (ak p1) 0), (5, .box (aj.c p2) 0), (6, .int .i64 ((p1.kids.length : Int) - 2)), (18, .row 4 (kidsV (p1.kids.take b))), (19, .int .i64 (((p1.kids.take b).length : Nat) : Int)), (20, .int .i64 (d : Int))]) ⟨5, (CKr.y a 3)⟩
def bV (m : Nat) (p1 : Tree) (p2 : aj) (a : CKr) (b : List ar) (d : Int) (q0 : CKr) : Prop := ∀ (K : Ctx) (j1 : Nat), av K [2, 1, 0] → m ≤ j1 → qLG K Tryz.f55 (CKr.v q0) (xI (xH (ah Tryz.f55))) [.loop (xI (xH (ah Tryz.f55))) j1, .blk 2, .seq (xJ (xA (ah Tryz.f55)))] 72 (mkF 72 0 [(0, .ptr 0 0), (4, .box (ak p1) 0), (5, .box (aj.c p2) 0), (6, .int .i64 ((p1.kids.length : Int) - 2)), (9, .lk (List.map ar.c b)), (10, .int .i64 d)]) ⟨5, (CKr.y a 3)⟩
theorem qi (m : Nat) (p0 : CKr) (p1 : Tree) (p2 : aj) (q0 : CKr) (h : ∃ a, ((p1.kids.length : Int) - 2) = ((a : Nat) : Int) ∧ a ≤ p1.kids.length ∧ cG m p1 p2 a p0 0 q0) : dZ p0 p1 p2 q0 := by
 refine qA 72 [2, 1, 0] Tryz.func55 fun K hK => ?_
 refine gR 3 rfl <| gFP 5 rfl rfl rfl rfl <| gR 1 rfl <| gFP 6 rfl rfl rfl rfl <| gR 7 rfl <| gV 13 (.int .i64 (p1.kids.length : Int)) rfl (aP (aD _)) rfl <| gLB 12 rfl (aD _) fun c => gR 1 rfl <| gV 14 (.int .i64 ((p1.kids.length : Int) - 2)) rfl (al (by have := c; omega) rfl) rfl <| gR 9 rfl ?_
 obtain ⟨a, b, h⟩ := h
 refine gV 17 (.int .i64 ((a : Nat) : Int)) rfl (aZ b) rfl ?_
 obtain ⟨hb', h⟩ := h
 exact gY (Hw (aD p1.kids) ai rfl rfl AP (AY rfl) (Nat.zero_le _) hb' (((LL _ _ _).trans (congrArg _ (wI _ _))))) rfl rfl <| gR 1 rfl <| gV 19 (.int .i64 (((p1.kids.take a).length : Nat) : Int)) rfl (aP (aD _)) rfl <| gLB 18 rfl (aD _) fun d => gR 4 rfl <| go_loop m <| qJ hK (h K _ hK (by omega)) [0, 1, 2, 3, 4]
theorem jS (m : Nat) (p1 : Tree) (p2 : aj) (g : Nat) (i : CKr) (a : Nat) (q0 : CKr) (h : ((a < ((p1.kids.take g).length)) → ∃ f, (p1.kids.take g)[a]? = some f ∧ ∃ b, cc i (a : Int) b ∧ ∃ c, cz b f 0 c ∧ ∃ d, aM c d ∧ a + 1 ≤ 9223372036854775807 ∧ cG m p1 p2 g d (a + 1) q0) ∧ ((¬ a < ((p1.kids.take g).length)) → ∃ e, cz i p1 ((p1.kids.length : Int) - 2) e ∧ InI (((p1.kids.length : Int) - 2) - 1) ∧ bV m p1 p2 e [] (((p1.kids.length : Int) - 2) - 1) q0)) : cG (m + 1) p1 p2 g i a q0 := by
 refine qj fun K j1 hK q => ?_
 refine gR 6 rfl <| qXh 21 rfl rfl rfl h cF cC ?_ ?_ <;> intro hd h
 refine gR 8 rfl ?_
 obtain ⟨f, j, h⟩ := h
 refine gY (aH (aw j) ai rfl rfl rfl rfl) rfl rfl <| gR 10 rfl ?_
 obtain ⟨b, k, h⟩ := h
 refine qC k [0, 1, 2, 3, 4] ?_
 refine qHX ⟨11, (CKr.z b [(5, .var 29 (ak f))] 9)⟩ <| gR 6 rfl ?_
 obtain ⟨c, l, h⟩ := h
 refine qC l [0, 1, 2, 9, 10] ?_
 refine qHX ⟨16, (CKr.z c [(5, .var 29 (ak f))] 14)⟩ <| gR 4 rfl ?_
 obtain ⟨d, n, h⟩ := h
 refine qC n [0, 1, 2, 14, 15] ?_
 refine qHX ⟨21, (CKr.z d [(5, .var 29 (ak f))] 19)⟩ <| gR 4 rfl ?_
 obtain ⟨hb, h⟩ := h
 exact gR 1 rfl <| gV 33 (.int .i64 ((a + 1 : Nat) : Int)) rfl (al (by omega) (by omega)) rfl <| gR 2 rfl <| go_xloop <| qJ hK (h K _ hK (by omega)) [0, 1, 2, 19, 20]
 refine gR 3 rfl <| go_xloopE <| gR 7 rfl ?_
 obtain ⟨e, p, h⟩ := h
 refine qC p [0, 1, 2, 3, 4] ?_
 refine qHX ⟨10, (CKr.y e 8)⟩ <| gR 11 rfl ?_
 obtain ⟨hb, h⟩ := h
 exact gR 1 rfl <| gV 39 (.int .i64 (((p1.kids.length : Int) - 2) - 1)) rfl (al hb rfl) rfl <| gR 4 rfl <| go_loop m <| qJ hK (h K _ hK (by omega)) [0, 1, 2, 8, 9] ⟨⟨_, rfl, .rfl⟩, ⟨_, rfl, .rfl⟩, ⟨_, rfl, .rfl⟩, ⟨_, rfl, .rfl⟩, ⟨_, rfl, lkN⟩, ⟨_, rfl, .rfl⟩, trivial⟩
theorem jP (m : Nat) (p1 : Tree) (p2 : aj) (i : CKr) (j : List ar) (b : Int) (q0 : CKr) (h : ((0 ≤ b) → ∃ d, b = ((d : Nat) : Int) ∧ ∃ k, p1.kids[d]? = some k ∧ ∃ e, b = ((e : Nat) : Int) ∧ ∃ l, p2.params[e]? = some l ∧ InI (b - 1) ∧ bV m p1 p2 i (ar.mk k.text l :: j) (b - 1) q0) ∧ ((¬ 0 ≤ b) → InI (((p1.kids.length : Int) - 2) + 1) ∧ ∃ n a, aV i p1 (((p1.kids.length : Int) - 2) + 1) j n a ∧ ∃ g, bK n p2.result g ∧ ((g = true) → InI (((p1.kids.length : Int) - 2) + 1) ∧ ∃ c, ay a 4 [(((p1.kids.length : Int) - 2) + 1)] c ∧ c = q0) ∧ ((g = false) → a = q0))) : bV (m + 1) p1 p2 i j b q0 := by
 refine qj fun K j1 hK y => ?_
 refine gR 7 rfl <| qXd 41 rfl rfl rfl h ?_ ?_ <;> intro hd h
 refine gR 5 rfl <| qDs [] 15 15 <| qDr [(0, 2), (1, 2), (2, 2)] rfl rfl ?_
 obtain ⟨d, r, h⟩ := h
 refine gV 46 (.int .i64 ((d : Nat) : Int)) rfl (aZ r) rfl ?_
 obtain ⟨k, p, h⟩ := h
 refine gYd 3 rfl (by kernel_rfl) (aH (aw p) ai rfl rfl rfl rfl) rfl rfl <| qDr [(4, 2), (5, 2), (6, 2), (7, 2), (8, 2)] rfl rfl ?_
 obtain ⟨e, s, h⟩ := h
 refine gV 52 (.int .i64 ((e : Nat) : Int)) rfl (aZ s) rfl ?_
 obtain ⟨l, q, h⟩ := h
 refine gYd 9 rfl (by kernel_rfl) (aH (mapget (f := ac.w) q) ai rfl rfl rfl rfl) rfl rfl <| qDr [(10, 2), (11, 0), (12, 0), (13, 0), (14, 0)] rfl rfl <| qDe <| gR 4 rfl ?_
 obtain ⟨hb, h⟩ := h
 exact gR 1 rfl <| gV 43 (.int .i64 (b - 1)) rfl (al hb rfl) rfl <| gR 2 rfl <| go_xloop <| gFP 5 rfl rfl rfl rfl <| qJ hK (h K _ hK (by omega)) [0, 1, 2, 3, 4] ⟨⟨_, rfl, .rfl⟩, ⟨_, rfl, .rfl⟩, ⟨_, rfl, .rfl⟩, ⟨_, rfl, .rfl⟩, ⟨_, rfl, (lkC rfl)⟩, ⟨_, rfl, .rfl⟩, trivial⟩
 refine gR 3 rfl <| go_xloopE <| gR 3 rfl <| qDs [] 9 9 <| qDr [(0, 2), (1, 2), (2, 2)] rfl rfl ?_
 obtain ⟨hb, h⟩ := h
 refine qDr [(3, 2)] rfl rfl <| gV 61 (.int .i64 (((p1.kids.length : Int) - 2) + 1)) rfl (al hb rfl) rfl <| qDr [(4, 2), (6, 2), (7, 2)] rfl rfl ?_
 obtain ⟨n, a, t, h⟩ := h
 refine qDC 5 t [0, 1, 2, 3, 4] rfl ?_
 refine qHX ⟨11, (CKr.y a 8)⟩ ?_
 obtain ⟨g, v, h⟩ := h
 refine bN 8 v (by kernel_rfl) rfl (by kernel_rfl) rfl rfl .rfl rfl rfl ?_
 refine qDe <| gR 1 rfl <| qXi 66 rfl rfl rfl h ?_ ?_ <;> intro hd h
 refine gR 4 rfl ?_
 obtain ⟨hb, h⟩ := h
 refine gR 1 rfl <| gV 69 (.int .i64 (((p1.kids.length : Int) - 2) + 1)) rfl (al hb rfl) rfl <| gR 1 rfl <| gFR 11 rfl rfl rfl rfl ?_
 obtain ⟨c, x, h⟩ := h
 refine qC x [0, 1, 2, 8, 9] ?_
 refine qHX ⟨17, (CKr.y c 15)⟩ <| gR 1 rfl ?_
 subst h
 exact gE hK [] [] [0, 1, 2, 15, 16] []
 refine gR 2 rfl ?_
 subst h
 exact gE hK [] [] [0, 1, 2, 8, 9] []
def dQ (m : Nat) (p0 a : CKr) (b : Nat) (q0 : CKr) : Prop := ∀ (K : Ctx) (j1 : Nat), av K [2, 1, 0] → m ≤ j1 → qLG K Tryz.f25 (CKr.v q0) (xL (ah Tryz.f25)) [.loop (xL (ah Tryz.f25)) j1, .blk 0] 61 (mkF 61 0 [(0, .ptr 0 0), (9, .row 4 (kidsV p0.p)), (10, .int .i64 (p0.p.length : Int)), (11, .int .i64 (b : Int))]) ⟨5, (CKr.y a 3)⟩
def bP (m : Nat) (p0 : CKr) (b : Tree) (a : CKr) (c d e : Nat) (q0 : CKr) : Prop := ∀ (K : Ctx) (j1 j2 : Nat), av K [2, 1, 0] → m ≤ j1 → m ≤ j2 → qLG K Tryz.f25 (CKr.v q0) (xM (xH (cK (xE (xL (ah Tryz.f25)))))) [.loop (xM (xH (cK (xE (xL (ah Tryz.f25)))))) j1, .blk 2, .blk 1, .seq (xH (xL (ah Tryz.f25))), .loop (xL (ah Tryz.f25)) j2, .blk 0] 61 (mkF 61 0 [(0, .ptr 0 0), (2, .int .i64 (d : Int)), (9, .row 4 (kidsV p0.p)), (10, .int .i64 (p0.p.length : Int)), (11, .int .i64 (e : Int)), (21, .row 4 (kidsV b.kids)), (22, .int .i64 (b.kids.length : Int)), (23, .int .i64 (c : Int))]) ⟨5, (CKr.y a 3)⟩
def jE (m : Nat) (p0 : CKr) (b : Tree) (a : CKr) (c d e : Nat) (q0 : CKr) : Prop := ∀ (K : Ctx) (j1 j2 : Nat), av K [2, 1, 0] → m ≤ j1 → m ≤ j2 → Go Tryz.prog K (bodyPost Tryz.prog Tryz.f25 (SP K (CKr.v q0))) (.ex .normal) [.seq (xH (cK (xE (xM (xH (cK (xE (xL (ah Tryz.f25))))))))), .blk 3, .seq (xH (xM (xH (cK (xE (xL (ah Tryz.f25))))))), .loop (xM (xH (cK (xE (xL (ah Tryz.f25)))))) j1, .blk 2, .blk 1, .seq (xH (xL (ah Tryz.f25))), .loop (xL (ah Tryz.f25)) j2, .blk 0] 61 (mkF 61 0 [(0, .ptr 0 0), (2, .int .i64 (c : Int)), (9, .row 4 (kidsV p0.p)), (10, .int .i64 (p0.p.length : Int)), (11, .int .i64 (d : Int)), (21, .row 4 (kidsV b.kids)), (22, .int .i64 (b.kids.length : Int)), (23, .int .i64 (e : Int))]) ⟨5, (CKr.y a 3)⟩
theorem sJ (m : Nat) (p0 q0 : CKr) (h : dQ m p0 p0 0 q0) : gq p0 q0 := by
 refine qA 61 [2, 1, 0] Tryz.func25 fun K hK => ?_
 exact gR 7 rfl <| gV 10 (.int .i64 (p0.p.length : Int)) rfl (aP (aD _)) rfl <| gLB 9 rfl (aD _) fun a => gR 4 rfl <| go_loop m <| qJ hK (h K _ hK (by omega)) [0, 1, 2, 3, 4]
theorem mT (m : Nat) (p0 c : CKr) (a : Nat) (q0 : CKr) (h : ((a < p0.p.length) → ∃ b, p0.p[a]? = some b ∧ bP m p0 b ({ c with module := (a : Int) }) 0 a a q0) ∧ ((¬ a < p0.p.length) → c = q0)) : dQ (m + 1) p0 c a q0 := by
 refine qj fun K j1 hK f => ?_
 refine gR 6 rfl <| qXh 12 rfl rfl rfl h cF cC ?_ ?_ <;> intro hd h
 refine gR 8 rfl ?_
 obtain ⟨b, d, h⟩ := h
 exact gY (aH (aw d) ai rfl rfl rfl rfl) rfl rfl <| gR 20 rfl <| gV 22 (.int .i64 (b.kids.length : Int)) rfl (aP (aD _)) rfl <| gLB 21 rfl (aD _) fun e => gR 4 rfl <| go_loop m <| qJ hK (h K _ _ hK (by omega) (by omega)) [0, 1, 2, 3, 4]
 refine gR 3 rfl <| go_xloopE <| gR 1 rfl ?_
 subst h
 exact gE hK [] [] [0, 1, 2, 3, 4] []
theorem iZ (m : Nat) (p0 : CKr) (r : Tree) (δ : CKr) (a g s : Nat) (q0 : CKr) (h : ((a < r.kids.length) → ∃ d, r.kids[a]? = some d ∧ ∃ b, cc δ (a : Int) b ∧ ((d.kind = 2) → ((mlook ((g : Int), (a : Int)) b.signatures = none) → ∃ e, dZ b d (aj.mk [] (ac.mk 0 0)) e ∧ jE m p0 r e g s a q0) ∧ (∀ (z : aj), mlook ((g : Int), (a : Int)) b.signatures = some z → ∃ f, dZ b d z f ∧ jE m p0 r f g s a q0)) ∧ ((d.kind ≠ 2) → ∃ β, km b.p (g : Int) (a : Int) β ∧ ((β = true) → ∃ t, ay b 5 [] t ∧ ∃ x, cz t d 0 x ∧ ∃ y, aM x y ∧ a + 1 ≤ 9223372036854775807 ∧ bP m p0 r y (a + 1) g s q0) ∧ ((β = false) → ∃ n, cz b d 0 n ∧ ∃ q, aM n q ∧ a + 1 ≤ 9223372036854775807 ∧ bP m p0 r q (a + 1) g s q0))) ∧ ((¬ a < r.kids.length) → s + 1 ≤ 9223372036854775807 ∧ dQ m p0 δ (s + 1) q0)) : bP (m + 1) p0 r δ a g s q0 := by
 intro K j1 j2 hK χ ψ
 obtain ⟨j1, rfl⟩ : ∃ j, j1 = j + 1 := ⟨j1 - 1, by omega⟩
 obtain ⟨j2, rfl⟩ : ∃ j, j2 = j + 1 := ⟨j2 - 1, by omega⟩
 refine gR 6 rfl <| qXh 24 rfl rfl rfl h cF cC ?_ ?_ <;> intro hd h
 refine gR 8 rfl ?_
 obtain ⟨d, ε, h⟩ := h
 refine gY (aH (aw ε) ai rfl rfl rfl rfl) rfl rfl <| gR 10 rfl ?_
 obtain ⟨b, ζ, h⟩ := h
 refine qC ζ [0, 1, 2, 3, 4] ?_
 refine qHX ⟨11, (CKr.z b [(5, .var 29 (ak d))] 9)⟩ <| gR 10 rfl <| qXe 33 rfl rfl rfl h ?_ ?_ <;> intro hd h
 refine gR 1 rfl <| qDs [] 11 11 <| qDr [(0, 2), (2, 2), (3, 2), (4, 2), (6, 2), (7, 2), (8, 2)] rfl rfl ?_
 apply dK (i := 1) (j := 5) (by kernel_rfl) rfl rfl rfl rfl
 exact (de ai rfl rfl)
 exact (de ai rfl rfl)
 refine qDr [(5, 0)] rfl rfl ?_
 rcases γ : mlook ((g : Int), (a : Int)) b.signatures with _ | z
 replace h := h.1 γ
 refine ba (v := some (.agg [.nils, .int .i64 0, .int .i64 0])) 9 (.nop) rfl (by kernel_rfl) (qY cD (encV := aj.w) (k := ((g : Int), (a : Int))) (l := b.signatures) (zv := .agg [.nils, .int .i64 0, .int .i64 0]) γ Tryz.underlying56 Tryz.zeroValue97 (by kernel_rfl) rfl rfl rfl rfl) trivial rfl (by kernel_rfl) rfl rfl ?_
 obtain ⟨e, η, h⟩ := h
 refine qDC 10 η [0, 1, 2, 9, 10] rfl (hs := (.cons .rfl (.cons .rfl (.cons (.agg (.cons (.nil 2) (.cons .rfl (.cons .rfl .nil)))) .nil)))) ?_
 exact qHX ⟨16, (CKr.z e [(5, .var 29 (ak d))] 14)⟩ <| qDe <| qJ hK (h K _ _ hK (by omega) (by omega)) [0, 1, 2, 14, 15]
 replace h := h.2 z γ
 refine ba (v := some (.agg (aj.c z))) 9 (.nop) rfl (by kernel_rfl) (ri cD (encV := aj.w) (k := ((g : Int), (a : Int))) (l := b.signatures) (zv := .agg [.nils, .int .i64 0, .int .i64 0]) γ Tryz.underlying56 Tryz.zeroValue97 (by kernel_rfl) rfl rfl rfl rfl) trivial rfl (by kernel_rfl) rfl rfl ?_
 obtain ⟨f, θ, h⟩ := h
 refine qDC 10 θ [0, 1, 2, 9, 10] rfl ?_
 exact qHX ⟨16, (CKr.z f [(5, .var 29 (ak d))] 14)⟩ <| qDe <| qJ hK (h K _ _ hK (by omega) (by omega)) [0, 1, 2, 14, 15]
 rcases α : mlook ((g : Int), (a : Int)) b.signatures with _ | z
 replace h := h.1 α
 apply dK (i := 1) (j := 9) (by kernel_rfl) rfl rfl rfl rfl
 exact (de ai rfl rfl)
 exact (rW (.nop) (qY cD (encV := aj.w) (k := ((g : Int), (a : Int))) (l := b.signatures) (zv := .agg [.nils, .int .i64 0, .int .i64 0]) α Tryz.underlying56 Tryz.zeroValue97 (by kernel_rfl) rfl rfl rfl rfl) trivial (by kernel_rfl))
 refine ba 9 (.nop) rfl (by kernel_rfl) (qY cD (encV := aj.w) (k := ((g : Int), (a : Int))) (l := b.signatures) (zv := .agg [.nils, .int .i64 0, .int .i64 0]) α Tryz.underlying56 Tryz.zeroValue97 (by kernel_rfl) rfl rfl rfl rfl) trivial rfl (by kernel_rfl) rfl rfl ?_
 obtain ⟨e, ι, h⟩ := h
 refine qDC 10 ι [0, 1, 2, 9, 10] rfl (hs := (.cons .rfl (.cons .rfl (.cons (.agg (.cons (.nil 2) (.cons .rfl (.cons .rfl .nil)))) .nil)))) ?_
 exact qHX ⟨16, (CKr.z e [(5, .var 29 (ak d))] 14)⟩ <| qDe <| qJ hK (h K _ _ hK (by omega) (by omega)) [0, 1, 2, 14, 15]
 refine qDr [(1, 0)] rfl rfl ?_
 obtain ⟨e, κ, h⟩ := h
 refine qDC 10 κ [0, 1, 2, 9, 10] rfl (hs := (.cons .rfl (.cons .rfl (.cons (.agg (.cons (.nil 2) (.cons .rfl (.cons .rfl .nil)))) .nil)))) ?_
 exact qHX ⟨16, (CKr.z e [(5, .var 29 (ak d))] 14)⟩ <| qDe <| qJ hK (h K _ _ hK (by omega) (by omega)) [0, 1, 2, 14, 15]
 replace h := h.2 z α
 apply dK (i := 1) (j := 9) (by kernel_rfl) rfl rfl rfl rfl
 exact (de ai rfl rfl)
 exact (rW (.nop) (ri cD (encV := aj.w) (k := ((g : Int), (a : Int))) (l := b.signatures) (zv := .agg [.nils, .int .i64 0, .int .i64 0]) α Tryz.underlying56 Tryz.zeroValue97 (by kernel_rfl) rfl rfl rfl rfl) trivial (by kernel_rfl))
 refine ba 9 (.nop) rfl (by kernel_rfl) (ri cD (encV := aj.w) (k := ((g : Int), (a : Int))) (l := b.signatures) (zv := .agg [.nils, .int .i64 0, .int .i64 0]) α Tryz.underlying56 Tryz.zeroValue97 (by kernel_rfl) rfl rfl rfl rfl) trivial rfl (by kernel_rfl) rfl rfl ?_
 obtain ⟨f, μ, h⟩ := h
 refine qDC 10 μ [0, 1, 2, 9, 10] rfl ?_
 exact qHX ⟨16, (CKr.z f [(5, .var 29 (ak d))] 14)⟩ <| qDe <| qJ hK (h K _ _ hK (by omega) (by omega)) [0, 1, 2, 14, 15]
 refine qDr [(1, 0)] rfl rfl ?_
 obtain ⟨f, ν, h⟩ := h
 refine qDC 10 ν [0, 1, 2, 9, 10] rfl ?_
 exact qHX ⟨16, (CKr.z f [(5, .var 29 (ak d))] 14)⟩ <| qDe <| qJ hK (h K _ _ hK (by omega) (by omega)) [0, 1, 2, 14, 15]
 refine gR 10 rfl ?_
 obtain ⟨β, ξ, h⟩ := h
 refine qC0 ξ rfl <| gR 2 rfl <| qXi 51 rfl rfl rfl h ?_ ?_ <;> intro hd h
 refine gR 3 rfl ?_
 obtain ⟨t, ο, h⟩ := h
 refine qC ο [0, 1, 2, 9, 10] (hs := (.cons .rfl (.cons .rfl (.cons (.nil 1) .nil)))) ?_
 refine qHX ⟨16, (CKr.z t [(5, .var 29 (ak d))] 14)⟩ <| gR 5 rfl ?_
 obtain ⟨x, π, h⟩ := h
 refine qC π [0, 1, 2, 14, 15] ?_
 refine qHX ⟨21, (CKr.z x [(5, .var 29 (ak d))] 19)⟩ <| gR 4 rfl ?_
 obtain ⟨y, τ, h⟩ := h
 refine qC τ [0, 1, 2, 19, 20] ?_
 refine qHX ⟨26, (CKr.z y [(5, .var 29 (ak d))] 24)⟩ <| gR 4 rfl ?_
 obtain ⟨hb, h⟩ := h
 exact gR 1 rfl <| gV 59 (.int .i64 ((a + 1 : Nat) : Int)) rfl (al (by omega) (by omega)) rfl <| gR 2 rfl <| go_xloop <| qJ hK (h K _ _ hK (by omega) (by omega)) [0, 1, 2, 24, 25]
 refine gR 6 rfl ?_
 obtain ⟨n, υ, h⟩ := h
 refine qC υ [0, 1, 2, 9, 10] ?_
 refine qHX ⟨16, (CKr.z n [(5, .var 29 (ak d))] 14)⟩ <| gR 4 rfl ?_
 obtain ⟨q, φ, h⟩ := h
 refine qC φ [0, 1, 2, 14, 15] ?_
 refine qHX ⟨21, (CKr.z q [(5, .var 29 (ak d))] 19)⟩ <| gR 4 rfl ?_
 obtain ⟨hb, h⟩ := h
 exact gR 1 rfl <| gV 59 (.int .i64 ((a + 1 : Nat) : Int)) rfl (al (by omega) (by omega)) rfl <| gR 2 rfl <| go_xloop <| qJ hK (h K _ _ hK (by omega) (by omega)) [0, 1, 2, 19, 20]
 refine gR 3 rfl <| go_xloopE <| gR 4 rfl ?_
 obtain ⟨hb, h⟩ := h
 exact gR 1 rfl <| gV 60 (.int .i64 ((s + 1 : Nat) : Int)) rfl (al (by omega) (by omega)) rfl <| gR 2 rfl <| go_xloop <| qJ hK (h K _ hK (by omega)) [0, 1, 2, 3, 4]
theorem sp (m : Nat) (p0 : CKr) (c : Tree) (d : CKr) (e f b : Nat) (q0 : CKr) (h : ∃ a, aM d a ∧ b + 1 ≤ 9223372036854775807 ∧ bP m p0 c a (b + 1) e f q0) : jE (m + 1) p0 c d e f b q0 := by
 intro K j1 j2 hK i k
 obtain ⟨j1, rfl⟩ : ∃ j, j1 = j + 1 := ⟨j1 - 1, by omega⟩
 obtain ⟨j2, rfl⟩ : ∃ j, j2 = j + 1 := ⟨j2 - 1, by omega⟩
 refine gR 3 rfl ?_
 obtain ⟨a, g, h⟩ := h
 refine qC g [0, 1, 2, 3, 4] ?_
 refine qHX ⟨10, (CKr.y a 8)⟩ <| gR 4 rfl ?_
 obtain ⟨hb, h⟩ := h
 exact gR 1 rfl <| gV 59 (.int .i64 ((b + 1 : Nat) : Int)) rfl (al (by omega) (by omega)) rfl <| gR 2 rfl <| go_xloop <| qJ hK (h K _ _ hK (by omega) (by omega)) [0, 1, 2, 8, 9]
mutual
def leafK : Tree → Tree
 | .node k s ls ks => if k = 8 then leafH (.node k s ls ks) ks else .node k s ls ks
def leafH (d : Tree) : List Tree → Tree
 | [] => d
 | t :: _ => leafK t
end
mutual
def lisK : Tree → Nat
 | .node k s ls ks => if k = 8 then lisH ks + 1 else 0
def lisH : List Tree → Nat
 | [] => 0
 | t :: _ => lisK t
end
def eW : Nat → Tree → Tree
 | 0, t => t
 | n + 1, t => .node 8 [] [] [eW n t]
mutual
def bareK : Tree → Tree
 | .node k s _ ks => .node k s [] (baresK ks)
def baresK : List Tree → List Tree
 | [] => []
 | t :: r => bareK t :: baresK r
end
theorem oY {t u : Tree} {r : List Tree} (h8 : t.kind = 8) (hk : t.kids = u :: r) : leafK t = leafK u ∧ lisK t = lisK u + 1 := by
 cases t
 simp only [Tree.kind, Tree.kids] at h8 hk
 subst h8 hk
 constructor
 ·rw [leafK, if_pos rfl, leafH]
 ·rw [lisK, if_pos rfl, lisH]
theorem ir {t : Tree} (h : t.kind ≠ 8) : leafK t = t ∧ lisK t = 0 := by
 cases t
 simp only [Tree.kind] at h
 constructor
 ·rw [leafK, if_neg h]
 ·rw [lisK, if_neg h]
theorem nA (t : Tree) : bareK t = .node t.kind t.text [] (baresK t.kids) := by cases t; simp only [bareK]; rfl
def tyK (t : Tree) : Prop := shapeK t = true ∧ hJ t.kind = true
theorem pd {t : Tree} (h : tyK t) : (t.kind = 8 ∧ t.text = [] ∧ ∃ u, t.kids = [u] ∧ tyK u) ∨ (t.kind ≠ 8 ∧ t.kids = [] ∧ (t.kind ≠ 9 → t.text = [])) := by
 obtain ⟨hs, hk⟩ := h
 rw [bG] at hs
 simp only [Bool.and_eq_true, decide_eq_true_eq] at hs
 have hk' : 5 ≤ t.kind ∧ t.kind ≤ 9 := by simpa [hJ] using hk
 by_cases h8 : t.kind = 8
 ·refine .inl ⟨h8, ?_, ?_⟩
  ·have := hs.1.2; rw [h8] at this; simpa [nd] using this
  ·have hl := hs.1.1
   have e : dm t.kind t.kids.length = f0 t.kids.length 1 2 0 1 := by rw [h8]; rfl
   rw [e] at hl
   have hn : t.kids.length = 1 := by
    unfold f0 at hl
    split at hl
    ·omega
    ·split at hl
     ·omega
     ·omega
   obtain ⟨u, hu⟩ : ∃ u, t.kids = [u] := by
    match hkk : t.kids, hn with
    | [u], _ => exact ⟨u, rfl⟩
   refine ⟨u, hu, ?_⟩
   have hss := hs.2
   rw [hu] at hss
   simp only [shapeKs, Bool.and_eq_true] at hss
   refine ⟨hss.1.2, ?_⟩
   have := hss.1.1
   rw [h8] at this
   simpa [gb] using this
 ·refine .inr ⟨h8, ?_, fun h9 => ?_⟩
  ·have hl := hs.1.1
   have e : dm t.kind t.kids.length = f0 t.kids.length 0 1 0 0 := by
    have : t.kind = 5 ∨ t.kind = 6 ∨ t.kind = 7 ∨ t.kind = 9 := by omega
    rcases this with e | e | e | e <;> rw [e] <;> rfl
   rw [e] at hl
   have : t.kids.length = 0 := by
    unfold f0 at hl
    split at hl
    ·omega
    ·omega
   exact List.length_eq_zero_iff.1 this
  ·have : t.kind = 5 ∨ t.kind = 6 ∨ t.kind = 7 := by omega
   have hw := hs.1.2
   rcases this with e | e | e <;> (rw [e] at hw; simpa [nd] using hw)
theorem pj : ∀ t, tyK t → tyK (leafK t) ∧ (leafK t).kind ≠ 8 ∧ bareK t = eW (lisK t) (.node (leafK t).kind (leafK t).text [] []) := cy fun t ih h => by
 rcases pd h with ⟨h8, hx, u, hu, hty⟩ | ⟨h8, hk, _⟩
 ·obtain ⟨e1, e2⟩ := oY h8 hu
  obtain ⟨g1, g2, g3⟩ := ih 0 u (by rw [hu]; rfl) hty
  rw [e1, e2]
  refine ⟨g1, g2, ?_⟩
  rw [nA, h8, hx, hu, eW]
  simp only [baresK, g3]
 ·obtain ⟨e1, e2⟩ := ir h8
  rw [e1, e2]
  refine ⟨h, h8, ?_⟩
  rw [nA, hk, eW, baresK]
theorem oe : ∀ t, tbulk (leafK t) ≤ tbulk t ∧ lisK t ≤ tbulk t := cy fun t ih => by
 by_cases h8 : t.kind = 8
 ·cases hk : t.kids with
  | nil =>
   have hp := bf t
   cases t
   simp only [Tree.kind, Tree.kids] at h8 hk
   subst h8 hk
   rw [leafK, if_pos rfl, leafH, lisK, if_pos rfl, lisH]
   exact ⟨Nat.le_refl _, hp⟩
  | cons u r =>
   obtain ⟨e1, e2⟩ := oY h8 hk
   have h0 : t.kids[0]? = some u := by rw [hk]; rfl
   obtain ⟨g1, g2⟩ := ih 0 u h0
   have := aK h0
   rw [e1, e2]
   omega
 ·obtain ⟨e1, e2⟩ := ir h8
  rw [e1, e2]
  exact ⟨Nat.le_refl _, Nat.zero_le _⟩
theorem ud {t u : Tree} {d : Nat} (ht : t.kind = 1) (hs : shapeK t = true) (hu : t.kids[d]? = some u) : (u.kind = 2 ∧ bm u.text = 1) ∨ (u.kind = 3 ∧ bm u.text = 2) := by
 rw [bG] at hs
 simp only [Bool.and_eq_true] at hs
 obtain ⟨h1, h2⟩ := dH hs.2 hu
 rw [ht] at h1
 simp [gb] at h1
 rw [bG] at h2
 simp only [Bool.and_eq_true] at h2
 have h3 := h2.1.2
 rcases h1 with e | e
 ·rw [e] at h3
  simp [nd] at h3
  exact .inl ⟨e, by omega⟩
 ·rw [e] at h3
  simp [nd] at h3
  exact .inr ⟨e, by omega⟩
theorem Kl {w : List UInt8} {k : Nat} (h : bm w = k) (hk : k = 3 ∨ k = 4) : eR w 0 = ((spanN aQ w : Nat) : Int) := by
 obtain ⟨h1, h2, _⟩ := Jj h hk
 have := FG w 0 h1 h2
 simpa using this
theorem tC {p : List Tree} {m : Int} {u : Tree} (hp : bg p = true) (h9 : u.kind = 9) (hu : shapeK u = true) (h : (bd p m u.text).2.2 = true) : ∃ (i d : Nat) (t a b : Tree), (bd p m u.text).1 = (i : Int) ∧ (bd p m u.text).2.1 = (d : Int) ∧ p[i]? = some t ∧ t.kids[d]? = some a ∧ a.kind = 3 ∧ a.kids = [b] ∧ tyK b := by
 have hw : bm u.text = 2 ∨ bm u.text = 4 := by
  rw [bG, h9] at hu
  simp only [Bool.and_eq_true] at hu
  have := hu.1.2
  simp only [nd] at this
  simp at this
  omega
 have fin : ∀ (i d : Nat) (t a : Tree), p[i]? = some t → t.kids[d]? = some a → ¬ a.kind = 2 → a.kind = 3 ∧ ∃ b, a.kids = [b] ∧ tyK b := fun i d t a ht ha hn => by
  obtain ⟨t1, t2⟩ := iv hp ht
  rcases ud t1 t2 ha with ⟨k2, _⟩ | ⟨k3, _⟩
  ·exact absurd k2 hn
  ·refine ⟨k3, ?_⟩
   rw [bG] at t2
   simp only [Bool.and_eq_true] at t2
   obtain ⟨_, g2⟩ := dH t2.2 ha
   rw [bG, k3] at g2
   simp only [Bool.and_eq_true, decide_eq_true_eq] at g2
   have hl := g2.1.1
   have e : dm 3 a.kids.length = f0 a.kids.length 1 3 0 1 := rfl
   rw [e] at hl
   have hn : a.kids.length = 1 := by
    unfold f0 at hl
    split at hl
    ·omega
    ·split at hl
     ·omega
     ·omega
   match hkk : a.kids, hn with
   | [b], _ =>
    have hss := g2.2
    rw [hkk] at hss
    simp only [shapeKs, Bool.and_eq_true] at hss
    exact ⟨b, rfl, hss.1.2, by have := hss.1.1; simpa [gb] using this⟩
 unfold bd at h ⊢
 rcases hw with hw | hw
 ·have hd : eR u.text 0 = -1 := BN _ _ (IM hw (.inr rfl)).1
  rw [if_neg (by omega)] at h ⊢
  obtain ⟨i, d, t, a, _, a1, a2, a3, a4, a5, _⟩ := xm h
  obtain ⟨t1, t2⟩ := iv hp a3
  obtain ⟨f1, b, f2, f3⟩ := fin i d t a a3 a4 fun k2 => by
   rcases ud t1 t2 a4 with ⟨_, k⟩ | ⟨k, _⟩
   ·rw [a5, hw] at k; cases k
   ·omega
  exact ⟨i, d, t, a, b, a1, a2, a3, a4, f1, f2, f3⟩
 ·have hd := Kl hw (.inr rfl)
  rw [if_pos (by omega)] at h ⊢
  obtain ⟨i, d, t, a, _, a1, a2, a3, a4, a5, _⟩ := xm h
  obtain ⟨t1, t2⟩ := iv hp a3
  obtain ⟨f1, b, f2, f3⟩ := fin i d t a a3 a4 fun k2 => by
   rcases ud t1 t2 a4 with ⟨_, k⟩ | ⟨k, _⟩
   ·have g := (IM k (.inl rfl)).2.1 rfl
    have g3 := (Jj hw (.inr rfl)).2.2
    rw [a5, hd, Int.toNat_natCast] at g
    have e : (u.text.drop (spanN aQ u.text + 1)).getD 0 0 = u.text.getD (spanN aQ u.text + 1) 0 := by
     simp [List.getD_eq_getElem?_getD, List.getElem?_drop]
    rw [e] at g
    have := g3.2 g
    cases this
   ·omega
  exact ⟨i, d, t, a, b, a1, a2, a3, a4, f1, f2, f3⟩
def eu : Nat → Cx → Tree → Sv → Sv
 | 0, _, _, s => s
 | n + 1, x, u, s => if u.kind = 9 then (if (s.tg.headD noT).Free then faP x 1 [] (dy s) else dy s) else if u.kind = 8 then eu n (x.go ((0 : Nat) : Int)) (cp u 0) s else s
abbrev ckT (x : Cx) (s : Sv) (t : Tree) (i : Int) (s' : Sv) : Prop := cz (mkC x s) t i (mkC x s')
structure Sst (B u : Nat) (s s' : Sv) : Prop where
 tg : s'.tg = s.tg.drop u
 fa : s'.fa.length ≤ s.fa.length + 4 * B
theorem xy : ∀ (n : Nat) (u : Tree), tbulk u ≤ n → tyK u → ∀ (t : Tree) (i : Nat) (x : Cx) (s : Sv), t.kids[i]? = some u → x.pa.length + tbulk u + 1 ≤ 100000000 → s.fa.length + 1 ≤ 900000000 → uN u ≤ s.tg.length → ckT x s t i (eu n (x.go i) u s) ∧ Sst (tbulk u) (uN u) s (eu n (x.go i) u s)
 | 0, u, hb, _, _, _, _, _, _, _, _, _ => by have := bM u; omega
 | n + 1, u, hb, hu, t, i, x, s, ht, h1, h2, h3 => by
  have hbu := aW u
  have hlen : x.pa.length + 1 ≤ 1000000000 := by omega
  rcases pd hu with ⟨h8, _, v, hv, hvt⟩ | ⟨h8, hk, _⟩
  ·rw [hv] at hbu
   simp only [kbulk] at hbu
   have hU : uN u = uN v := by rw [jX, hv, h8]; simp [uNs]
   have hv0 : u.kids[0]? = some v := by rw [hv]; rfl
   have e : eu (n + 1) (x.go i) u s = eu n ((x.go i).go ((0 : Nat) : Int)) v s := by simp [eu, h8, nI hv0]
   obtain ⟨a1, a2⟩ := xy n v (by omega) hvt u 0 (x.go i) s hv0 (by simp [Cx.go]; omega) h2 (by omega)
   rw [e]
   refine ⟨fM 0 _ _ _ _ (⟨_, jB (x := x) (s := s) (i : Int) hlen, i, rfl, u, ht, fun h => absurd h (by omega), fun _ => ⟨fun _ => ⟨_, a1, _, iq (x := x) (i : Int), rfl⟩, fun h => absurd h8 h⟩⟩), ?_⟩
   exact ⟨by rw [a2.tg, hU], by have := a2.fa; omega⟩
  ·by_cases h9 : u.kind = 9
   ·have hU : uN u = 1 := by rw [jX, hk, h9]; simp [uNs]
    have huse := Ji (x := x.go i) (s := s) (by omega)
    have e : eu (n + 1) (x.go i) u s = if (s.tg.headD noT).Free then faP (x.go i) 1 [] (dy s) else dy s := by simp [eu, h9]
    rw [e]
    by_cases hf : (s.tg.headD noT).Free = true
    ·rw [if_pos hf]
     refine ⟨fM 0 _ _ _ _ (⟨_, jB (x := x) (s := s) (i : Int) hlen, i, rfl, u, ht, fun _ => ⟨_, _, huse, fun _ => ⟨_, dx (x := x.go i) (s := dy s) 1 [] (by simp [Cx.go]; omega) (by simp [dy]; omega), _, iq (x := x) (s := faP (x.go i) 1 [] (dy s)) (i : Int), rfl⟩, fun h => absurd hf (by rw [h]; decide)⟩, fun h => absurd h9 h⟩), ?_⟩
     exact ⟨by rw [hU]; rfl, by rw [dw]; simp [dy]; omega⟩
    ·rw [if_neg hf]
     refine ⟨fM 0 _ _ _ _ (⟨_, jB (x := x) (s := s) (i : Int) hlen, i, rfl, u, ht, fun _ => ⟨_, _, huse, fun h => absurd h hf, fun _ => ⟨_, iq (x := x) (s := dy s) (i : Int), rfl⟩⟩, fun h => absurd h9 h⟩), ?_⟩
     exact ⟨by rw [hU]; rfl, by simp [dy]⟩
   ·have hU : uN u = 0 := by rw [jX, hk, if_neg]; simp [uNs]; have := hu.2; simp [hJ] at this; omega
    have e : eu (n + 1) (x.go i) u s = s := by simp [eu, h9, h8]
    rw [e]
    exact ⟨fM 0 _ _ _ _ (⟨_, jB (x := x) (s := s) (i : Int) hlen, i, rfl, u, ht, fun h => absurd h h9, fun _ => ⟨fun h => absurd h h8, fun _ => ⟨_, iq (x := x) (s := s) (i : Int), rfl⟩⟩⟩), by rw [hU]; rfl, by omega⟩
def lH (x : Cx) : List Tree → Nat → Sv → Sv
 | [], _, s => s
 | k :: r, i, s => lH x r (i + 1) (eu (tbulk (cp k 0)) ((x.go i).go ((0 : Nat) : Int)) (cp k 0) s)
def kQ : List Tree → List Kn → Env
 | k :: r, q :: l => ⟨k.text, q⟩ :: kQ r l
 | _, _ => []
def funQ (x : Cx) (i : Nat) (r : Kn) : Kn × Sv → Sv
 | (k, s) => if cZ k r then faP x 4 [(i : Int)] s else s
def so (x : Cx) (f : Tree) (g : aj) (s : Sv) : Sv :=
 funQ x (f.kids.length - 1) g.result (aU (aT (tbulk f)) x f (f.kids.length - 1) (kQ (f.kids.take (f.kids.length - 2)) g.params) (eu (tbulk f) (x.go ((f.kids.length - 2 : Nat) : Int)) (cp f (f.kids.length - 2)) (lH x (f.kids.take (f.kids.length - 2)) 0 s)))
abbrev ckU (x : Cx) (s : Sv) (f : Tree) (g : aj) (s' : Sv) : Prop := dZ (mkC x s) f g (mkC x s')
theorem vl {f : Tree} (hs : shapeK f = true) (h2 : f.kind = 2) : 2 ≤ f.kids.length ∧ (∀ (i : Nat) (u : Tree), f.kids[i]? = some u → i + 2 < f.kids.length → ∃ v, u.kind = 4 ∧ u.kids = [v] ∧ tyK v) ∧ (∀ u, f.kids[f.kids.length - 2]? = some u → tyK u) ∧ (∀ u, f.kids[f.kids.length - 1]? = some u → exT u) := by
 rw [bG] at hs
 simp only [Bool.and_eq_true, decide_eq_true_eq] at hs
 have hl := hs.1.1
 rw [h2] at hl
 have h1 := (pM (show 0 ≤ f0 f.kids.length 2 6 2 (-1) from hl)).1
 refine ⟨by omega, fun i u hu hi => ?_, fun u hu => ?_, fun u hu => ?_⟩
 ·obtain ⟨g1, g2⟩ := dH hs.2 hu
  rw [h2] at g1
  simp only [gb] at g1
  rw [if_neg (by omega), if_pos trivial, if_neg (by omega), if_neg (by omega)] at g1
  have h4 : u.kind = 4 := by simpa using g1
  rw [bG] at g2
  simp only [Bool.and_eq_true, decide_eq_true_eq] at g2
  have hl2 := g2.1.1
  rw [h4] at hl2
  have := pM (show 0 ≤ f0 u.kids.length 1 2 0 1 from hl2)
  obtain ⟨v, ev⟩ := EC (t := u) (by omega)
  have hv : u.kids[0]? = some v := by rw [ev]; rfl
  obtain ⟨g3, g4⟩ := dH g2.2 hv
  rw [h4] at g3
  exact ⟨v, h4, ev, g4, by simpa [gb] using g3⟩
 ·obtain ⟨g1, g2⟩ := dH hs.2 hu
  rw [h2] at g1
  simp only [gb] at g1
  rw [if_neg (by omega), if_pos trivial, if_neg (by omega), if_pos (by omega)] at g1
  exact ⟨g2, g1⟩
 ·obtain ⟨g1, g2⟩ := dH hs.2 hu
  rw [h2] at g1
  simp only [gb] at g1
  rw [if_neg (by omega), if_pos trivial, if_pos (by omega)] at g1
  exact ⟨g2, g1⟩
theorem GO {f : Tree} {g : aj} {x : Cx} {n : Nat} (hn : n ≤ f.kids.length) (hf : ∀ (i : Nat) (u : Tree), (f.kids.take n)[i]? = some u → ∃ v, u.kind = 4 ∧ u.kids = [v] ∧ tyK v) (hl : f.kids.length ≤ 100000000) : ∀ (k i : Nat) (s : Sv), k + i = n → x.pa.length + kbulk ((f.kids.take n).drop i) + 2 ≤ 100000000 → s.fa.length + 4 * kbulk ((f.kids.take n).drop i) + 1 ≤ 900000000 → uNs ((f.kids.take n).drop i) ≤ s.tg.length →
  Sst (kbulk ((f.kids.take n).drop i)) (uNs ((f.kids.take n).drop i)) s (lH x ((f.kids.take n).drop i) i s) ∧ ∀ (m : Nat) (s' : Sv), (∀ s1, s1 = lH x ((f.kids.take n).drop i) i s → cG m f g n (mkC x s1) n (mkC x s')) → ∃ m', cG m' f g n (mkC x s) i (mkC x s')
 | 0, i, s, hk, _, _, _ => by
  have hd : (f.kids.take n).drop i = [] := List.drop_of_length_le (by simp; omega)
  have hi : i = n := by omega
  subst hi
  rw [hd]
  exact ⟨⟨by simp [lH, uNs], by simp [lH]⟩, fun m s' h => ⟨m, h _ rfl⟩⟩
 | k + 1, i, s, hk, h1, h2, h3 => by
  have hlt : i < (f.kids.take n).length := by simp; omega
  obtain ⟨u, hu⟩ : ∃ u, (f.kids.take n)[i]? = some u := ⟨_, List.getElem?_eq_getElem hlt⟩
  obtain ⟨v, hv4, hv, hvt⟩ := hf i u hu
  have hd := bk hu
  have hbu := aW u
  rw [hv] at hbu
  rw [hd] at h1 h2 h3 ⊢
  simp only [kbulk, uNs] at h1 h2 h3 hbu ⊢
  have hv0 : u.kids[0]? = some v := by rw [hv]; rfl
  have hU : uN u = uN v := by rw [jX, hv, hv4]; simp [uNs]
  obtain ⟨a1, a2⟩ := xy (tbulk v) v (Nat.le_refl _) hvt u 0 (x.go i) s hv0 (by simp [Cx.go]; omega) (by omega) (by omega)
  have e : lH x (u :: (f.kids.take n).drop (i + 1)) i s = lH x ((f.kids.take n).drop (i + 1)) (i + 1) (eu (tbulk v) ((x.go i).go ((0 : Nat) : Int)) v s) := by
   rw [lH, nI hv0]
  rw [e]
  generalize eu (tbulk v) ((x.go i).go ((0 : Nat) : Int)) v s = s1 at a1 a2
  have q1 := a2.fa
  have q2 := a2.tg
  obtain ⟨b1, b2⟩ := GO (g := g) (x := x) hn hf hl k (i + 1) s1 (by omega) (by omega) (by omega) (by rw [q2, List.length_drop]; omega)
  refine ⟨⟨by rw [b1.tg, q2, List.drop_drop, hU], by have := b1.fa; omega⟩, fun m s' h => ?_⟩
  obtain ⟨m', hm⟩ := b2 m s' h
  exact ⟨m' + 1, jS m' _ _ _ _ _ _ (⟨fun _ => ⟨u, hu, _, jB (x := x) (s := s) (i : Int) (by omega), _, a1, _, iq (x := x) (s := s1) (i : Int), by omega, hm⟩, fun h => absurd hlt h⟩)⟩
theorem Jf {f : Tree} {g : aj} {x : Cx} {s s' : Sv} {n : Nat} (hn : n + 2 = f.kids.length) (hg : n ≤ g.params.length) (hl : f.kids.length ≤ 100000000) {m0 : Nat} (fin : bV m0 f g (mkC x s) (kQ (f.kids.take n) g.params) (-1) (mkC x s')) : ∀ k, k ≤ n → bV (m0 + k) f g (mkC x s) (kQ ((f.kids.take n).drop k) (g.params.drop k)) ((k : Int) - 1) (mkC x s')
 | 0, _ => by simpa using fin
 | k + 1, hk => by
  have ih := Jf hn hg hl fin k (by omega)
  obtain ⟨u, hu⟩ : ∃ u, f.kids[k]? = some u := ⟨_, List.getElem?_eq_getElem (by omega)⟩
  obtain ⟨q, hq⟩ : ∃ q, g.params[k]? = some q := ⟨_, List.getElem?_eq_getElem (by omega)⟩
  have hu' : (f.kids.take n)[k]? = some u := by rw [List.getElem?_take, if_pos (by omega)]; exact hu
  rw [bk hu', bk hq] at ih
  have e : (((k + 1 : Nat) : Int) - 1) = (k : Int) := by omega
  rw [e]
  exact jP (m0 + k) _ _ _ _ _ _ (⟨fun _ => ⟨k, rfl, u, hu, k, rfl, q, hq, ⟨by omega, by omega⟩, ih⟩, fun h => absurd (by omega) h⟩)
theorem Et {f : Tree} {g : aj} {x : Cx} {s : Sv} {L : Nat} (hs : shapeK f = true) (h2 : f.kind = 2) (hg : f.kids.length = g.params.length + 2) (hp : x.pa.length + tbulk f + 2 ≤ 100000000) (hf : s.fa.length + 4 * tbulk f + 1 ≤ 900000000) (ht : uN f ≤ s.tg.length) (hL : L + tbulk f ≤ 900000000) (hgp : ∀ q ∈ g.params, KOk L q) (hsg : ∀ k q, mlook k x.sg = some q → KOk L q.result) :
  ckU x s f g (so x f g s) ∧ Sst (tbulk f) (uN f) s (so x f g s) := by
 obtain ⟨s1, s2, s3, s4⟩ := vl hs h2
 have hkl := bM f
 have hB := aW f
 obtain ⟨n, hn⟩ : ∃ n, n + 2 = f.kids.length := ⟨f.kids.length - 2, by omega⟩
 obtain ⟨r, hr⟩ : ∃ r, f.kids[n]? = some r := ⟨_, List.getElem?_eq_getElem (by omega)⟩
 obtain ⟨b, hb⟩ : ∃ b, f.kids[n + 1]? = some b := ⟨_, List.getElem?_eq_getElem (by omega)⟩
 have hrt := s3 r (by rw [show f.kids.length - 2 = n by omega]; exact hr)
 have hbx := s4 b (by rw [show f.kids.length - 1 = n + 1 by omega]; exact hb)
 have hsplit : f.kids = f.kids.take n ++ [r, b] := by
  have e1 : f.kids.drop n = [r, b] := by
   rw [bk hr, bk hb, List.drop_of_length_le (by omega)]
  rw [← e1, List.take_append_drop]
 have hKB : kbulk f.kids = kbulk (f.kids.take n) + tbulk r + tbulk b := by
  have : ∀ a c : List Tree, kbulk (a ++ c) = kbulk a + kbulk c := fun a c => by induction a with
   | nil => simp [kbulk]
   | cons y l ih => simp only [List.cons_append, kbulk, ih]; omega
  conv => lhs; rw [hsplit, this]
  simp [kbulk]; omega
 have hUU : uN f = uNs (f.kids.take n) + uN r + uN b := by
  have : ∀ a c : List Tree, uNs (a ++ c) = uNs a + uNs c := fun a c => by induction a with
   | nil => simp [uNs]
   | cons y l ih => simp only [List.cons_append, uNs, ih]; omega
  rw [jX, h2]
  conv => lhs; rw [hsplit, this]
  simp [uNs]; omega
 have hpar : ∀ (i : Nat) (u : Tree), (f.kids.take n)[i]? = some u → ∃ v, u.kind = 4 ∧ u.kids = [v] ∧ tyK v := fun i u hu => by
  rw [List.getElem?_take] at hu
  split at hu
  ·exact s2 i u hu (by omega)
  ·cases hu
 obtain ⟨A1, A2⟩ := GO (f := f) (g := g) (x := x) (n := n) (by omega) hpar (by omega) n 0 s (by omega) (by simp; omega) (by simp; omega) (by simp; omega)
 simp only [List.drop_zero] at A1 A2
 obtain ⟨sA, hsA⟩ : ∃ sA, sA = lH x (f.kids.take n) 0 s := ⟨_, rfl⟩
 rw [← hsA] at A1
 have qA := A1.fa
 have qT := A1.tg
 obtain ⟨B1, B2⟩ := xy (tbulk f) r (by omega) hrt f n x sA hr (by omega) (by omega) (by rw [qT, List.length_drop]; omega)
 obtain ⟨sB, hsB⟩ : ∃ sB, sB = eu (tbulk f) (x.go (n : Int)) r sA := ⟨_, rfl⟩
 rw [← hsB] at B1 B2
 have rA := B2.fa
 have rT := B2.tg
 obtain ⟨C1, C2⟩ := gU (Aj (tbulk f)) (x := x) (env := kQ (f.kids.take n) g.params) (s := sB) (L := L) hb (by omega) hbx ⟨by omega, by omega, by rw [rT, qT, List.drop_drop, List.length_drop]; omega, by omega, fun c hc => by
  have : ∀ (ks : List Tree) (ps : List Kn), (∀ q ∈ ps, KOk L q) → ∀ c ∈ kQ ks ps, KOk L c.typ := fun ks => by
   induction ks with
   | nil => intro ps _ c hc; simp [kQ] at hc
   | cons k r ih =>
    intro ps hps c hc
    cases ps with
    | nil => simp [kQ] at hc
    | cons q l =>
     simp only [kQ, List.mem_cons] at hc
     rcases hc with rfl | hc
     ·exact hps q List.mem_cons_self
     ·exact ih l (fun q hq => hps q (List.mem_cons_of_mem _ hq)) c hc
  exact this _ _ hgp c hc, hsg⟩
 have e0 : so x f g s = funQ x (n + 1) g.result (aU (aT (tbulk f)) x f (n + 1) (kQ (f.kids.take n) g.params) sB) := by
  unfold so
  rw [show f.kids.length - 1 = n + 1 by omega, show f.kids.length - 2 = n by omega, nI hr, ← hsA, ← hsB]
 rw [e0]
 generalize aU (aT (tbulk f)) x f (n + 1) (kQ (f.kids.take n) g.params) sB = w at C1 C2 ⊢
 obtain ⟨k, sC⟩ := w
 have cA := C2.fa
 have cT := C2.tg
 simp only at cA cT
 have ei : (((f.kids.length : Nat) : Int) - 2 + 1) = ((n + 1 : Nat) : Int) := by omega
 have fin : ∀ s', s' = funQ x (n + 1) g.result (k, sC) → bV 1 f g (mkC x sB) (kQ (f.kids.take n) g.params) (-1) (mkC x s') := fun s' hs' => by
  refine jP 0 _ _ _ _ _ _ (⟨fun h => absurd h (by omega), fun _ => ⟨⟨by omega, by omega⟩, _, _, by rw [ei]; exact C1, _, jf k g.result, fun h => ⟨⟨by omega, by omega⟩, ?_⟩, fun h => ?_⟩⟩)
  ·have : s' = faP x 4 [((n + 1 : Nat) : Int)] sC := by rw [hs']; unfold funQ; simp only [if_pos h]
   subst this
   exact ⟨_, by rw [ei]; exact dx (x := x) (s := sC) 4 [((n + 1 : Nat) : Int)] (by simp; omega) (by omega), rfl⟩
  ·have : s' = sC := by rw [hs']; unfold funQ; simp only [h]; simp
   subst this
   exact rfl
 have st : Sst (tbulk f) (uN f) s (funQ x (n + 1) g.result (k, sC)) := by
  have : (funQ x (n + 1) g.result (k, sC)).tg = sC.tg ∧ (funQ x (n + 1) g.result (k, sC)).fa.length ≤ sC.fa.length + 1 := by
   unfold funQ
   simp only []
   split
   ·exact ⟨rfl, by rw [dw]; omega⟩
   ·exact ⟨rfl, by omega⟩
  exact ⟨by rw [this.1, cT, rT, qT, List.drop_drop, List.drop_drop, hUU, Nat.add_assoc], by have := this.2; omega⟩
 refine ⟨?_, st⟩
 obtain ⟨m', hm⟩ := A2 (1 + n + 1) (funQ x (n + 1) g.result (k, sC)) fun s1 hs1 => by
  rw [← hsA] at hs1
  subst hs1
  refine jS (1 + n) _ _ _ _ _ _ (⟨fun h => absurd h (by rw [List.length_take]; omega), fun _ => ⟨_, by rw [show ((f.kids.length : Nat) : Int) - 2 = (n : Int) by omega]; exact B1, ⟨by omega, by omega⟩, ?_⟩⟩)
  have := Jf (x := x) (s := sB) (g := g) hn (by omega) (by omega) (fin _ rfl) n (Nat.le_refl _)
  rw [List.drop_of_length_le (by simp; omega)] at this
  rw [show ((f.kids.length : Nat) : Int) - 2 - 1 = (n : Int) - 1 by omega]
  simpa [kQ] using this
 exact qi m' _ _ _ _ (⟨n, by omega, by omega, hm⟩)
def vd (p0 : Tree) (p1 : List Int) (r0 : Tree) (r1 : Bool) : Prop := qS 23 [.agg (ak p0), .row 1 (List.map (V.int .i64) p1)] (.tup [.agg (ak r0), .bool r1])
def cS (p0 : List Tree) (r0 : List ae) : Prop := bu [] Tryz.prog 14 [.row 4 (kidsV p0)] ⟨0, []⟩ (fun u G => u = .sl 0 ∧ G = ⟨1, [(0, .row 47 3 (List.map ae.w r0))]⟩)
def sj (p0 : List Tree) (p1 : GPlace) (r0 : Tree) (r1 : Int) : Prop := qS 10 [.row 4 (kidsV p0), .agg (GPlace.c p1)] (.tup [.agg (ak r0), .int .i64 r1])
theorem rm (m : Nat) (p0 : List Tree) (r0 : List ae) (h : ∃ c, kq p0 c ∧ ((c = false) → ([] : List ae) = r0) ∧ ((c = true) → ∃ b, ib p0 b ∧ ∃ a, gq b a ∧ ∃ d, dl a.faults d ∧ d = r0)) : cS p0 r0 := by
 refine qA 20 [] Tryz.func14 fun K hK => ?_
 refine gR 9 rfl ?_
 obtain ⟨c, e, h⟩ := h
 refine qC0 e rfl <| gR 3 rfl <| qBh 6 rfl rfl rfl h ci ch ?_ ?_ <;> intro h
 refine gR 8 rfl <| gNS 2 47 3 rfl rfl rfl rfl ?_
 subst h
 exact gE hK [] [(2, .sl 0)] [0] [.tmp 2]
 refine gR 6 rfl ?_
 obtain ⟨b, f, h⟩ := h
 refine qC f [] ?_
 refine qHX ⟨5, (CKr.y b 3)⟩ <| gR 6 rfl ?_
 obtain ⟨a, g, h⟩ := h
 refine qC g [0, 1, 2, 3, 4] ?_
 refine qHX ⟨10, (CKr.y a 8)⟩ <| gR 8 rfl ?_
 obtain ⟨d, i, h⟩ := h
 refine qC i [9] ?_
 refine qHX ⟨11, [(9, .row 47 3 (List.map ae.w d)), (8, CKr.path_o a), (2, CKr.signatures_o a), (1, CKr.names_o a), (0, CKr.o a 1 2 8 9)]⟩ <| gR 12 rfl ?_
 subst h
 exact gE hK [] [(2, .sl 0)] [9] [.tmp 2]
def uJ (m : Nat) (p0 : List Tree) (p1 : GPlace) (a : Tree) (b : Bool) (r0 : Tree) (r1 : Int) : Prop := ∀ (K : Ctx), av K [] → Go Tryz.prog K (bodyPost Tryz.prog Tryz.f10 (SP K (fun u _ => u = .tup [.agg (ak r0), .int .i64 r1]))) (.ex .normal) [.seq (xH (ah Tryz.f10))] 88 (mkF 88 0 [(0, .row 4 (kidsV p0)), (3, .box (GPlace.c p1) 0), (4, .ptr 0 0), (6, .ptr 1 0), (7, .bool b)]) ⟨2, [(1, .var 29 (ak a)), (0, vD 0 [])]⟩
def oH (m : Nat) (a : CKr) (b : Int) (c : List Tree) (d : Nat) (r0 : Tree) (r1 : Int) : Prop := ∀ (K : Ctx) (j1 : Nat), av K [] → m ≤ j1 → qLG K Tryz.f10 (fun u _ => u = .tup [.agg (ak r0), .int .i64 r1]) (xI (xJ (xH (ah Tryz.f10)))) [.loop (xI (xJ (xH (ah Tryz.f10)))) j1, .blk 0, .seq (xJ (xJ (xA (ah Tryz.f10))))] 88 (mkF 88 0 [(4, .ptr 0 0), (9, .ptr 1 0), (80, .int .i64 a.result_lists), (81, .int .i64 (d : Int))]) ⟨3, [(2, .row 29 4 (kidsV c)), (1, .var 29 [.int .i64 b, .str [], .nils, .sl 2]), (0, vD 0 [])]⟩
theorem BF (m : Nat) (p0 : List Tree) (p1 : GPlace) (r0 : Tree) (r1 : Int) (h : ∃ a, kq p0 a ∧ ((a = false) → (Tree.node 0 [] [] []) = r0 ∧ 5 = r1) ∧ ((a = true) → ((p1.Module < 0) → (Tree.node 0 [] [] []) = r0 ∧ 5 = r1) ∧ ((¬ p1.Module < 0) → (((p0.length : Int) ≤ p1.Module) → (Tree.node 0 [] [] []) = r0 ∧ 5 = r1) ∧ ((¬ (p0.length : Int) ≤ p1.Module) → ∃ b, p1.Module = ((b : Nat) : Int) ∧ ∃ c, p0[b]? = some c ∧ ∃ d e, vd c p1.Path d e ∧ uJ m p0 p1 d e r0 r1)))) : sj p0 p1 r0 r1 := by
 refine ⟨rfl, rfl, ?_⟩
 refine qA 88 [] Tryz.func10 fun K hK => ?_
 refine gR 3 rfl <| gFP 0 rfl rfl rfl rfl <| gR 8 rfl ?_
 obtain ⟨a, l, h⟩ := h
 refine qC0 l rfl <| gR 2 rfl <| qBhZ 13 12 rfl rfl rfl rfl h ci ch ?_ ?_ <;> intro h
 refine gR 23 rfl ?_
 obtain ⟨rfl, rfl⟩ := h
 exact go_sub (F' := (mkF 88 0 [(4, .ptr 0 0), (5, .int .i64 5)])) (H' := ⟨1, [(0, vC ((Tree.node 0 [] [] []).kind) ((Tree.node 0 [] [] []).text) ((Tree.node 0 [] [] []).leads) ((Tree.node 0 [] [] []).kids))]⟩) [1] [] rfl hK pq2 ⟨⟨_, rfl, rfl, (.cons .rfl (.cons .rfl (.cons (.nil 1) (.cons (.nil 4) .nil))))⟩, trivial⟩ rfl <| qN [.cell 4 29, .tmp 5]
 refine gR 5 rfl <| qBdZ 18 17 rfl rfl rfl rfl h ?_ ?_ <;> intro h
 refine gR 18 rfl ?_
 obtain ⟨rfl, rfl⟩ := h
 exact go_sub (F' := (mkF 88 0 [(4, .ptr 0 0), (5, .int .i64 5)])) (H' := ⟨1, [(0, vC ((Tree.node 0 [] [] []).kind) ((Tree.node 0 [] [] []).text) ((Tree.node 0 [] [] []).leads) ((Tree.node 0 [] [] []).kids))]⟩) [1] [] rfl hK pq2 ⟨⟨_, rfl, rfl, (.cons .rfl (.cons .rfl (.cons (.nil 1) (.cons (.nil 4) .nil))))⟩, trivial⟩ rfl <| qN [.cell 4 29, .tmp 5]
 refine gR 4 rfl <| gV 22 (.int .i64 (p0.length : Int)) rfl (aP (aD _)) rfl <| gLB 21 rfl (aD _) fun n => gR 4 rfl <| qBd 24 rfl rfl rfl h ?_ ?_ <;> intro h
 refine gR 10 rfl ?_
 obtain ⟨rfl, rfl⟩ := h
 exact go_sub (F' := (mkF 88 0 [(4, .ptr 0 0), (5, .int .i64 5)])) (H' := ⟨1, [(0, vC ((Tree.node 0 [] [] []).kind) ((Tree.node 0 [] [] []).text) ((Tree.node 0 [] [] []).leads) ((Tree.node 0 [] [] []).kids))]⟩) [1] [] rfl hK pq2 ⟨⟨_, rfl, rfl, (.cons .rfl (.cons .rfl (.cons (.nil 1) (.cons (.nil 4) .nil))))⟩, trivial⟩ rfl <| qN [.cell 4 29, .tmp 5]
 refine gR 4 rfl <| qDs [] 12 14 <| qDr [(0, 2), (1, 2), (2, 2)] rfl rfl ?_
 obtain ⟨b, k, h⟩ := h
 refine gV 29 (.int .i64 ((b : Nat) : Int)) rfl (aZ k) rfl ?_
 obtain ⟨c, f, h⟩ := h
 refine gYd 3 rfl (by kernel_rfl) (aH (aw f) ai rfl rfl rfl rfl) rfl rfl <| qDr [(4, 2), (5, 2), (6, 2)] rfl rfl ?_
 obtain ⟨d, e, g, h⟩ := h
 apply dK (i := 7) (j := 11) (by kernel_rfl) rfl rfl rfl rfl
 exact (gG (L' := []) (by kernel_rfl) rfl rfl (ug g .rfl [] rfl) (.inl rfl))
 exact (de ai rfl rfl)
 exact qDr [(8, 2), (9, 2), (10, 2), (11, 0), (12, 1), (13, 1)] rfl rfl <| qDe <| qJ hK (h K hK) [1, 2]
 refine bN 7 g (by kernel_rfl) rfl (by kernel_rfl) rfl rfl .rfl rfl rfl ?_
 exact qDr [(8, 0), (9, 2), (10, 2), (12, 1), (13, 1)] rfl rfl <| qDe <| qJ hK (h K hK) [1, 2]
theorem zu (m : Nat) (p0 : List Tree) (p1 : GPlace) (b : Tree) (d : Bool) (r0 : Tree) (r1 : Int) (h : ((d = false) → (Tree.node 0 [] [] []) = r0 ∧ 5 = r1) ∧ ((d = true) → ((b.kind < 10) → (Tree.node 0 [] [] []) = r0 ∧ 5 = r1) ∧ ((¬ b.kind < 10) → ((22 < b.kind) → (Tree.node 0 [] [] []) = r0 ∧ 5 = r1) ∧ ((¬ 22 < b.kind) → ((b.kind = 17) → (Tree.node 0 [] [] []) = r0 ∧ 5 = r1) ∧ ((b.kind ≠ 17) → ∃ c, ib p0 c ∧ ∃ a, gq ({ c with wanted_Module := p1.Module, wanted_Path := p1.Path }) a ∧ ((a.result_simple = 0) → (Tree.node 0 [] [] []) = r0 ∧ 20 = r1) ∧ ((a.result_simple ≠ 0) → oH m a a.result_simple ([] : List Tree) 0 r0 r1)))))) : uJ (m + 1) p0 p1 b d r0 r1 := by
 intro K hK
 refine gR 7 rfl <| qXhZ 39 38 rfl rfl rfl rfl h ci ch ?_ ?_ <;> intro hd h
 refine gR 26 rfl ?_
 obtain ⟨rfl, rfl⟩ := h
 exact go_sub (F' := (mkF 88 0 [(4, .ptr 0 0), (5, .int .i64 5)])) (H' := ⟨1, [(0, vC ((Tree.node 0 [] [] []).kind) ((Tree.node 0 [] [] []).text) ((Tree.node 0 [] [] []).leads) ((Tree.node 0 [] [] []).kids))]⟩) [0] [] rfl hK pq2 ⟨⟨_, rfl, rfl, (.cons .rfl (.cons .rfl (.cons (.nil 1) (.cons (.nil 4) .nil))))⟩, trivial⟩ rfl <| qN [.cell 4 29, .tmp 5]
 refine gR 5 rfl <| qXdZ 44 43 rfl rfl rfl rfl h ?_ ?_ <;> intro hd h
 refine gR 21 rfl ?_
 obtain ⟨rfl, rfl⟩ := h
 exact go_sub (F' := (mkF 88 0 [(4, .ptr 0 0), (5, .int .i64 5)])) (H' := ⟨1, [(0, vC ((Tree.node 0 [] [] []).kind) ((Tree.node 0 [] [] []).text) ((Tree.node 0 [] [] []).leads) ((Tree.node 0 [] [] []).kids))]⟩) [0] [] rfl hK pq2 ⟨⟨_, rfl, rfl, (.cons .rfl (.cons .rfl (.cons (.nil 1) (.cons (.nil 4) .nil))))⟩, trivial⟩ rfl <| qN [.cell 4 29, .tmp 5]
 refine gR 5 rfl <| qXdZ 49 48 rfl rfl rfl rfl h ?_ ?_ <;> intro hd h
 refine gR 16 rfl ?_
 obtain ⟨rfl, rfl⟩ := h
 exact go_sub (F' := (mkF 88 0 [(4, .ptr 0 0), (5, .int .i64 5)])) (H' := ⟨1, [(0, vC ((Tree.node 0 [] [] []).kind) ((Tree.node 0 [] [] []).text) ((Tree.node 0 [] [] []).leads) ((Tree.node 0 [] [] []).kids))]⟩) [0] [] rfl hK pq2 ⟨⟨_, rfl, rfl, (.cons .rfl (.cons .rfl (.cons (.nil 1) (.cons (.nil 4) .nil))))⟩, trivial⟩ rfl <| qN [.cell 4 29, .tmp 5]
 refine gR 6 rfl <| qXe 53 rfl rfl rfl h ?_ ?_ <;> intro hd h
 refine gR 10 rfl ?_
 obtain ⟨rfl, rfl⟩ := h
 exact go_sub (F' := (mkF 88 0 [(4, .ptr 0 0), (5, .int .i64 5)])) (H' := ⟨1, [(0, vC ((Tree.node 0 [] [] []).kind) ((Tree.node 0 [] [] []).text) ((Tree.node 0 [] [] []).leads) ((Tree.node 0 [] [] []).kids))]⟩) [0] [] rfl hK pq2 ⟨⟨_, rfl, rfl, (.cons .rfl (.cons .rfl (.cons (.nil 1) (.cons (.nil 4) .nil))))⟩, trivial⟩ rfl <| qN [.cell 4 29, .tmp 5]
 refine gR 6 rfl ?_
 obtain ⟨c, e, h⟩ := h
 refine qC e [] ?_
 refine qHX ⟨7, [(6, CKr.faults_o c), (5, CKr.path_o c), (4, CKr.signatures_o c), (3, CKr.names_o c), (2, CKr.o c 3 4 5 6), (1, .var 29 (ak b)), (0, vD 0 [])]⟩ <| gR 15 rfl ?_
 obtain ⟨a, f, h⟩ := h
 refine qC f [2, 3, 4, 5, 6] ?_
 refine qHX ⟨12, [(11, CKr.faults_o a), (10, CKr.path_o a), (4, CKr.signatures_o a), (3, CKr.names_o a), (2, CKr.o a 3 4 10 11), (1, .var 29 (ak b)), (0, vD 0 [])]⟩ <| gR 13 rfl <| qXe 68 rfl rfl rfl h ?_ ?_ <;> intro hd h
 refine gR 10 rfl ?_
 obtain ⟨rfl, rfl⟩ := h
 exact go_sub (F' := (mkF 88 0 [(4, .ptr 0 0), (5, .int .i64 20)])) (H' := ⟨1, [(0, vC ((Tree.node 0 [] [] []).kind) ((Tree.node 0 [] [] []).text) ((Tree.node 0 [] [] []).leads) ((Tree.node 0 [] [] []).kids))]⟩) [0] [] rfl hK pq2 ⟨⟨_, rfl, rfl, (.cons .rfl (.cons .rfl (.cons (.nil 1) (.cons (.nil 4) .nil))))⟩, trivial⟩ rfl <| qN [.cell 4 29, .tmp 5]
 exact gR 15 rfl <| go_sub (F' := (mkF 88 0 [(4, .ptr 0 0), (8, .ptr 1 0), (9, .ptr 2 0)])) (H' := ⟨7, [(6, CKr.faults_o a), (5, CKr.path_o a), (4, CKr.signatures_o a), (3, CKr.names_o a), (2, vD a.result_simple []), (1, CKr.o a 3 4 5 6), (0, vD 0 [])]⟩) [0, 2, 12, 3, 4, 10, 11] [] rfl hK pq3 ⟨⟨_, rfl, rfl, rfl, (vF _ a.faults).symm⟩, ⟨_, rfl, rfl, rfl, (vE _ a.path).symm⟩, ⟨_, rfl, rfl, rfl, rfl, rfl⟩, ⟨_, rfl, rfl, rfl, rfl, rfl⟩, (pqo3 rfl rfl rfl rfl rfl rfl)⟩ rfl <| gR 12 rfl <| go_loop m <| gNC 2 3 29 4 rfl rfl rfl rfl <| qJ hK (h K _ hK (by omega)) [0, 2, 7]
theorem ut (m : Nat) (d : CKr) (a : Int) (b : List Tree) (c : Nat) (r0 : Tree) (r1 : Int) (h : (((c : Int) < d.result_lists) → c + 1 ≤ 9223372036854775807 ∧ oH m d 8 [(Tree.node a [] [] b)] (c + 1) r0 r1) ∧ ((¬ (c : Int) < d.result_lists) → (Tree.node a [] [] b) = r0 ∧ 0 = r1)) : oH (m + 1) d a b c r0 r1 := by
 refine qj fun K j1 hK e => ?_
 refine gR 6 rfl <| qXd 82 rfl rfl rfl h ?_ ?_ <;> intro hd h
 refine gR 7 rfl <| gFR 2 rfl (cq _) rfl rfl <| gS 83 (.agg [.int .i64 a, .str [], .row 1 [], .row 4 (kidsV b)]) rfl (.agg (.cons .rfl (.cons .rfl (.cons (.nil 1) (.cons .rfl .nil))))) rfl <| gR 1 rfl <| gHR 3 (kidsV [(Tree.node a [] [] b)]) rfl (kL (Tree.node a [] [] b)) rfl <| gR 6 rfl ?_
 obtain ⟨hb, h⟩ := h
 exact gR 1 rfl <| gV 86 (.int .i64 ((c + 1 : Nat) : Int)) rfl (al (by omega) (by omega)) rfl <| gR 2 rfl <| go_xloop <| qJ hK (h K _ hK (by omega)) [0, 1, 3]
 refine gR 3 rfl <| go_xloopE <| gR 10 rfl <| gFR 2 rfl (cq _) rfl rfl ?_
 obtain ⟨rfl, rfl⟩ := h
 exact go_sub (F' := (mkF 88 0 [(4, .ptr 0 0), (5, .int .i64 0)])) (H' := ⟨1, [(0, vC ((Tree.node a [] [] b).kind) ((Tree.node a [] [] b).text) ((Tree.node a [] [] b).leads) ((Tree.node a [] [] b).kids))]⟩) [0] [] rfl hK pq2 ⟨⟨_, rfl, rfl, (.cons .rfl (.cons .rfl (.cons (.nil 1) (.cons .rfl .nil))))⟩, trivial⟩ rfl <| qN [.cell 4 29, .tmp 5]
def pC : Tree := .node 0 [] [] []
def lK (p : List Tree) (i d : Int) : Tree := match p[i.toNat]? with
 | none => pC
 |some t => match t.kids[d.toNat]? with
  | none => pC
  |some a => match a.kids with
   | [] => pC
   | b :: _ => b
def gM (p : List Tree) : Nat → List (Int × Int) → Nat → Int → Tree → Tree × Int
 | 0, _, _, _, _ => (pC, 0)
 | f + 1, seen, n, m, u =>
  if u.kind = 9 then
   if (bd p m u.text).2.2 = false then (pC, 7)
   else if ((bd p m u.text).1, (bd p m u.text).2.1) ∈ seen then (pC, 19)
   else gM p f (((bd p m u.text).1, (bd p m u.text).2.1) :: seen) (n + lisK (lK p (bd p m u.text).1 (bd p m u.text).2.1)) (bd p m u.text).1 (leafK (lK p (bd p m u.text).1 (bd p m u.text).2.1))
  else (eW n (.node u.kind [] [] []), 0)
theorem nL {α : Type} [BEq α] [LawfulBEq α] : ∀ (l m : List α), l.Nodup → (∀ x ∈ l, x ∈ m) → l.length ≤ m.length
 | [], m, _, _ => Nat.zero_le _
 | x :: l, m, hn, hs => by
  obtain ⟨h1, h2⟩ := List.nodup_cons.1 hn
  have hx : x ∈ m := hs x (by simp)
  have ih := nL l (m.erase x) h2 fun y hy => by
   have hne : y ≠ x := fun e => h1 (e ▸ hy)
   exact (List.mem_erase_of_ne hne).2 (hs y (by simp [hy]))
  rw [List.length_erase_of_mem hx] at ih
  have := List.length_pos_of_mem hx
  simp only [List.length_cons]; omega
def rg (i : Nat) (l : List Tree) : List (Int × Int) := (List.range l.length).map fun (d : Nat) => ((i : Int), (d : Int))
def dG : Nat → List Tree → List (Int × Int)
 | _, [] => []
 | i, t :: r => rg i t.kids ++ dG (i + 1) r
theorem vg : ∀ (i : Nat) (p : List Tree), (dG i p).length ≤ kbulk p
 | _, [] => Nat.le_refl _
 | i, t :: r => by
  have := vg (i + 1) r
  have := bM t
  simp only [dG, List.length_append, rg, List.length_map, List.length_range, kbulk]; omega
theorem rR : ∀ {j : Nat} {p : List Tree} {i d : Nat} {t a : Tree}, p[i]? = some t → t.kids[d]? = some a → (((j + i : Nat) : Int), (d : Int)) ∈ dG j p
 | j, [], i, d, t, a, h, _ => by simp at h
 | j, u :: r, 0, d, t, a, h, ha => by
  simp only [List.getElem?_cons_zero, Option.some.injEq] at h
  subst h
  have := (List.getElem?_eq_some_iff.1 ha).1
  simp only [dG, List.mem_append, rg, List.mem_map, List.mem_range]
  exact .inl ⟨d, this, rfl⟩
 | j, u :: r, i + 1, d, t, a, h, ha => by
  have := rR (j := j + 1) (p := r) (i := i) (by simpa using h) ha
  simp only [dG, List.mem_append]
  rw [show j + (i + 1) = j + 1 + i by omega]
  exact .inr this
theorem tf {p : List Tree} {i d : Nat} {t a b : Tree} (h1 : p[i]? = some t) (h2 : t.kids[d]? = some a) (h3 : a.kids = [b]) : lK p i d = b := by
 unfold lK
 rw [Int.toNat_natCast, h1]
 simp only [Int.toNat_natCast, h2, h3]
def lI (p : List Tree) (l : List (Int × Int)) : Prop := l.Nodup ∧ ∀ x ∈ l, x ∈ dG 0 p
theorem wP {p : List Tree} {l : List (Int × Int)} (h : lI p l) : l.length ≤ kbulk p := Nat.le_trans (nL _ _ h.1 h.2) (vg 0 p)
theorem Dl {p : List Tree} {M : Int} : ∀ {a : List (List Int × Tree)} {x : GTarget}, x ∈ eS p M a ↔ ∃ q u, (q, u) ∈ a ∧ ny u = true ∧ x = tgK p M q u
 | [], x => by simp [eS]
 | (q, u) :: r, x => by
  have ih := Dl (p := p) (M := M) (a := r) (x := x)
  simp only [eS, List.mem_append, ih]
  constructor
  ·rintro (h | ⟨q', u', h1, h2, h3⟩)
   ·split at h
    ·rename_i hu
     rw [List.mem_singleton] at h
     exact ⟨q, u, by simp, hu, h⟩
    ·cases h
   ·exact ⟨q', u', by simp [h1], h2, h3⟩
  ·rintro ⟨q', u', h1, h2, h3⟩
   rcases List.mem_cons.1 h1 with h1 | h1
   ·cases h1
    exact .inl (by rw [if_pos h2]; simp [h3])
   ·exact .inr ⟨q', u', h1, h2, h3⟩
theorem wt {p : List Tree} : ∀ {i : Nat} {l : List Tree} {x : GTarget}, x ∈ jm p i l ↔ ∃ j t q u, l[j]? = some t ∧ (q, u) ∈ nodK t [] ∧ ny u = true ∧ x = tgK p ((i + j : Nat) : Int) q u
 | i, [], x => by simp [jm]
 | i, t :: r, x => by
  have ih := wt (p := p) (i := i + 1) (l := r) (x := x)
  simp only [jm, List.mem_append, ih, Dl]
  constructor
  ·rintro (⟨q, u, h1, h2, h3⟩ | ⟨j, t', q, u, h0, h1, h2, h3⟩)
   ·exact ⟨0, t, q, u, rfl, h1, h2, h3⟩
   ·exact ⟨j + 1, t', q, u, by simpa using h0, h1, h2, by rw [h3]; congr 2; omega⟩
  ·rintro ⟨j, t', q, u, h0, h1, h2, h3⟩
   cases j with
   | zero => simp at h0; subst h0; exact .inl ⟨q, u, h1, h2, h3⟩
   | succ j => exact .inr ⟨j, t', q, u, by simpa using h0, h1, h2, by rw [h3]; congr 2; omega⟩
theorem yV {u : Tree} {x : List Int × Tree} : ∀ {l : List Tree} {q : List Int} {i j : Nat}, l[j]? = some u → x ∈ nodK u (q ++ [((i + j : Nat) : Int)]) → x ∈ nodKs l q i
 | [], q, i, j, h, _ => by simp at h
 | t :: r, q, i, 0, h, hx => by
  simp only [List.getElem?_cons_zero, Option.some.injEq] at h
  subst h
  simp only [nodKs, List.mem_append]
  exact .inl (by simpa using hx)
 | t :: r, q, i, j + 1, h, hx => by
  simp only [nodKs, List.mem_append]
  refine .inr (yV (i := i + 1) (j := j) (by simpa using h) ?_)
  rw [show i + 1 + j = i + (j + 1) by omega]; exact hx
theorem Ad : ∀ (r : List Int) {t u : Tree} {q : List Int}, atK t r = some u → (q ++ r, u) ∈ nodK t q
 | [], t, u, q, h => by
  simp only [atK, Option.some.injEq] at h
  subst h
  rw [yj]; simp
 | z :: r, t, u, q, h => by
  simp only [atK] at h
  split at h
  ·cases h
  ·rename_i hz
   cases hu : t.kids[z.toNat]? with
   | none => rw [hu] at h; cases h
   | some v =>
    rw [hu] at h
    have := Ad r (q := q ++ [z]) h
    rw [yj, List.mem_cons]
    refine .inr (yV (j := z.toNat) hu ?_)
    rw [Nat.zero_add, show ((z.toNat : Nat) : Int) = z by omega]
    simpa using this
theorem KA : ∀ t, tyK t → ∃ q, atK t q = some (leafK t) := cy fun t ih h => by
 rcases pd h with ⟨h8, _, u, hu, hty⟩ | ⟨h8, _⟩
 ·obtain ⟨e1, _⟩ := oY h8 hu
  obtain ⟨q, hq⟩ := ih 0 u (by rw [hu]; rfl) hty
  exact ⟨0 :: q, by simp [atK, hu, hq, e1]⟩
 ·exact ⟨[], by rw [(ir h8).1]; rfl⟩
theorem GB : ∀ t, tyK t → ∀ q u, atK t q = some u → ny u = true → u = leafK t := cy fun t ih h q u hq hu => by
 rcases pd h with ⟨h8, _, v, hv, hty⟩ | ⟨h8, hk, _⟩
 ·obtain ⟨e1, _⟩ := oY h8 hv
  cases q with
  | nil =>
   simp only [atK, Option.some.injEq] at hq
   subst hq
   simp [ny, h8] at hu
  | cons z q =>
   simp only [atK, hv] at hq
   split at hq
   ·cases hq
   ·cases hz : z.toNat with
    | zero =>
     rw [hz] at hq
     simp only [List.getElem?_cons_zero] at hq
     rw [e1]
     exact ih 0 v (by rw [hv]; rfl) hty q u hq hu
    | succ n => rw [hz] at hq; simp at hq
 ·rw [(ir h8).1]
  cases q with
  | nil => simp only [atK, Option.some.injEq] at hq; exact hq.symm
  | cons z q =>
   simp only [atK, hk] at hq
   split at hq <;> simp at hq
def ec (p : List Tree) (a : Int × Int) : Option (Int × Int) := if 0 ≤ a.1 ∧ 0 ≤ a.2 then match p[a.1.toNat]? with
    | none => none
    | some t => match t.kids[a.2.toNat]? with
      | none => none
      | some x => if x.kind = 3 ∧ (leafK (lK p a.1 a.2)).kind = 9 ∧ (bd p a.1 (leafK (lK p a.1 a.2)).text).2.2 = true then some ((bd p a.1 (leafK (lK p a.1 a.2)).text).1, (bd p a.1 (leafK (lK p a.1 a.2)).text).2.1) else none
  else none
theorem By {p : List Tree} {i d : Nat} {t x : Tree} (h1 : p[i]? = some t) (h2 : t.kids[d]? = some x) (h3 : x.kind = 3) : ec p ((i : Int), (d : Int)) = if (leafK (lK p i d)).kind = 9 ∧ (bd p i (leafK (lK p i d)).text).2.2 = true then some ((bd p i (leafK (lK p i d)).text).1, (bd p i (leafK (lK p i d)).text).2.1) else none := by
 unfold ec
 rw [if_pos ⟨Int.natCast_nonneg i, Int.natCast_nonneg d⟩]
 simp only [Int.toNat_natCast, h1, h2, h3, true_and]
theorem tK {p : List Tree} {i d : Nat} {t x : Tree} (hp : bg p = true) (h1 : p[i]? = some t) (h2 : t.kids[d]? = some x) (h3 : x.kind = 3) : ∃ b, x.kids = [b] ∧ tyK b := by
 obtain ⟨g1, g2⟩ := iv hp h1
 have hsx : shapeK x = true := by
  rw [bG] at g2
  simp only [Bool.and_eq_true] at g2
  exact (dH g2.2 h2).2
 rw [bG, h3] at hsx
 simp only [Bool.and_eq_true, decide_eq_true_eq] at hsx
 have hl := hsx.1.1
 have e : dm 3 x.kids.length = f0 x.kids.length 1 3 0 1 := rfl
 rw [e] at hl
 have hn : x.kids.length = 1 := by
  unfold f0 at hl
  split at hl
  ·omega
  ·split at hl
   ·omega
   ·omega
 match hkk : x.kids, hn with
 | [b], _ =>
  have hss := hsx.2
  rw [hkk] at hss
  simp only [shapeKs, Bool.and_eq_true] at hss
  exact ⟨b, rfl, hss.1.2, by have := hss.1.1; simpa [gb] using this⟩
def Jc (p : List Tree) (x : GTarget) : Bool := !x.Free && (match p[x.Use.Module.toNat]? with | none => false | some t => match t.kids[(x.Use.Path.getD 0 0).toNat]? with | none => false | some a => a.kind == 3)
def ew (p : List Tree) (l : List ((Int × Int) × au)) (x : GTarget) : List ((Int × Int) × au) :=
 if Jc p x = true then mput (x.Use.Module, x.Use.Path.getD 0 0) (au.mk x.Module x.Def) l else l
def eb (p : List Tree) : List ((Int × Int) × au) := (bv p).foldl (ew p) []
theorem Gu {p : List Tree} {x : GTarget} (hp : bg p = true) (h : x ∈ bv p) : ∃ (i d : Nat) (t a u : Tree) (q : List Int), p[i]? = some t ∧ t.kids[d]? = some a ∧ x.Use.Module = (i : Int) ∧ x.Use.Path = (d : Int) :: q ∧ atK a q = some u ∧ ny u = true ∧ x = tgK p (i : Int) ((d : Int) :: q) u := by
 unfold bv at h
 rw [if_pos hp] at h
 obtain ⟨j, t, q, u, hj, hq, hu, rfl⟩ := wt.1 h
 rw [Nat.zero_add]
 have hat := nodK_at t t [] rfl _ hq
 simp only at hat
 obtain ⟨hk, _⟩ := iv hp hj
 cases q with
 | nil =>
  simp only [atK, Option.some.injEq] at hat
  subst hat
  simp [ny, hk] at hu
 | cons z q =>
  simp only [atK] at hat
  split at hat
  ·cases hat
  ·rename_i hz
   cases ha : t.kids[z.toNat]? with
   | none => rw [ha] at hat; cases hat
   | some a =>
    rw [ha] at hat
    have e : ((z.toNat : Nat) : Int) = z := by omega
    exact ⟨j, z.toNat, t, a, u, q, hj, ha, rfl, by rw [e]; rfl, hat, hu, by rw [e]⟩
theorem sk {p : List Tree} {x : GTarget} {i d : Nat} {t a : Tree} {q : List Int} (l : List ((Int × Int) × au)) (h1 : p[i]? = some t) (h2 : t.kids[d]? = some a) (h3 : x.Use.Module = (i : Int)) (h4 : x.Use.Path = (d : Int) :: q) : ew p l x = if x.Free = false ∧ a.kind = 3 then mput ((i : Int), (d : Int)) (au.mk x.Module x.Def) l else l := by
 unfold ew Jc
 rw [h3, h4]
 simp only [List.getD_cons_zero, Int.toNat_natCast, h1, h2, beq_iff_eq, Bool.and_eq_true, Bool.not_eq_true']
theorem xn {p : List Tree} (hp : bg p = true) : ∀ (T : List GTarget) (l : List ((Int × Int) × au)), (∀ x ∈ T, x ∈ bv p) → (∀ k v, mlook k l = some v → ec p k = some (v.module, v.def_)) → ∀ k v, mlook k (T.foldl (ew p) l) = some v → ec p k = some (v.module, v.def_)
 | [], l, _, hl, k, v, h => hl k v h
 | x :: T, l, hT, hl, k, v, h => by
  refine xn hp T (ew p l x) (fun y hy => hT y (by simp [hy])) (fun k v hkv => ?_) k v h
  obtain ⟨i, d, t, a, u, q, h1, h2, h3, h4, h5, h6, h7⟩ := Gu hp (hT x (by simp))
  rw [sk l h1 h2 h3 h4] at hkv
  split at hkv
  ·rename_i hc
   rw [fY] at hkv
   split at hkv
   ·rename_i hk
    simp only [Option.some.injEq] at hkv
    subst hkv hk
    obtain ⟨b, hb, hty⟩ := tK hp h1 h2 hc.2
    have hlf : u = leafK b := by
     cases q with
     | nil =>
      simp only [atK, Option.some.injEq] at h5
      subst h5
      have := hc.2
      simp [ny, this] at h6
     | cons z q =>
      simp only [atK, hb] at h5
      split at h5
      ·cases h5
      ·cases hz : z.toNat with
       | zero =>
        rw [hz] at h5
        simp only [List.getElem?_cons_zero] at h5
        exact GB b hty q u h5 h6
       | succ n => rw [hz] at h5; simp at h5
    have hal := tf h1 h2 hb
    have hk9 : (leafK b).kind = 9 := by
     obtain ⟨g1, g2, _⟩ := pj b hty
     have := g1.2
     simp only [hJ, Bool.and_eq_true, decide_eq_true_eq] at this
     rw [hlf] at h6
     simp only [ny, Bool.or_eq_true, beq_iff_eq] at h6
     omega
    have hfr := hc.1
    rw [h7] at hfr ⊢
    simp only [tgK, Bool.not_eq_false'] at hfr ⊢
    rw [By h1 h2 hc.2, hal, ← hlf, if_pos ⟨by rw [hlf]; exact hk9, hfr⟩]
   ·exact hl k v hkv
  ·exact hl k v hkv
theorem zh {p : List Tree} (k : Int × Int) : ∀ (T : List GTarget) (l : List ((Int × Int) × au)), mlook k l ≠ none → mlook k (T.foldl (ew p) l) ≠ none
 | [], l, h => h
 | x :: T, l, h => by
  refine zh k T (ew p l x) ?_
  unfold ew
  split
  ·rw [fY]
   split
   ·simp
   ·exact h
  ·exact h
theorem Ar {p : List Tree} {k : Int × Int} {x : GTarget} (hx : ∀ l, mlook k (ew p l x) ≠ none) : ∀ (T : List GTarget) (l : List ((Int × Int) × au)), x ∈ T → mlook k (T.foldl (ew p) l) ≠ none
 | [], l, h => by cases h
 | y :: T, l, h => by
  rcases List.mem_cons.1 h with rfl | h
  ·exact zh k T _ (hx l)
  ·exact Ar hx T _ h
theorem yb {p : List Tree} (hp : bg p = true) (k : Int × Int) : (mlook k (eb p)).map (fun v => (v.module, v.def_)) = ec p k := by
 have hs := xn hp (bv p) [] (fun _ h => h) (fun k v h => by cases h) k
 cases hm : mlook k (eb p) with
 | some v => rw [hs v hm]; rfl
 | none =>
  rw [Option.map_none]
  cases hn : ec p k with
  | none => rfl
  | some v =>
   exfalso
   have hn' := hn
   unfold ec at hn
   split at hn
   ·rename_i h0
    cases h1 : p[k.1.toNat]? with
    | none => rw [h1] at hn; cases hn
    | some t =>
     cases h2 : t.kids[k.2.toNat]? with
     | none => rw [h1] at hn; simp only [h2] at hn; cases hn
     | some a =>
      rw [h1] at hn
      simp only [h2] at hn
      split at hn
      ·rename_i hc
       obtain ⟨b, hb, hty⟩ := tK hp h1 h2 hc.1
       have e1 : ((k.1.toNat : Nat) : Int) = k.1 := by omega
       have e2 : ((k.2.toNat : Nat) : Int) = k.2 := by omega
       have hal := tf h1 h2 hb
       rw [e1, e2] at hal
       rw [hal] at hc
       obtain ⟨q, hq⟩ := KA b hty
       have hat : atK t (k.2 :: 0 :: q) = some (leafK b) := by
        simp [atK, h2, hb, hq, show ¬ k.2 < 0 by omega]
       have hx : tgK p k.1 (k.2 :: 0 :: q) (leafK b) ∈ bv p := by
        unfold bv
        rw [if_pos hp]
        exact wt.2 ⟨k.1.toNat, t, _, _, h1, by simpa using Ad _ (q := []) hat, by simp [ny, hc.2.1], by rw [Nat.zero_add, e1]⟩
       refine Ar (k := k) (fun l => ?_) (bv p) [] hx hm
       rw [sk (i := k.1.toNat) (d := k.2.toNat) (q := 0 :: q) l h1 h2 (by rw [e1]; rfl) (by rw [e2]; rfl), if_pos ⟨by simp [tgK, hc.2.2], hc.1⟩, fY, if_pos (by rw [e1, e2])]
       simp
      ·cases hn
   ·cases hn
def gk {α : Type} (f : α → Nat) : List α → Nat
 | [] => 0
 | x :: r => f x + gk f r
theorem Bd {α : Type} (f : α → Nat) : ∀ a b : List α, gk f (a ++ b) = gk f a + gk f b
 | [], b => by simp [gk]
 | x :: a, b => by simp only [List.cons_append, gk, Bd f a b]; omega
theorem xT {α : Type} [BEq α] [LawfulBEq α] (f : α → Nat) {x : α} : ∀ {m : List α}, x ∈ m → gk f m = f x + gk f (m.erase x)
 | [], h => by cases h
 | y :: m, h => by
  rw [List.erase_cons]
  split
  ·rename_i e
   rw [eq_of_beq e]; rfl
  ·rename_i e
   rcases List.mem_cons.1 h with rfl | h
   ·simp at e
   ·simp only [gk, xT f h]; omega
theorem AV {α : Type} [BEq α] [LawfulBEq α] (f : α → Nat) : ∀ (l m : List α), l.Nodup → (∀ x ∈ l, x ∈ m) → gk f l ≤ gk f m
 | [], m, _, _ => Nat.zero_le _
 | x :: l, m, hn, hs => by
  obtain ⟨h1, h2⟩ := List.nodup_cons.1 hn
  rw [xT f (hs x (by simp)), gk]
  have := AV f l (m.erase x) h2 fun y hy => (List.mem_erase_of_ne (fun (e : y = x) => h1 (by rw [← e]; exact hy))).2 (hs y (by simp [hy]))
  omega
def qe (p : List Tree) (k : Int × Int) : Nat := lisK (lK p k.1 k.2)
theorem EQ {P : List Tree} {j : Nat} {t : Tree} (h : P[j]? = some t) : gk (qe P) (rg j t.kids) ≤ kbulk t.kids := by
 have go : ∀ (l : List Tree) (k : Nat), t.kids.drop k = l → gk (qe P) ((List.range' k l.length).map fun (d : Nat) => ((j : Int), (d : Int))) ≤ kbulk l := fun l => by
  induction l with
  | nil => intro k _; exact Nat.zero_le _
  | cons x r ih =>
   intro k hk
   have hx : t.kids[k]? = some x := by
    have : (t.kids.drop k)[0]? = some x := by rw [hk]; rfl
    simpa using this
   have hr : t.kids.drop (k + 1) = r := by
    have : (t.kids.drop k).drop 1 = r := by rw [hk]; rfl
    simpa [List.drop_drop] using this
   have := ih (k + 1) hr
   simp only [List.length_cons, List.range'_succ, List.map_cons, gk, kbulk]
   have e : qe P ((j : Int), (k : Int)) ≤ tbulk x := by
    unfold qe lK
    simp only [Int.toNat_natCast, h, hx]
    cases hxk : x.kids with
    | nil =>
     have : lisK pC = 0 := by unfold pC; rw [lisK, if_neg (by decide)]
     simp only [this]; omega
    | cons b _ =>
     simp only []
     have := (oe b).2
     have := aK (t := x) (i := 0) (u := b) (by rw [hxk]; rfl)
     omega
   omega
 have := go t.kids 0 rfl
 unfold rg
 rw [List.range_eq_range']
 exact this
theorem BG (P : List Tree) : ∀ (j : Nat) (r : List Tree), (∀ i, P[j + i]? = r[i]?) → gk (qe P) (dG j r) ≤ kbulk r
 | j, [], _ => Nat.zero_le _
 | j, t :: r, h => by
  have h0 : P[j]? = some t := by have := h 0; simpa using this
  have := EQ h0
  have := BG P (j + 1) r fun i => by have := h (i + 1); rw [show j + 1 + i = j + (i + 1) by omega]; simpa using this
  have := aW t
  simp only [dG, Bd, kbulk]
  omega
theorem wF {p : List Tree} {l : List (Int × Int)} (h : lI p l) : gk (qe p) l ≤ kbulk p := Nat.le_trans (AV _ _ _ h.1 h.2) (BG p 0 p (fun i => by simp))
theorem wE (t : Tree) : ∀ n, eW n (.node 8 [] [] [t]) = .node 8 [] [] [eW n t]
 | 0 => rfl
 | n + 1 => by simp only [eW, wE t n]
theorem yg {t : Tree} (ht : tyK t) (hb : tbulk t ≤ 1000000000) : nc t (leafK t) (lisK t) := by
 have loop : ∀ t, tyK t → ∀ i, i + tbulk t ≤ 2000000000 → lY (lisK t + 1) t i (leafK t) ((i + lisK t : Nat) : Int) := cy fun t ih h i hi => by
  rcases pd h with ⟨h8, _, u, hu, hty⟩ | ⟨h8, hk, _⟩
  ·obtain ⟨e1, e2⟩ := oY h8 hu
   have h0 : t.kids[0]? = some u := by rw [hu]; rfl
   have := aK h0
   rw [e1, e2]
   refine sa _ _ _ _ _ ⟨fun _ => ⟨u, h0, by omega, ?_⟩, fun h => absurd h8 h⟩
   rw [show i + (lisK u + 1) = i + 1 + lisK u by omega]
   exact ih 0 u h0 hty (i + 1) (by omega)
  ·obtain ⟨e1, e2⟩ := ir h8
   rw [e1, e2]
   exact sa _ _ _ _ _ ⟨fun h => absurd h h8, fun _ => ⟨rfl, rfl⟩⟩
 have := loop t ht 0 (by omega)
 rw [Nat.zero_add] at this
 exact yv _ _ _ _ this
theorem jY (p : List Tree) (hp : kbulk p ≤ 1000000000) : kZ p (bg p) := by
 have hl := gI p
 have loop : ∀ m i, p.length - i ≤ m → kf (m + 1) p i (bg (p.drop i)) := fun m => by
  induction m with
  | zero =>
   intro i hi
   refine qp 0 _ _ _ ⟨fun h => by omega, fun h => ?_⟩
   rw [List.drop_of_length_le (by omega), bg]
  | succ m ihm =>
   intro i hi
   refine qp (m + 1) _ _ _ ⟨fun h => ?_, fun h => ?_⟩
   ·obtain ⟨u, hu, _⟩ | h' := bb p i
    ·rw [bk hu, bg]
     have := ct hu
     refine ⟨u, hu, fun h1 => by simp [h1], fun h1 => ⟨_, po u (by omega), fun h2 => by simp [h1, h2], fun h2 => ⟨by omega, ?_⟩⟩⟩
     simp only [h1, h2, beq_self_eq_true, Bool.true_and]
     exact ihm (i + 1) (by omega)
    ·exact absurd h h'
   ·rw [List.drop_of_length_le (by omega), bg]
 exact wv _ _ _ (loop p.length 0 (by omega))
theorem zr (p : List Tree) : (bv p).length ≤ kbulk p := by
 unfold bv; split
 ·exact zn p 0 p
 ·exact Nat.zero_le _
theorem yZ {p : List Tree} (hp : bg p = true) (hb : kbulk p ≤ 100000000) : lj p (eb p) := by
 have hl := zr p
 have hu : ∀ x ∈ bv p, _ := fun x hx => Gu hp hx
 obtain ⟨T, hT⟩ : ∃ T, T = bv p := ⟨_, rfl⟩
 have loop : ∀ m i l, T.length - i ≤ m → fp (m + 1) p T l i ((T.drop i).foldl (ew p) l) := fun m => by
  induction m with
  | zero =>
   intro i l hi
   refine qr 0 _ _ _ _ _ ⟨fun h => by omega, fun h => ?_⟩
   rw [List.drop_of_length_le (by omega)]; rfl
  | succ m ihm =>
   intro i l hi
   refine qr (m + 1) _ _ _ _ _ ⟨fun h => ?_, fun h => ?_⟩
   ·obtain ⟨x, hx, _⟩ | h' := bb T i
    ·rw [bk hx, List.foldl_cons]
     obtain ⟨j, d, t, a, u, q, h1, h2, h3, h4, h5, h6, h7⟩ := hu x (hT ▸ List.mem_of_getElem? hx)
     have hs := sk l h1 h2 h3 h4
     rw [← hT] at hl
     refine ⟨x, hx, (d : Int), by rw [h4]; rfl, fun hf => ⟨j, h3, t, h1, d, rfl, a, h2, fun h3' => ⟨by omega, ?_⟩, fun h3' => ⟨by omega, ?_⟩⟩, fun hf => ⟨by omega, ?_⟩⟩
     ·have := ihm (i + 1) (ew p l x) (by omega)
      rw [hs, if_pos ⟨hf, h3'⟩] at this ⊢
      rw [h3]; exact this
     ·have := ihm (i + 1) (ew p l x) (by omega)
      rw [hs, if_neg (fun hc => h3' hc.2)] at this ⊢
      exact this
     ·have := ihm (i + 1) (ew p l x) (by omega)
      rw [hs, if_neg (fun hc => by rw [hf] at hc; cases hc.1)] at this ⊢
      exact this
    ·exact absurd h h'
   ·rw [List.drop_of_length_le (by omega)]; rfl
 refine wk (T.length + 1) _ _ ⟨T, hT ▸ zo p hb, ?_⟩
 have := loop T.length 0 [] (by omega)
 rw [List.drop_zero, hT] at this
 rw [hT]
 exact this
theorem Fe {p : List Tree} {M : Int} {w : List UInt8} (hp : bg p = true) (h0 : 0 ≤ M) (h1 : M < p.length) (hb : kbulk p ≤ 100000000) (hw : w.length ≤ 1000000000) : qc p M w (bd p M w).1 (bd p M w).2.1 (bd p M w).2.2 :=
 rS_link_Lookup 0 _ _ _ _ _ _ ⟨_, zk p (by omega), fun h => (by rw [hp] at h; cases h), fun h => ⟨_, _, _, Ao h0 h1 (by omega) hw, rfl, rfl, rfl⟩⟩
theorem BX : ∀ (k : Nat) (z : Int) (ks : List Tree) (i : Nat), i + k ≤ 1000000000 → iG (k + 1) z ks i ((i + k : Nat) : Int) (eW k (.node z [] [] ks)) 0
 | 0, z, ks, i, h => qU 0 _ _ _ _ _ _ ⟨fun h => by omega, fun _ => ⟨rfl, rfl⟩⟩
 | k + 1, z, ks, i, h => by
  have := BX k 8 [.node z [] [] ks] (i + 1) (by omega)
  rw [wE, show i + 1 + k = i + (k + 1) by omega] at this
  exact qU (k + 1) _ _ _ _ _ _ ⟨fun _ => ⟨by omega, this⟩, fun h => by omega⟩
theorem xe {seen : List (Int × Int)} {l : List ((Int × Int) × Bool)} (h : ∀ k, mlook k l = if k ∈ seen then some true else none) (a : Int × Int) : ∀ k, mlook k (mput a true l) = if k ∈ a :: seen then some true else none := fun k => by
 rw [fY, h k]
 by_cases e : k = a
 ·rw [if_pos e, if_pos (by simp [e])]
 ·rw [if_neg e]
  by_cases e2 : k ∈ seen
  ·rw [if_pos e2, if_pos (by simp [e2])]
  ·rw [if_neg e2, if_neg (by simp [e, e2])]
theorem pG {p : List Tree} {seen : List (Int × Int)} {i d : Nat} {t a : Tree} (h : lI p seen) (h1 : p[i]? = some t) (h2 : t.kids[d]? = some a) (h3 : ((i : Int), (d : Int)) ∉ seen) : lI p (((i : Int), (d : Int)) :: seen) :=
 ⟨List.nodup_cons.2 ⟨h3, h.1⟩, fun x hx => by
  rcases List.mem_cons.1 hx with rfl | hx
  ·have := rR (j := 0) h1 h2; simpa using this
  ·exact h.2 x hx⟩
theorem IL {p : List Tree} (hp : bg p = true) (hb : kbulk p ≤ 10000000) : ∀ (f : Nat) (seen : List (Int × Int)) (n : Nat) (M : Int) (u : Tree) (b : Bool) (a1 a2 : Int) (l : List ((Int × Int) × Bool)), lI p seen → kbulk p + 1 ≤ f + seen.length → tyK u → u.kind ≠ 8 → n ≤ 10000000 + gk (qe p) seen → (∀ k, mlook k l = if k ∈ seen then some true else none) → (u.kind = 9 → b = (bd p M u.text).2.2 ∧ (b = true → a1 = (bd p M u.text).1 ∧ a2 = (bd p M u.text).2.1)) → ∃ m, ds m p (eb p) u n b a1 a2 l (gM p f seen n M u).1 (gM p f seen n M u).2
 | 0, seen, n, M, u, b, a1, a2, l, hs, hf, _, _, _, _, _ => by
  have := wP hs; omega
 | f + 1, seen, n, M, u, b, a1, a2, l, hs, hf, hu, h8, hn, hl, hq => by
  have hss := wF hs
  by_cases h9 : u.kind = 9
  ·obtain ⟨q1, q2⟩ := hq h9
   rw [gM, if_pos h9]
   by_cases hfd : (bd p M u.text).2.2 = false
   ·rw [if_pos hfd]
    rw [hfd] at q1
    exact ⟨1, kl 0 _ _ _ _ _ _ _ _ _ _ ⟨fun _ => ⟨fun _ => ⟨rfl, rfl⟩, fun h => (by rw [q1] at h; cases h)⟩, fun h => absurd h9 h⟩⟩
   ·rw [if_neg hfd]
    have hfd' : (bd p M u.text).2.2 = true := by simpa using hfd
    rw [hfd'] at q1
    obtain ⟨e1, e2⟩ := q2 q1
    subst q1
    obtain ⟨i, d, t, a, b', g1, g2, g3, g4, g5, g6, g7⟩ := tC hp h9 hu.1 hfd'
    rw [g1] at e1 ⊢
    rw [g2] at e2 ⊢
    subst e1 e2
    by_cases hm : ((i : Int), (d : Int)) ∈ seen
    ·rw [if_pos hm]
     have hlk := hl ((i : Int), (d : Int))
     rw [if_pos hm] at hlk
     exact ⟨1, kl 0 _ _ _ _ _ _ _ _ _ _ ⟨fun _ => ⟨fun h => (by cases h), fun _ => ⟨fun h => (by rw [hlk] at h; cases h), fun d1 h => ⟨fun _ => ⟨rfl, rfl⟩, fun h' => (by rw [hlk] at h; cases h; cases h')⟩⟩⟩, fun h => absurd h9 h⟩⟩
    ·rw [if_neg hm]
     have hlk := hl ((i : Int), (d : Int))
     rw [if_neg hm] at hlk
     have hal := tf g3 g4 g6
     rw [hal]
     obtain ⟨t1, t2, _⟩ := pj b' g7
     have hs' := pG hs g3 g4 hm
     have hl' := xe hl ((i : Int), (d : Int))
     have hsum : gk (qe p) (((i : Int), (d : Int)) :: seen) = lisK b' + gk (qe p) seen := by simp only [gk, qe, hal]
     have hss' := wF hs'
     have hbb : tbulk b' ≤ 1000000000 := by
      have := ct g3
      have := aK g4
      have := aK (t := a) (i := 0) (u := b') (by rw [g6]; rfl)
      omega
     have hlo := yb hp ((i : Int), (d : Int))
     rw [By g3 g4 g5, hal] at hlo
     have step : ∀ m, ((mlook ((i : Int), (d : Int)) (eb p) = none) → ds m p (eb p) (leafK b') ((n : Int) + (lisK b' : Nat)) false 0 0 (mput ((i : Int), (d : Int)) true l) (gM p f (((i : Int), (d : Int)) :: seen) (n + lisK b') i (leafK b')).1 (gM p f (((i : Int), (d : Int)) :: seen) (n + lisK b') i (leafK b')).2) ∧ (∀ (d3 : au), mlook ((i : Int), (d : Int)) (eb p) = some d3 → ds m p (eb p) (leafK b') ((n : Int) + (lisK b' : Nat)) true d3.module d3.def_ (mput ((i : Int), (d : Int)) true l) (gM p f (((i : Int), (d : Int)) :: seen) (n + lisK b') i (leafK b')).1 (gM p f (((i : Int), (d : Int)) :: seen) (n + lisK b') i (leafK b')).2) → ∃ m, ds m p (eb p) u n true i d l (gM p f (((i : Int), (d : Int)) :: seen) (n + lisK b') i (leafK b')).1 (gM p f (((i : Int), (d : Int)) :: seen) (n + lisK b') i (leafK b')).2 := fun m hk => by
      have h2 : lc (m + 1) p (eb p) u n i d l (gM p f (((i : Int), (d : Int)) :: seen) (n + lisK b') i (leafK b')).1 (gM p f (((i : Int), (d : Int)) :: seen) (n + lisK b') i (leafK b')).2 :=
       rL2_types_Expand m _ _ _ _ _ _ _ _ _ ⟨i, rfl, t, g3, d, rfl, a, g4, b', by rw [g6]; rfl, leafK b', _, yg g7 hbb, by unfold InI; omega, hk.1, hk.2⟩
      exact ⟨m + 2, kl (m + 1) _ _ _ _ _ _ _ _ _ _ ⟨fun _ => ⟨fun h => (by cases h), fun _ => ⟨fun _ => h2, fun d1 h => ⟨fun _ => (by rw [hlk] at h; cases h), fun _ => (by rw [hlk] at h; cases h)⟩⟩⟩, fun h => absurd h9 h⟩⟩
     have ih := fun (b : Bool) (a1 a2 : Int) => IL hp hb f (((i : Int), (d : Int)) :: seen) (n + lisK b') i (leafK b') b a1 a2 _ hs' (by simp only [List.length_cons]; omega) t1 t2 (by omega) hl'
     rw [show (n : Int) + ((lisK b' : Nat) : Int) = ((n + lisK b' : Nat) : Int) by omega] at step
     cases hmm : mlook ((i : Int), (d : Int)) (eb p) with
     | none =>
      rw [hmm] at hlo
      obtain ⟨m, hm⟩ := ih false 0 0 (fun h9' => ⟨(by
       cases hx : (bd p (i : Int) (leafK b').text).2.2 with
       | false => rfl
       | true => (rw [if_pos ⟨h9', hx⟩] at hlo; cases hlo)), fun h => (by cases h)⟩)
      rw [hmm] at step
      exact step m ⟨fun _ => hm, fun d3 h => (by cases h)⟩
     | some v =>
      rw [hmm] at hlo
      simp only [Option.map_some] at hlo
      split at hlo
      ·rename_i hc
       simp only [Option.some.injEq, Prod.mk.injEq] at hlo
       obtain ⟨m, hm⟩ := ih true v.module v.def_ (fun _ => ⟨hc.2.symm, fun _ => hlo⟩)
       rw [hmm] at step
       exact step m ⟨fun h => (by cases h), fun d3 h => (by cases h; exact hm)⟩
      ·cases hlo
  ·rw [gM, if_neg h9]
   have := BX n u.kind [] 0 (by omega)
   rw [Nat.zero_add] at this
   exact ⟨n + 2, kl (n + 1) _ _ _ _ _ _ _ _ _ _ ⟨fun h => absurd h h9, fun _ => this⟩⟩
def lr (p : List Tree) (M : Int) (t : Tree) : Tree × Int := if bg p = true ∧ 0 ≤ M ∧ M < p.length ∧ hJ t.kind = true ∧ shapeK t = true then gM p (kbulk p + 1) [] (lisK t) M (leafK t) else (pC, 5)
theorem In {p : List Tree} (hb : kbulk p ≤ 10000000) (M : Int) {t : Tree} (ht : tbulk t ≤ 10000000) : pc p M t (lr p M t).1 (lr p M t).2 := by
 by_cases hG : bg p = true ∧ 0 ≤ M ∧ M < p.length ∧ hJ t.kind = true ∧ shapeK t = true
 ·have hty : tyK t := ⟨hG.2.2.2.2, hG.2.2.2.1⟩
  have hk : 5 ≤ t.kind ∧ t.kind ≤ 9 := by simpa [hJ] using hG.2.2.2.1
  obtain ⟨t1, t2, _⟩ := pj t hty
  obtain ⟨b1, b2⟩ := oe t
  have hlx := cv (leafK t)
  rw [lr, if_pos hG]
  have hnd : lI p [] := ⟨List.nodup_nil, fun x h => (by cases h)⟩
  by_cases h9 : (leafK t).kind = 9
  ·obtain ⟨m, hm⟩ := IL hG.1 hb (kbulk p + 1) [] (lisK t) M (leafK t) (bd p M (leafK t).text).2.2 (bd p M (leafK t).text).1 (bd p M (leafK t).text).2.1 [] hnd (by simp) t1 t2 (by omega) (fun k => by simp [mlook]) (fun _ => ⟨rfl, fun _ => ⟨rfl, rfl⟩⟩)
   exact oh m _ _ _ _ _ ⟨_, jY p (by omega), fun h => (by rw [hG.1] at h; cases h), fun _ => ⟨fun h => by omega, fun _ => ⟨fun h => by omega, fun _ => ⟨fun h => by omega, fun _ => ⟨fun h => by omega, fun _ => ⟨_, po t (by omega), fun h => (by rw [hG.2.2.2.2] at h; cases h), fun _ => ⟨leafK t, _, yg hty (by omega), fun _ => ⟨_, _, _, Fe hG.1 hG.2.1 hG.2.2.1 (by omega) (by omega), _, yZ hG.1 (by omega), hm⟩, fun h => absurd h9 h⟩⟩⟩⟩⟩⟩⟩
  ·have := BX (lisK t) (leafK t).kind [] 0 (by omega)
   rw [Nat.zero_add] at this
   rw [gM, if_neg h9]
   exact oh (lisK t + 1) _ _ _ _ _ ⟨_, jY p (by omega), fun h => (by rw [hG.1] at h; cases h), fun _ => ⟨fun h => by omega, fun _ => ⟨fun h => by omega, fun _ => ⟨fun h => by omega, fun _ => ⟨fun h => by omega, fun _ => ⟨_, po t (by omega), fun h => (by rw [hG.2.2.2.2] at h; cases h), fun _ => ⟨leafK t, _, yg hty (by omega), fun h => absurd h h9, fun _ => this⟩⟩⟩⟩⟩⟩⟩
 ·rw [lr, if_neg hG]
  refine oh 0 _ _ _ _ _ ⟨_, jY p (by omega), fun _ => ⟨rfl, rfl⟩, fun h1 => ⟨fun _ => ⟨rfl, rfl⟩, fun h2 => ⟨fun _ => ⟨rfl, rfl⟩, fun h3 => ⟨fun _ => ⟨rfl, rfl⟩, fun h4 => ⟨fun _ => ⟨rfl, rfl⟩, fun h5 => ⟨_, po t (by omega), fun _ => ⟨rfl, rfl⟩, fun h6 => absurd ⟨h1, by omega, by omega, ?_, h6⟩ hG⟩⟩⟩⟩⟩⟩
  simp [hJ]; omega
def jh (p : List Tree) (s : Int × Int) : Nat → List (Int × Int) → Option (Int × Int) → Bool
 | 0, _, _ => false
 | _ + 1, _, none => false
 | f + 1, seen, some a => if a = s then true else if a ∈ seen then false else jh p s f (a :: seen) (ec p a)
theorem ve {p : List Tree} {k a : Int × Int} (h : ec p k = some a) : ∃ (i d : Nat) (t x : Tree), a = ((i : Int), (d : Int)) ∧ p[i]? = some t ∧ t.kids[d]? = some x := by
 unfold ec at h
 split at h
 ·split at h
  ·cases h
  ·split at h
   ·cases h
   ·split at h
    ·rename_i hc
     simp only [Option.some.injEq] at h
     obtain ⟨i, d, t, u, a1, a2, a3, a4⟩ := Io hc.2.2
     exact ⟨i, d, t, u, by rw [← h, a1, a2], a3, a4⟩
    ·cases h
 ·cases h
theorem Gv {p : List Tree} (hp : bg p = true) (hb : kbulk p ≤ 10000000) (s1 s2 : Int) : ∀ (f : Nat) (seen : List (Int × Int)) (k : Int × Int) (b : Bool) (a1 a2 : Int) (l : List ((Int × Int) × Bool)), lI p seen → kbulk p + 1 ≤ f + seen.length → (s1, s2) ∉ seen → (∀ k, mlook k l = if k ∈ seen then some true else none) → (if b then some (a1, a2) else none) = ec p k → ∃ m, bI m s1 s2 (eb p) a1 a2 b l (jh p (s1, s2) f seen (ec p k))
 | 0, seen, k, b, a1, a2, l, hs, hf, _, _, _ => by
  have := wP hs; omega
 | f + 1, seen, k, b, a1, a2, l, hs, hf, hns, hl, hq => by
  cases b with
  | false =>
   simp at hq
   rw [← hq, jh]
   exact ⟨1, iD 0 _ _ _ _ _ _ _ _ ⟨fun h => (by cases h), fun _ => rfl⟩⟩
  | true =>
   simp at hq
   obtain ⟨i, d, t, x, e, g3, g4⟩ := ve hq.symm
   cases e
   rw [← hq, jh]
   have hlk := hl ((i : Int), (d : Int))
   by_cases hm : ((i : Int), (d : Int)) ∈ seen
   ·rw [if_pos hm] at hlk
    rw [if_neg (fun (e : ((i : Int), (d : Int)) = (s1, s2)) => hns (by rw [← e]; exact hm)), if_pos hm]
    exact ⟨1, iD 0 _ _ _ _ _ _ _ _ ⟨fun _ => ⟨fun h => (by rw [hlk] at h; cases h), fun d1 h => ⟨fun h' => (by rw [hlk] at h; cases h; cases h'), fun _ => rfl⟩⟩, fun h => (by cases h)⟩⟩
   ·rw [if_neg hm] at hlk
    by_cases hst : ((i : Int), (d : Int)) = (s1, s2)
    ·rw [if_pos hst]
     have h1 : jg 1 s1 s2 (eb p) i d l true := pQ 0 _ _ _ _ _ _ _ ⟨fun _ => rfl, fun h => absurd (Prod.mk.inj hst) h⟩
     exact ⟨2, iD 1 _ _ _ _ _ _ _ _ ⟨fun _ => ⟨fun _ => h1, fun d1 h => (by rw [hlk] at h; cases h)⟩, fun h => (by cases h)⟩⟩
    ·rw [if_neg hst, if_neg hm]
     have hst' : ¬ ((i : Int) = s1 ∧ (d : Int) = s2) := fun h => hst (by rw [h.1, h.2])
     have hs' := pG hs g3 g4 hm
     have hl' := xe hl ((i : Int), (d : Int))
     have hlo := yb hp ((i : Int), (d : Int))
     have ih := fun (b : Bool) (a1 a2 : Int) => Gv hp hb s1 s2 f (((i : Int), (d : Int)) :: seen) ((i : Int), (d : Int)) b a1 a2 _ hs' (by simp only [List.length_cons]; omega) (fun h => by
      rcases List.mem_cons.1 h with h | h
      ·exact hst h.symm
      ·exact hns h) hl'
     have fin : ∀ m, ((mlook ((i : Int), (d : Int)) (eb p) = none) → bI m s1 s2 (eb p) 0 0 false (mput ((i : Int), (d : Int)) true l) (jh p (s1, s2) f (((i : Int), (d : Int)) :: seen) (ec p ((i : Int), (d : Int))))) ∧ (∀ (d2 : au), mlook ((i : Int), (d : Int)) (eb p) = some d2 → bI m s1 s2 (eb p) d2.module d2.def_ true (mput ((i : Int), (d : Int)) true l) (jh p (s1, s2) f (((i : Int), (d : Int)) :: seen) (ec p ((i : Int), (d : Int))))) → ∃ m, bI m s1 s2 (eb p) i d true l (jh p (s1, s2) f (((i : Int), (d : Int)) :: seen) (ec p ((i : Int), (d : Int)))) := fun m hk =>
      ⟨m + 2, iD (m + 1) _ _ _ _ _ _ _ _ ⟨fun _ => ⟨fun _ => pQ m _ _ _ _ _ _ _ ⟨fun h => absurd h hst', fun _ => hk⟩, fun d1 h => (by rw [hlk] at h; cases h)⟩, fun h => (by cases h)⟩⟩
     cases hmm : mlook ((i : Int), (d : Int)) (eb p) with
     | none =>
      rw [hmm] at hlo fin
      obtain ⟨m, hm⟩ := ih false 0 0 (by rw [← hlo]; rfl)
      exact fin m ⟨fun _ => hm, fun d3 h => (by cases h)⟩
     | some v =>
      rw [hmm] at hlo fin
      obtain ⟨m, hm⟩ := ih true v.module v.def_ (by rw [← hlo]; rfl)
      exact fin m ⟨fun h => (by cases h), fun d3 h => (by cases h; exact hm)⟩
def ox (p : List Tree) (M D : Int) : Bool := if bg p = true ∧ 0 ≤ M ∧ 0 ≤ D then jh p (M, D) (kbulk p + 1) [] (ec p (M, D)) else false
theorem Cn {p : List Tree} (hb : kbulk p ≤ 10000000) (M D : Int) : km p M D (ox p M D) := by
 have nn : (∀ t x, 0 ≤ M → 0 ≤ D → p[M.toNat]? = some t → t.kids[D.toNat]? = some x → False) → ox p M D = false := fun h => by
  unfold ox
  split
  ·rename_i hc
   have : ec p (M, D) = none := by
    unfold ec
    rw [if_pos ⟨hc.2.1, hc.2.2⟩]
    split
    ·rfl
    ·rename_i t ht
     split
     ·rfl
     ·rename_i x hx
      exact (h t x hc.2.1 hc.2.2 ht hx).elim
   rw [this, jh]
  ·rfl
 have hlen := fun (t : Tree) (ht : p[M.toNat]? = some t) => (List.getElem?_eq_some_iff.1 ht).1
 by_cases hp : bg p = true
 ·by_cases h0 : M < 0
  ·rw [nn fun _ _ h _ _ _ => by omega]
   exact rS_types_Circular 0 _ _ _ _ ⟨_, jY p (by omega), fun _ => rfl, fun _ => ⟨fun _ => rfl, fun h => absurd h0 h⟩⟩
  by_cases h1 : ((p.length : Nat) : Int) ≤ M
  ·rw [nn fun t _ _ _ ht _ => by have := hlen t ht; omega]
   exact rS_types_Circular 0 _ _ _ _ ⟨_, jY p (by omega), fun _ => rfl, fun _ => ⟨fun _ => rfl, fun _ => ⟨fun _ => rfl, fun h => absurd h1 h⟩⟩⟩
  by_cases h2 : D < 0
  ·rw [nn fun _ _ _ h _ _ => by omega]
   exact rS_types_Circular 0 _ _ _ _ ⟨_, jY p (by omega), fun _ => rfl, fun _ => ⟨fun _ => rfl, fun _ => ⟨fun _ => rfl, fun _ => ⟨fun _ => rfl, fun h => absurd h2 h⟩⟩⟩⟩
  obtain ⟨t, ht, _⟩ | h' := bb p M.toNat
  ·by_cases h3 : ((t.kids.length : Nat) : Int) ≤ D
   ·rw [nn fun t' x _ _ ht' hx => by
     rw [ht] at ht'; cases ht'
     have := (List.getElem?_eq_some_iff.1 hx).1
     omega]
    exact rS_types_Circular 0 _ _ _ _ ⟨_, jY p (by omega), fun _ => rfl, fun _ => ⟨fun _ => rfl, fun _ => ⟨fun _ => rfl, fun _ => ⟨fun _ => rfl, fun _ => ⟨M.toNat, by omega, t, ht, fun _ => rfl, fun h => absurd h3 h⟩⟩⟩⟩⟩
   ·rw [ox, if_pos ⟨hp, by omega, by omega⟩]
    have hlo := yb hp (M, D)
    have hc := fun (b : Bool) (a1 a2 : Int) => Gv hp hb M D (kbulk p + 1) [] (M, D) b a1 a2 [] ⟨List.nodup_nil, fun x h => (by cases h)⟩ (by simp) (by simp) (fun k => by simp [mlook])
    have fin : ∀ m, ((mlook (M, D) (eb p) = none) → bI m M D (eb p) 0 0 false [] (jh p (M, D) (kbulk p + 1) [] (ec p (M, D)))) ∧ (∀ (d2 : au), mlook (M, D) (eb p) = some d2 → bI m M D (eb p) d2.module d2.def_ true [] (jh p (M, D) (kbulk p + 1) [] (ec p (M, D)))) → km p M D (jh p (M, D) (kbulk p + 1) [] (ec p (M, D))) := fun m hk =>
     rS_types_Circular m _ _ _ _ ⟨_, jY p (by omega), fun h => (by rw [hp] at h; cases h), fun _ => ⟨fun h => absurd h h0, fun _ => ⟨fun h => absurd h h1, fun _ => ⟨fun h => absurd h h2, fun _ => ⟨M.toNat, by omega, t, ht, fun h => absurd h h3, fun _ => ⟨_, yZ hp (by omega), hk⟩⟩⟩⟩⟩⟩
    cases hmm : mlook (M, D) (eb p) with
    | none =>
     rw [hmm] at hlo fin
     obtain ⟨m, hm⟩ := hc false 0 0 (by rw [← hlo]; rfl)
     exact fin m ⟨fun _ => hm, fun d3 h => (by cases h)⟩
    | some v =>
     rw [hmm] at hlo fin
     obtain ⟨m, hm⟩ := hc true v.module v.def_ (by rw [← hlo]; rfl)
     exact fin m ⟨fun h => (by cases h), fun d3 h => (by cases h; exact hm)⟩
  ·omega
 ·have hp' : bg p = false := by simpa using hp
  rw [ox, if_neg (fun h => hp h.1)]
  exact rS_types_Circular 0 _ _ _ _ ⟨_, jY p (by omega), fun _ => rfl, fun h => absurd h hp⟩
def iJ (p0 r0 : Tree) : Prop := qS 19 [.agg (ak p0)] (.agg (ak r0))
def hO (m : Nat) (p0 : Tree) (a : List Tree) (b : Nat) (r0 : Tree) : Prop := ∀ (K : Ctx) (j1 : Nat), av K [] → m ≤ j1 → qLG K Tryz.f19 (fun u _ => u = .agg (ak r0)) (xI (ah Tryz.f19)) [.loop (xI (ah Tryz.f19)) j1, .blk 0, .seq (xH (ah Tryz.f19))] 29 (mkF 29 0 [(1, .box (ak p0) 0), (2, .ptr 0 0), (3, .ptr 1 0), (4, .int .i64 (b : Int))]) ⟨3, [(2, .row 29 4 (kidsV a)), (1, .var 29 [.int .i64 p0.kind, .str p0.text, .nils, .sl 2]), (0, vD 0 [])]⟩
theorem uw (m : Nat) (p0 r0 : Tree) (h : hO m p0 ([] : List Tree) 0 r0) : iJ p0 r0 := by
 refine ⟨rfl, rfl, ?_⟩
 refine qA 29 [] Tryz.func19 fun K hK => ?_
 exact gR 3 rfl <| gFP 0 rfl rfl rfl rfl <| gR 21 rfl <| go_loop m <| gNC 2 3 29 4 rfl rfl rfl rfl <| qJ hK (h K _ hK (by omega)) [1, 2, 3]
theorem oL (m : Nat) (p0 : Tree) (a : List Tree) (c : Nat) (r0 : Tree) (h : ((c < p0.kids.length) → ∃ d, p0.kids[c]? = some d ∧ ∃ b, iJ d b ∧ (a ++ [b]).length ≤ 1000000000 ∧ hO m p0 (a ++ [b]) (c + 1) r0) ∧ ((¬ c < p0.kids.length) → (Tree.node p0.kind p0.text [] a) = r0)) : hO (m + 1) p0 a c r0 := by
 refine qj fun K j1 hK i => ?_
 refine gR 7 rfl <| gV 13 (.int .i64 (p0.kids.length : Int)) rfl (aP (aD _)) rfl <| gLB 12 rfl (aD _) fun f => gR 3 rfl <| qXh 14 rfl rfl rfl h cF cC ?_ ?_ <;> intro hd h
 refine gR 5 rfl <| qDs [1] 11 12 <| qDr [(0, 2), (1, 3), (2, 2), (3, 2), (4, 0)] rfl rfl ?_
 obtain ⟨d, e, h⟩ := h
 refine bS 5 rfl (by kernel_rfl) (aH (aw e) ai rfl rfl rfl rfl) rfl rfl ?_
 refine qDr [(6, 0)] rfl rfl ?_
 obtain ⟨b, g, h⟩ := h
 refine bN 7 g (by kernel_rfl) rfl (by kernel_rfl) rfl rfl .rfl rfl rfl ?_
 refine qDr [(8, 0)] rfl rfl <| gHR 3 (kidsV [b]) rfl (kL b) rfl ?_
 obtain ⟨hb, h⟩ := h
 refine ba 9 (.repl 2 (.row 29 4 (kidsV (a ++ [b])))) rfl (by kernel_rfl) (bJ ai rfl rfl rfl rfl rfl (gy a [b]).symm (by rw [aD]; exact hb)) (okR rfl) rfl (by kernel_rfl) rfl rfl ?_
 exact qDr [(10, 0), (11, 1)] rfl rfl <| qDe <| gR 5 rfl <| gV 16 (.int .i64 ((c + 1 : Nat) : Int)) rfl (al (by have := f; omega) (by omega)) rfl <| gR 2 rfl <| go_xloop <| qJ hK (h K _ hK (by omega)) [0, 1, 4]
 refine gR 3 rfl <| go_xloopE <| gR 9 rfl <| gFR 2 rfl (cq _) rfl rfl ?_
 subst h
 exact go_sub (F' := (mkF 29 0 [(2, .ptr 0 0)])) (H' := ⟨1, [(0, vC ((Tree.node p0.kind p0.text [] a).kind) ((Tree.node p0.kind p0.text [] a).text) ((Tree.node p0.kind p0.text [] a).leads) ((Tree.node p0.kind p0.text [] a).kids))]⟩) [0] [] rfl hK pq1 ⟨⟨_, rfl, rfl, (.cons .rfl (.cons .rfl (.cons (.nil 1) (.cons .rfl .nil))))⟩, trivial⟩ rfl <| qN [.cell 2 29]
theorem Mh : ∀ t : Tree, tbulk t ≤ 1000000000 → iJ t (bareK t) := cy fun t ih hb => by
 have hk := bM t
 have loop : ∀ m i l, t.kids.length - i ≤ m → l.length = i → i ≤ t.kids.length → hO (m + 1) t l i (.node t.kind t.text [] (l ++ baresK (t.kids.drop i))) := fun m => by
  induction m with
  | zero =>
   intro i l hi hl hle
   refine oL 0 _ _ _ _ ⟨fun h => by omega, fun h => ?_⟩
   rw [List.drop_of_length_le (by omega), baresK, List.append_nil]
  | succ m ihm =>
   intro i l hi hl hle
   refine oL (m + 1) _ _ _ _ ⟨fun h => ?_, fun h => ?_⟩
   ·obtain ⟨u, hu, _⟩ | h' := bb t.kids i
    ·have := aK hu
     rw [bk hu, baresK]
     refine ⟨u, hu, _, ih i u hu (by omega), by simp; omega, ?_⟩
     have := ihm (i + 1) (l ++ [bareK u]) (by omega) (by simp [hl]) (by omega)
     rw [List.append_assoc] at this
     exact this
    ·exact absurd h h'
   ·rw [List.drop_of_length_le (by omega), baresK, List.append_nil]
 have := loop t.kids.length 0 [] (by omega) rfl (by omega)
 rw [List.nil_append, List.drop_zero, ← nA] at this
 exact uw _ _ _ this
def DH (B : Nat) (x : Tree × Int) : Prop := ∃ (n : Nat) (k : Int), x.1 = eW n (.node k [] [] []) ∧ k ≠ 8 ∧ k ≠ 9 ∧ (x.2 = 0 → 5 ≤ k ∧ k ≤ 7) ∧ n ≤ B
theorem Dx {B : Nat} {e : Int} (he : e ≠ 0) : DH B (pC, e) := ⟨0, 0, rfl, by decide, by decide, fun h => absurd h he, Nat.zero_le _⟩
theorem yN {p : List Tree} (hp : bg p = true) {B : Nat} : ∀ (f : Nat) (seen : List (Int × Int)) (n : Nat) (M : Int) (u : Tree), lI p seen → kbulk p + 1 ≤ f + seen.length → tyK u → u.kind ≠ 8 → n ≤ B + gk (qe p) seen → DH (B + kbulk p) (gM p f seen n M u)
 | 0, seen, n, M, u, hs, hf, _, _, _ => by
  have := wP hs; omega
 | f + 1, seen, n, M, u, hs, hf, hu, h8, hn => by
  have hss := wF hs
  by_cases h9 : u.kind = 9
  ·rw [gM, if_pos h9]
   by_cases hfd : (bd p M u.text).2.2 = false
   ·rw [if_pos hfd]
    exact Dx (by decide)
   ·rw [if_neg hfd]
    have hfd' : (bd p M u.text).2.2 = true := by simpa using hfd
    obtain ⟨i, d, t, a, b', g1, g2, g3, g4, g5, g6, g7⟩ := tC hp h9 hu.1 hfd'
    rw [g1, g2]
    by_cases hm : ((i : Int), (d : Int)) ∈ seen
    ·rw [if_pos hm]
     exact Dx (by decide)
    ·rw [if_neg hm]
     have hal := tf g3 g4 g6
     rw [hal]
     obtain ⟨t1, t2, _⟩ := pj b' g7
     exact yN hp f (((i : Int), (d : Int)) :: seen) (n + lisK b') i (leafK b') (pG hs g3 g4 hm) (by simp only [List.length_cons]; omega) t1 t2 (by simp only [gk, qe, hal]; omega)
  ·rw [gM, if_neg h9]
   have := hu.2
   have hk : 5 ≤ u.kind ∧ u.kind ≤ 9 := by simpa [hJ] using hu.2
   exact ⟨n, u.kind, rfl, h8, h9, fun _ => by omega, by omega⟩
theorem IF (p : List Tree) (M : Int) (t : Tree) : DH (tbulk t + kbulk p) (lr p M t) := by
 unfold lr
 split
 ·rename_i hG
  obtain ⟨t1, t2, _⟩ := pj t ⟨hG.2.2.2.2, hG.2.2.2.1⟩
  obtain ⟨b1, b2⟩ := oe t
  exact yN hG.1 _ _ _ _ _ ⟨List.nodup_nil, fun x h => by cases h⟩ (by simp) t1 t2 (by simp only [gk]; omega)
 ·exact Dx (by decide)
end Go.Proofs.YtomplbgchbfjpaaGreatDoor
