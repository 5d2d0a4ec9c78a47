/- Contracts of the functions that the law reaches, part 4. -/
import Derived.Test.YtgpcdfbmbcognaaGreatTa3
set_option linter.unusedVariables false
set_option linter.unusedSimpArgs false
namespace Go.Proofs.YtgpcdfbmbcognaaGreat
open Go.RowKit Lx
set_option maxRecDepth 100000
theorem wP (at0 : Nat) (t : Nat × Nat × Nat) : ∃ a b c d : Int, jx at0 t = .agg #[.int .i64 a, .int .i64 b, .int .i64 c, .int .i64 d] := by
 unfold jx; split <;> exact ⟨_, _, _, _, rfl⟩
abbrev sZ : Obj := .cells #[.int .i64 0, .int .i64 0, .int .i64 0, .int .i64 0] 106
set_option maxHeartbeats 4000000 in
theorem Bt (l : List UInt8) (x : Int) (k : Nat) (hxk : x = k) (w : World) (hlt : k < l.length) (hl : l.length ≤ 281474976710656) : Calls Tryz.prog 99 #[.string ⟨l.toArray⟩, .int .i64 x] w (ox k (tokenT (l.drop k)) w) := by
 subst hxk
 obtain ⟨T, hT⟩ : ∃ T, tokenT (l.drop k) = T := ⟨_, rfl⟩
 rw [hT]
 have h0 : 0 < (l.drop k).length := by simp; omega
 obtain ⟨c, hc⟩ : ∃ c, ({ data := l.toArray } : ByteArray)[k]'hlt = c := ⟨_, rfl⟩
 have HC := Lib.hid (show l[k] = c from hc)
 have HC0 := Lib.hid (show (l.drop k)[0] = c from by rw [List.getElem_drop]; exact hc)
 have HT := Lib.hid ((pG h0 HC0.out).symm.trans hT)
 clear hT
 go_enter Tryz.func99, Tryz.ntmps99
 cases ha : ay c
 ·skip
  have HW := Lib.hid (show T = (0, 0, 1) from by rw [← HT.out, if_pos ha])
  go_wp2_with (first | (go_at_call 104; refine qmm (aW _ _) ?_) | (go_at_call 105; refine qmm (bE _ _) ?_) | (go_at_call 106; refine qmm (cg _ _) ?_) | (go_at_call 107; refine qmm (bI _ _) ?_) | (go_at_call 108; refine qmm (aS _ _) ?_) | (go_at_call 110; refine qmm (dv _ _ k rfl _ hlt hl) ?_))
  exact bodyPost_ret (v := .agg #[.int .i64 0, .int .i64 0, .int .i64 1, .int .i64 k]) (by simp [results, Tryz.results99, go_sem]) rfl (bY HW.out (by omega) (by omega) (by omega) (by repeat (first | exact Ext.refl _ | apply Ext.alloc | (refine Ext.setCell ?_ (Nat.le_refl _) _))))
 have HA := Lib.hid (show ¬ ay c = false from by simp [ha])
 cases h34 : ((c.toNat : Int) == 34)
 rotate_left
 ·have h34' := bU (m := 34) h34
  have HT2 := Lib.hid (show T = (6, quotedT (l.drop (k + 1)) 1) from by
   rw [← HT.out, if_neg HA.out, if_neg (by simp [aN, bN, upperB, h34']), if_neg (by simp [aL, h34']), if_pos h34', List.tail_drop])
  clear h34'
  go_wp2_with (first | (go_at_call 104; refine qmm (aW _ _) ?_) | (go_at_call 105; refine qmm (bE _ _) ?_) | (go_at_call 106; refine qmm (cg _ _) ?_) | (go_at_call 107; refine qmm (bI _ _) ?_) | (go_at_call 108; refine qmm (aS _ _) ?_) | (go_at_call 110; refine qmm (dv _ _ k rfl _ hlt hl) ?_))
  go_loopg [6] (l.length - (k + 1)) (fun g n wx => ∃ i : Nat, g = l.length - i ∧ wx = w.alloc sZ ∧ k + 1 ≤ i ∧ i ≤ l.length ∧ n = .int .i64 i ∧ Hid (quotedT (l.drop (k + 1)) 1 = quotedT (l.drop i) (i - k)))
  case atStart => exact ⟨k + 1, rfl, rfl, Nat.le_refl _, by omega, by go_num, Lib.hid (by congr 1; omega)⟩
  case round =>
   obtain ⟨i, rfl, rfl, hki, hil, rfl, hrel⟩ := hrel
   by_cases hit : i < l.length
   ·skip
    obtain ⟨d, hd⟩ : ∃ c, ({ data := l.toArray } : ByteArray)[i]'hit = c := ⟨_, rfl⟩
    have HD := Lib.hid (show l[i] = d from hd)
    have HS := Lib.hid (yi (j := i - k) hit HD.out)
    cases hq : ((d.toNat : Int) == 34)
    rotate_left
    ·have HW := Lib.hid (show T = (6, i - k + 1, 0) from by rw [HT2.out, hrel.out, HS.out, if_neg (by simp [tG (bU (m := 34) hq)]), if_pos (bU (m := 34) hq)])
     go_wp2_with (first | (go_at_call 104; refine qmm (aW _ _) ?_) | (go_at_call 105; refine qmm (bE _ _) ?_) | (go_at_call 106; refine qmm (cg _ _) ?_) | (go_at_call 107; refine qmm (bI _ _) ?_) | (go_at_call 108; refine qmm (aS _ _) ?_) | (go_at_call 110; refine qmm (dv _ _ k rfl _ hlt hl) ?_))
     exact bodyPost_ret (v := .agg #[.int .i64 ((i : Int) + 1 - k), .int .i64 6, .int .i64 0, .int .i64 0]) (by simp [results, Tryz.results99, go_sem]) rfl (eL HW.out (by omega) (by omega) (by repeat (first | exact Ext.refl _ | apply Ext.alloc | (refine Ext.setCell ?_ (Nat.le_refl _) _))))
    cases had : ay d
    ·have HW := Lib.hid (show T = (6, i - k, 1) from by rw [HT2.out, hrel.out, HS.out, if_pos had])
     go_wp2_with (first | (go_at_call 104; refine qmm (aW _ _) ?_) | (go_at_call 105; refine qmm (bE _ _) ?_) | (go_at_call 106; refine qmm (cg _ _) ?_) | (go_at_call 107; refine qmm (bI _ _) ?_) | (go_at_call 108; refine qmm (aS _ _) ?_) | (go_at_call 110; refine qmm (dv _ _ k rfl _ hlt hl) ?_))
     exact bodyPost_ret (v := .agg #[.int .i64 0, .int .i64 0, .int .i64 1, .int .i64 i]) (by simp [results, Tryz.results99, go_sem]) rfl (bY HW.out (by omega) (by omega) (by omega) (by repeat (first | exact Ext.refl _ | apply Ext.alloc | (refine Ext.setCell ?_ (Nat.le_refl _) _))))
    cases hpr : cv d
    ·have HW := Lib.hid (show T = (6, 0, 2) from by rw [HT2.out, hrel.out, HS.out, if_neg (by simp [had]), if_neg (bx (m := 34) hq), if_pos (.inr (xb had hpr))])
     go_wp2_with (first | (go_at_call 104; refine qmm (aW _ _) ?_) | (go_at_call 105; refine qmm (bE _ _) ?_) | (go_at_call 106; refine qmm (cg _ _) ?_) | (go_at_call 107; refine qmm (bI _ _) ?_) | (go_at_call 108; refine qmm (aS _ _) ?_) | (go_at_call 110; refine qmm (dv _ _ k rfl _ hlt hl) ?_))
     exact bodyPost_ret (v := .agg #[.int .i64 0, .int .i64 0, .int .i64 2, .int .i64 k]) (by simp [results, Tryz.results99, go_sem]) rfl (bY HW.out (by omega) (by omega) (by omega) (by repeat (first | exact Ext.refl _ | apply Ext.alloc | (refine Ext.setCell ?_ (Nat.le_refl _) _))))
    cases h92 : ((d.toNat : Int) == 92)
    rotate_left
    ·have HW := Lib.hid (show T = (6, 0, 2) from by rw [HT2.out, hrel.out, HS.out, if_neg (by simp [had]), if_neg (bx (m := 34) hq), if_pos (.inl (bU (m := 92) h92))])
     go_wp2_with (first | (go_at_call 104; refine qmm (aW _ _) ?_) | (go_at_call 105; refine qmm (bE _ _) ?_) | (go_at_call 106; refine qmm (cg _ _) ?_) | (go_at_call 107; refine qmm (bI _ _) ?_) | (go_at_call 108; refine qmm (aS _ _) ?_) | (go_at_call 110; refine qmm (dv _ _ k rfl _ hlt hl) ?_))
     exact bodyPost_ret (v := .agg #[.int .i64 0, .int .i64 0, .int .i64 2, .int .i64 k]) (by simp [results, Tryz.results99, go_sem]) rfl (bY HW.out (by omega) (by omega) (by omega) (by repeat (first | exact Ext.refl _ | apply Ext.alloc | (refine Ext.setCell ?_ (Nat.le_refl _) _))))
    ·go_wp2_with (first | (go_at_call 104; refine qmm (aW _ _) ?_) | (go_at_call 105; refine qmm (bE _ _) ?_) | (go_at_call 106; refine qmm (cg _ _) ?_) | (go_at_call 107; refine qmm (bI _ _) ?_) | (go_at_call 108; refine qmm (aS _ _) ?_) | (go_at_call 110; refine qmm (dv _ _ k rfl _ hlt hl) ?_))
     go_roundg (l.length - (i + 1))
     case measure => omega
     case rel => exact ⟨i + 1, rfl, rfl, by omega, by omega, by go_num, Lib.hid (by rw [hrel.out, HS.out, if_neg (by simp [had]), if_neg (bx (m := 34) hq), if_neg (fun h => h.elim (bx (m := 92) h92) (xg hpr))]; congr 1; omega)⟩
   ·have HW := Lib.hid (show T = (6, 0, 2) from by rw [HT2.out, hrel.out, sq (by omega)])
    go_wp2_with (first | (go_at_call 104; refine qmm (aW _ _) ?_) | (go_at_call 105; refine qmm (bE _ _) ?_) | (go_at_call 106; refine qmm (cg _ _) ?_) | (go_at_call 107; refine qmm (bI _ _) ?_) | (go_at_call 108; refine qmm (aS _ _) ?_) | (go_at_call 110; refine qmm (dv _ _ k rfl _ hlt hl) ?_))
    exact bodyPost_ret (v := .agg #[.int .i64 0, .int .i64 0, .int .i64 2, .int .i64 k]) (by simp [results, Tryz.results99, go_sem]) rfl (bY HW.out (by omega) (by omega) (by omega) (by repeat (first | exact Ext.refl _ | apply Ext.alloc | (refine Ext.setCell ?_ (Nat.le_refl _) _))))
 cases hdg : aL c
 rotate_left
 ·have HT2 := Lib.hid (show T = (5, bF (l.drop k)) from by
   rw [← HT.out, if_neg HA.out, if_neg (by simp [aN, bN, upperB, aL] at hdg ⊢; omega), if_pos hdg])
  go_wp2_with (first | (go_at_call 104; refine qmm (aW _ _) ?_) | (go_at_call 105; refine qmm (bE _ _) ?_) | (go_at_call 106; refine qmm (cg _ _) ?_) | (go_at_call 107; refine qmm (bI _ _) ?_) | (go_at_call 108; refine qmm (aS _ _) ?_) | (go_at_call 110; refine qmm (dv _ _ k rfl _ hlt hl) ?_))
  go_loopg [7] (l.length - k) (fun g n wx => ∃ i : Nat, g = l.length - i ∧ wx = w.alloc sZ ∧ k ≤ i ∧ i ≤ l.length ∧ n = .int .i64 i ∧ Hid (spanN aL (l.drop k) = i - k + spanN aL (l.drop i)))
  case atStart => exact ⟨k, rfl, rfl, Nat.le_refl _, by omega, rfl, Lib.hid (by omega)⟩
  case round =>
   obtain ⟨i, rfl, rfl, hki, hil, rfl, hrel⟩ := hrel
   by_cases hit : i < l.length
   ·skip
    obtain ⟨d, hd⟩ : ∃ c, ({ data := l.toArray } : ByteArray)[i]'hit = c := ⟨_, rfl⟩
    have HD := Lib.hid (show l[i] = d from hd)
    cases hdd : aL d
    ·skip
     have HN := Lib.hid (show spanN aL (l.drop k) = i - k from by rw [hrel.out, lZ hit HD.out hdd]; omega)
     by_cases h1 : 1 < i - k
     ·have h1' : (1 : Int) < i - k := by omega
      cases h48 : ((c.toNat : Int) == 48)
      ·have HG := Lib.hid (show 1 < i - k → ¬ ((l.drop k).getD 0 0).toNat = 48 from fun _ => by rw [aE h0 HC0.out]; exact bx (m := 48) h48)
       by_cases h15 : 15 < i - k
       ·have h15' : (15 : Int) < i - k := by omega
        have HW := Lib.hid (show T = (5, 0, 3) from by rw [HT2.out, kq HN.out HG.out h15])
        go_wp2_with (first | (go_at_call 104; refine qmm (aW _ _) ?_) | (go_at_call 105; refine qmm (bE _ _) ?_) | (go_at_call 106; refine qmm (cg _ _) ?_) | (go_at_call 107; refine qmm (bI _ _) ?_) | (go_at_call 108; refine qmm (aS _ _) ?_) | (go_at_call 110; refine qmm (dv _ _ k rfl _ hlt hl) ?_))
        exact bodyPost_ret (v := .agg #[.int .i64 0, .int .i64 0, .int .i64 3, .int .i64 k]) (by simp [results, Tryz.results99, go_sem]) rfl (bY HW.out (by omega) (by omega) (by omega) (by repeat (first | exact Ext.refl _ | apply Ext.alloc | (refine Ext.setCell ?_ (Nat.le_refl _) _))))
       ·have h15' : ¬ ((15 : Int) < i - k) := by omega
        have HW := Lib.hid (show T = (5, i - k, 0) from by rw [HT2.out, fw HN.out HG.out h15])
        go_wp2_with (first | (go_at_call 104; refine qmm (aW _ _) ?_) | (go_at_call 105; refine qmm (bE _ _) ?_) | (go_at_call 106; refine qmm (cg _ _) ?_) | (go_at_call 107; refine qmm (bI _ _) ?_) | (go_at_call 108; refine qmm (aS _ _) ?_) | (go_at_call 110; refine qmm (dv _ _ k rfl _ hlt hl) ?_))
        exact bodyPost_ret (v := .agg #[.int .i64 ((i : Int) - k), .int .i64 5, .int .i64 0, .int .i64 0]) (by simp [results, Tryz.results99, go_sem]) rfl (eL HW.out (by omega) (by omega) (by repeat (first | exact Ext.refl _ | apply Ext.alloc | (refine Ext.setCell ?_ (Nat.le_refl _) _))))
      ·skip
       have HW := Lib.hid (show T = (5, 0, 2) from by rw [HT2.out, kI HN.out h1 h0 HC0.out h48])
       go_wp2_with (first | (go_at_call 104; refine qmm (aW _ _) ?_) | (go_at_call 105; refine qmm (bE _ _) ?_) | (go_at_call 106; refine qmm (cg _ _) ?_) | (go_at_call 107; refine qmm (bI _ _) ?_) | (go_at_call 108; refine qmm (aS _ _) ?_) | (go_at_call 110; refine qmm (dv _ _ k rfl _ hlt hl) ?_))
       exact bodyPost_ret (v := .agg #[.int .i64 0, .int .i64 0, .int .i64 2, .int .i64 k]) (by simp [results, Tryz.results99, go_sem]) rfl (bY HW.out (by omega) (by omega) (by omega) (by repeat (first | exact Ext.refl _ | apply Ext.alloc | (refine Ext.setCell ?_ (Nat.le_refl _) _))))
     ·have h1' : ¬ ((1 : Int) < i - k) := by omega
      have h15' : ¬ ((15 : Int) < i - k) := by omega
      have HW := Lib.hid (show T = (5, i - k, 0) from by rw [HT2.out, fw HN.out (fun h => absurd h h1) (by omega)])
      go_wp2_with (first | (go_at_call 104; refine qmm (aW _ _) ?_) | (go_at_call 105; refine qmm (bE _ _) ?_) | (go_at_call 106; refine qmm (cg _ _) ?_) | (go_at_call 107; refine qmm (bI _ _) ?_) | (go_at_call 108; refine qmm (aS _ _) ?_) | (go_at_call 110; refine qmm (dv _ _ k rfl _ hlt hl) ?_))
      exact bodyPost_ret (v := .agg #[.int .i64 ((i : Int) - k), .int .i64 5, .int .i64 0, .int .i64 0]) (by simp [results, Tryz.results99, go_sem]) rfl (eL HW.out (by omega) (by omega) (by repeat (first | exact Ext.refl _ | apply Ext.alloc | (refine Ext.setCell ?_ (Nat.le_refl _) _))))
    ·go_wp2_with (first | (go_at_call 104; refine qmm (aW _ _) ?_) | (go_at_call 105; refine qmm (bE _ _) ?_) | (go_at_call 106; refine qmm (cg _ _) ?_) | (go_at_call 107; refine qmm (bI _ _) ?_) | (go_at_call 108; refine qmm (aS _ _) ?_) | (go_at_call 110; refine qmm (dv _ _ k rfl _ hlt hl) ?_))
     go_roundg (l.length - (i + 1))
     case measure => omega
     case rel => exact ⟨i + 1, rfl, rfl, by omega, by omega, by go_num, Lib.hid (by rw [hrel.out, iN hit HD.out hdd]; omega)⟩
   ·skip
    have HN := Lib.hid (show spanN aL (l.drop k) = i - k from by rw [hrel.out, mX (by omega)]; omega)
    by_cases h1 : 1 < i - k
    ·have h1' : (1 : Int) < i - k := by omega
     cases h48 : ((c.toNat : Int) == 48)
     ·have HG := Lib.hid (show 1 < i - k → ¬ ((l.drop k).getD 0 0).toNat = 48 from fun _ => by rw [aE h0 HC0.out]; exact bx (m := 48) h48)
      by_cases h15 : 15 < i - k
      ·have h15' : (15 : Int) < i - k := by omega
       have HW := Lib.hid (show T = (5, 0, 3) from by rw [HT2.out, kq HN.out HG.out h15])
       go_wp2_with (first | (go_at_call 104; refine qmm (aW _ _) ?_) | (go_at_call 105; refine qmm (bE _ _) ?_) | (go_at_call 106; refine qmm (cg _ _) ?_) | (go_at_call 107; refine qmm (bI _ _) ?_) | (go_at_call 108; refine qmm (aS _ _) ?_) | (go_at_call 110; refine qmm (dv _ _ k rfl _ hlt hl) ?_))
       exact bodyPost_ret (v := .agg #[.int .i64 0, .int .i64 0, .int .i64 3, .int .i64 k]) (by simp [results, Tryz.results99, go_sem]) rfl (bY HW.out (by omega) (by omega) (by omega) (by repeat (first | exact Ext.refl _ | apply Ext.alloc | (refine Ext.setCell ?_ (Nat.le_refl _) _))))
      ·have h15' : ¬ ((15 : Int) < i - k) := by omega
       have HW := Lib.hid (show T = (5, i - k, 0) from by rw [HT2.out, fw HN.out HG.out h15])
       go_wp2_with (first | (go_at_call 104; refine qmm (aW _ _) ?_) | (go_at_call 105; refine qmm (bE _ _) ?_) | (go_at_call 106; refine qmm (cg _ _) ?_) | (go_at_call 107; refine qmm (bI _ _) ?_) | (go_at_call 108; refine qmm (aS _ _) ?_) | (go_at_call 110; refine qmm (dv _ _ k rfl _ hlt hl) ?_))
       exact bodyPost_ret (v := .agg #[.int .i64 ((i : Int) - k), .int .i64 5, .int .i64 0, .int .i64 0]) (by simp [results, Tryz.results99, go_sem]) rfl (eL HW.out (by omega) (by omega) (by repeat (first | exact Ext.refl _ | apply Ext.alloc | (refine Ext.setCell ?_ (Nat.le_refl _) _))))
     ·skip
      have HW := Lib.hid (show T = (5, 0, 2) from by rw [HT2.out, kI HN.out h1 h0 HC0.out h48])
      go_wp2_with (first | (go_at_call 104; refine qmm (aW _ _) ?_) | (go_at_call 105; refine qmm (bE _ _) ?_) | (go_at_call 106; refine qmm (cg _ _) ?_) | (go_at_call 107; refine qmm (bI _ _) ?_) | (go_at_call 108; refine qmm (aS _ _) ?_) | (go_at_call 110; refine qmm (dv _ _ k rfl _ hlt hl) ?_))
      exact bodyPost_ret (v := .agg #[.int .i64 0, .int .i64 0, .int .i64 2, .int .i64 k]) (by simp [results, Tryz.results99, go_sem]) rfl (bY HW.out (by omega) (by omega) (by omega) (by repeat (first | exact Ext.refl _ | apply Ext.alloc | (refine Ext.setCell ?_ (Nat.le_refl _) _))))
    ·have h1' : ¬ ((1 : Int) < i - k) := by omega
     have h15' : ¬ ((15 : Int) < i - k) := by omega
     have HW := Lib.hid (show T = (5, i - k, 0) from by rw [HT2.out, fw HN.out (fun h => absurd h h1) (by omega)])
     go_wp2_with (first | (go_at_call 104; refine qmm (aW _ _) ?_) | (go_at_call 105; refine qmm (bE _ _) ?_) | (go_at_call 106; refine qmm (cg _ _) ?_) | (go_at_call 107; refine qmm (bI _ _) ?_) | (go_at_call 108; refine qmm (aS _ _) ?_) | (go_at_call 110; refine qmm (dv _ _ k rfl _ hlt hl) ?_))
     exact bodyPost_ret (v := .agg #[.int .i64 ((i : Int) - k), .int .i64 5, .int .i64 0, .int .i64 0]) (by simp [results, Tryz.results99, go_sem]) rfl (eL HW.out (by omega) (by omega) (by repeat (first | exact Ext.refl _ | apply Ext.alloc | (refine Ext.setCell ?_ (Nat.le_refl _) _))))
 have HDg := Lib.hid (show ¬ aL c = true from by simp [hdg])
 have HQt := Lib.hid (bx (m := 34) h34)
 cases hle : aN c
 rotate_left
 ·have HT2 := Lib.hid (show bh (l.drop k) = T from by rw [← HT.out, if_neg HA.out, if_pos hle])
  obtain ⟨a0, a1, a2, a3, hform⟩ := wP k T
  have HF := Lib.hid hform
  have CW := Lib.hid (fun w => CK l k k rfl w hlt (by rw [HC.out]; exact hle) hl)
  clear hform
  have hbe : bN c = true ∨ (bN c = false ∧ upperB c = true) := by cases h : bN c <;> simp_all [aN]
  rcases hbe with hlo | ⟨hlo, hup⟩
  all_goals
   go_wp2_with (first | (go_at_call 104; refine qmm (aW _ _) ?_) | (go_at_call 105; refine qmm (bE _ _) ?_) | (go_at_call 106; refine qmm (cg _ _) ?_) | (go_at_call 107; refine qmm (bI _ _) ?_) | (go_at_call 108; refine qmm (aS _ _) ?_) | (go_at_call 110; refine qmm (dv _ _ k rfl _ hlt hl) ?_))
   refine (CW.out _).mono ?_
   rintro e w1 ⟨rfl, hext⟩
   rw [HT2.out, HF.out]
   have hsz := hext.size
   have hc0 := hext.cell (p := ⟨w.heap.size, 0, none⟩) (by simp)
   have hc1 := hext.cell (p := ⟨w.heap.size, 1, none⟩) (by simp)
   have hc2 := hext.cell (p := ⟨w.heap.size, 2, none⟩) (by simp)
   have hc3 := hext.cell (p := ⟨w.heap.size, 3, none⟩) (by simp)
   have hf0 := hext.frozen (p := ⟨w.heap.size, 0, none⟩) (by simp)
   have hf1 := hext.frozen (p := ⟨w.heap.size, 1, none⟩) (by simp)
   have hf2 := hext.frozen (p := ⟨w.heap.size, 2, none⟩) (by simp)
   have hf3 := hext.frozen (p := ⟨w.heap.size, 3, none⟩) (by simp)
   have HX := Lib.hid hext
   clear hext
   simp at hsz hc0 hc1 hc2 hc3 hf0 hf1 hf2 hf3
   go_wp2_with (first | (go_at_call 104; refine qmm (aW _ _) ?_) | (go_at_call 105; refine qmm (bE _ _) ?_) | (go_at_call 106; refine qmm (cg _ _) ?_) | (go_at_call 107; refine qmm (bI _ _) ?_) | (go_at_call 108; refine qmm (aS _ _) ?_) | (go_at_call 110; refine qmm (dv _ _ k rfl _ hlt hl) ?_))
   exact bodyPost_ret (v := .agg #[.int .i64 a0, .int .i64 a1, .int .i64 a2, .int .i64 a3]) (by simp [results, Tryz.results99, go_sem, hc0, hc1, hc2, hc3]) rfl ⟨by rw [HF.out], (((((Ext.refl w).alloc _).trans HX.out).setCell (Nat.le_refl _) _).setCell (Nat.le_refl _) _).setCell (Nat.le_refl _) _ |>.setCell (Nat.le_refl _) _⟩
 have HLt := Lib.hid (show ¬ aN c = true from by simp [hle])
 have hlo : bN c = false := by cases h : bN c <;> simp_all [aN]
 have hup : upperB c = false := by cases h : upperB c <;> simp_all [aN]
 have HSg := Lib.hid (zY (l.drop k))
 have HG0 := Lib.hid (aE h0 HC0.out)
 have HT2 := Lib.hid (show T = if signLen (l.drop k) = 0 then (0, 0, 2) else (8, signLen (l.drop k), 0) from by
  rw [← HSg.out, HG0.out, ← HT.out, if_neg HA.out, if_neg HLt.out, if_neg HDg.out, if_neg HQt.out])
 obtain ⟨m, hm⟩ : ∃ m, signLen (l.drop k) = m := ⟨_, rfl⟩
 have HM := Lib.hid hm
 by_cases hm0 : m = 0
 ·have HW := Lib.hid (show T = (0, 0, 2) from by rw [HT2.out, HM.out, if_pos hm0])
  subst hm0
  go_wp2_with (first | (go_at_call 104; refine qmm (aW _ _) ?_) | (go_at_call 105; refine qmm (bE _ _) ?_) | (go_at_call 106; refine qmm (cg _ _) ?_) | (go_at_call 107; refine qmm (bI _ _) ?_) | (go_at_call 108; refine qmm (aS _ _) ?_) | (go_at_call 110; refine qmm (dv _ _ k rfl _ hlt hl) ?_))
  exact bodyPost_ret (v := .agg #[.int .i64 0, .int .i64 0, .int .i64 2, .int .i64 k]) (by simp [results, Tryz.results99, go_sem]) rfl (bY HW.out (by omega) (by omega) (by omega) (by repeat (first | exact Ext.refl _ | apply Ext.alloc | (refine Ext.setCell ?_ (Nat.le_refl _) _))))
 ·have HW := Lib.hid (show T = (8, m, 0) from by rw [HT2.out, HM.out, if_neg hm0])
  have hmb : ((m : Int) == 0) = false := by simp; omega
  go_wp2_with (first | (go_at_call 104; refine qmm (aW _ _) ?_) | (go_at_call 105; refine qmm (bE _ _) ?_) | (go_at_call 106; refine qmm (cg _ _) ?_) | (go_at_call 107; refine qmm (bI _ _) ?_) | (go_at_call 108; refine qmm (aS _ _) ?_) | (go_at_call 110; refine qmm (dv _ _ k rfl _ hlt hl) ?_))
  exact bodyPost_ret (v := .agg #[.int .i64 m, .int .i64 8, .int .i64 0, .int .i64 0]) (by simp [results, Tryz.results99, go_sem]) rfl (eL HW.out (by omega) (by omega) (by repeat (first | exact Ext.refl _ | apply Ext.alloc | (refine Ext.setCell ?_ (Nat.le_refl _) _))))
end Go.Proofs.YtgpcdfbmbcognaaGreat
namespace Go.Proofs.YtgpcdfbmbcognaaGreat
open Go.RowKit Lx
set_option maxRecDepth 100000
def ue (c : UInt8) : Int := Lib.indexByte signs c
theorem wa : ∀ (l : List UInt8) (c : UInt8), 0 ≤ Lib.indexByte l c ↔ l.contains c = true
 | [], c => by simp [Lib.indexByte]
 | b :: l, c => by
  have ih := wa l c
  have hg := Lib.indexByte_ge l c
  unfold Lib.indexByte
  by_cases h : b = c
  ·simp [h]
  ·have h' : ¬ c = b := fun e => h e.symm
   simp only [beq_iff_eq, h, if_false, List.contains_cons, h', Bool.or_eq_true, false_or]
   rw [← ih]
   split <;> omega
theorem kW (c : UInt8) : 0 ≤ ue c ↔ signs.contains c = true := wa _ _
theorem iz (c : UInt8) (w : World) : Calls Tryz.prog 38 #[.string ⟨#[40, 41, 91, 93, 58, 44, 61, 43, 45, 42, 60, 63]⟩, .int .u8 (c.toNat : Int)] w fun e w' => e = .returned (.int .i64 (ue c)) ∧ w = w' := by
 refine (wV _ _ w).mono ?_
 rintro e w' ⟨rfl, rfl⟩
 refine ⟨bm ?_, rfl⟩
 have : ((c.toNat : Int)).toNat.toUInt8 = c := by simp
 rw [this]; rfl
set_option maxHeartbeats 4000000 in
theorem yE (l : List UInt8) (w : World) (h0 : 0 < l.length) (hl : l.length ≤ 281474976710656) : Calls Tryz.prog 18 #[.string ⟨l.toArray⟩] w fun e w' => e = .returned (.tuple #[.int .i64 ((tokenT l).1 : Nat), .int .i64 ((tokenT l).2.1 : Nat), .int .i64 ((tokenT l).2.2 : Nat)]) ∧ w = w' := by
 obtain ⟨c0, hc0⟩ : ∃ c, ({ data := l.toArray } : ByteArray)[0]'h0 = c := ⟨_, rfl⟩
 have HC0 := Lib.hid (show l[0] = c0 from hc0)
 have HT := Lib.hid (pG h0 HC0.out)
 go_enter Tryz.func18, Tryz.ntmps18
 cases ha : ay c0
 ·skip
  have HW := Lib.hid (show tokenT l = (0, 0, 1) from by rw [HT.out, if_pos ha])
  go_wp2_with (first | (go_at_call 17; refine qmm (aT _ _) ?_) | (go_at_call 33; refine qmm (bi _ _) ?_) | (go_at_call 35; refine qmm (cG _ _) ?_) | (go_at_call 34; refine qmm (kH _ _ h0 hl) ?_) | (go_at_call 36; refine qmm (gr _ _ hl) ?_) | (go_at_call 37; refine qmm (gx _ _ h0 hl) ?_) | (go_at_call 38; refine qmm (iz _ _) ?_))
  go_ret3
  exact ⟨by rw [HW.out]; rfl, rfl⟩
 have HA := Lib.hid (show ¬ ay c0 = false from by simp [ha])
 cases hle : aN c0
 rotate_left
 ·skip
  have HW := Lib.hid (show tokenT l = bh l from by rw [HT.out, if_neg HA.out, if_pos hle])
  go_wp2_with (first | (go_at_call 17; refine qmm (aT _ _) ?_) | (go_at_call 33; refine qmm (bi _ _) ?_) | (go_at_call 35; refine qmm (cG _ _) ?_) | (go_at_call 34; refine qmm (kH _ _ h0 hl) ?_) | (go_at_call 36; refine qmm (gr _ _ hl) ?_) | (go_at_call 37; refine qmm (gx _ _ h0 hl) ?_) | (go_at_call 38; refine qmm (iz _ _) ?_))
  go_ret3
  exact ⟨by rw [HW.out]; rfl, rfl⟩
 have HL := Lib.hid (show ¬ aN c0 = true from by simp [hle])
 cases hd : aL c0
 rotate_left
 ·skip
  have HW := Lib.hid (show tokenT l = (5, bF l) from by rw [HT.out, if_neg HA.out, if_neg HL.out, if_pos hd])
  go_wp2_with (first | (go_at_call 17; refine qmm (aT _ _) ?_) | (go_at_call 33; refine qmm (bi _ _) ?_) | (go_at_call 35; refine qmm (cG _ _) ?_) | (go_at_call 34; refine qmm (kH _ _ h0 hl) ?_) | (go_at_call 36; refine qmm (gr _ _ hl) ?_) | (go_at_call 37; refine qmm (gx _ _ h0 hl) ?_) | (go_at_call 38; refine qmm (iz _ _) ?_))
  go_ret3
  exact ⟨by rw [HW.out]; rfl, rfl⟩
 have HD := Lib.hid (show ¬ aL c0 = true from by simp [hd])
 cases h34 : ((c0.toNat : Int) == 34)
 rotate_left
 ·skip
  have HW := Lib.hid (show tokenT l = (6, quotedT l.tail 1) from by rw [HT.out, if_neg HA.out, if_neg HL.out, if_neg HD.out, if_pos (bU (m := 34) h34)])
  go_wp2_with (first | (go_at_call 17; refine qmm (aT _ _) ?_) | (go_at_call 33; refine qmm (bi _ _) ?_) | (go_at_call 35; refine qmm (cG _ _) ?_) | (go_at_call 34; refine qmm (kH _ _ h0 hl) ?_) | (go_at_call 36; refine qmm (gr _ _ hl) ?_) | (go_at_call 37; refine qmm (gx _ _ h0 hl) ?_) | (go_at_call 38; refine qmm (iz _ _) ?_))
  go_ret3
  exact ⟨by rw [HW.out]; rfl, rfl⟩
 have HQ := Lib.hid (bx (m := 34) h34)
 cases h61 : ((c0.toNat : Int) == 61)
 ·skip
  have HE := Lib.hid (show ¬ (c0.toNat = 61 ∧ 1 < l.length ∧ (l.getD 1 0).toNat = 61) from fun h => bx (m := 61) h61 h.1)
  by_cases hs : 0 ≤ ue c0
  ·skip
   have HW := Lib.hid (show tokenT l = (8, 1, 0) from by rw [HT.out, if_neg HA.out, if_neg HL.out, if_neg HD.out, if_neg HQ.out, if_neg HE.out, if_pos ((kW c0).1 hs)])
   go_wp2_with (first | (go_at_call 17; refine qmm (aT _ _) ?_) | (go_at_call 33; refine qmm (bi _ _) ?_) | (go_at_call 35; refine qmm (cG _ _) ?_) | (go_at_call 34; refine qmm (kH _ _ h0 hl) ?_) | (go_at_call 36; refine qmm (gr _ _ hl) ?_) | (go_at_call 37; refine qmm (gx _ _ h0 hl) ?_) | (go_at_call 38; refine qmm (iz _ _) ?_))
   go_ret3
   exact ⟨by rw [HW.out]; rfl, rfl⟩
  ·skip
   have HW := Lib.hid (show tokenT l = (0, 0, 2) from by rw [HT.out, if_neg HA.out, if_neg HL.out, if_neg HD.out, if_neg HQ.out, if_neg HE.out, if_neg (fun h => hs ((kW c0).2 h))])
   go_wp2_with (first | (go_at_call 17; refine qmm (aT _ _) ?_) | (go_at_call 33; refine qmm (bi _ _) ?_) | (go_at_call 35; refine qmm (cG _ _) ?_) | (go_at_call 34; refine qmm (kH _ _ h0 hl) ?_) | (go_at_call 36; refine qmm (gr _ _ hl) ?_) | (go_at_call 37; refine qmm (gx _ _ h0 hl) ?_) | (go_at_call 38; refine qmm (iz _ _) ?_))
   go_ret3
   exact ⟨by rw [HW.out]; rfl, rfl⟩
 by_cases h1 : 1 < l.length
 rotate_left
 ·skip
  have HE := Lib.hid (show ¬ (c0.toNat = 61 ∧ 1 < l.length ∧ (l.getD 1 0).toNat = 61) from fun h => h1 h.2.1)
  by_cases hs : 0 ≤ ue c0
  ·skip
   have HW := Lib.hid (show tokenT l = (8, 1, 0) from by rw [HT.out, if_neg HA.out, if_neg HL.out, if_neg HD.out, if_neg HQ.out, if_neg HE.out, if_pos ((kW c0).1 hs)])
   go_wp2_with (first | (go_at_call 17; refine qmm (aT _ _) ?_) | (go_at_call 33; refine qmm (bi _ _) ?_) | (go_at_call 35; refine qmm (cG _ _) ?_) | (go_at_call 34; refine qmm (kH _ _ h0 hl) ?_) | (go_at_call 36; refine qmm (gr _ _ hl) ?_) | (go_at_call 37; refine qmm (gx _ _ h0 hl) ?_) | (go_at_call 38; refine qmm (iz _ _) ?_))
   go_ret3
   exact ⟨by rw [HW.out]; rfl, rfl⟩
  ·skip
   have HW := Lib.hid (show tokenT l = (0, 0, 2) from by rw [HT.out, if_neg HA.out, if_neg HL.out, if_neg HD.out, if_neg HQ.out, if_neg HE.out, if_neg (fun h => hs ((kW c0).2 h))])
   go_wp2_with (first | (go_at_call 17; refine qmm (aT _ _) ?_) | (go_at_call 33; refine qmm (bi _ _) ?_) | (go_at_call 35; refine qmm (cG _ _) ?_) | (go_at_call 34; refine qmm (kH _ _ h0 hl) ?_) | (go_at_call 36; refine qmm (gr _ _ hl) ?_) | (go_at_call 37; refine qmm (gx _ _ h0 hl) ?_) | (go_at_call 38; refine qmm (iz _ _) ?_))
   go_ret3
   exact ⟨by rw [HW.out]; rfl, rfl⟩
 obtain ⟨c1, hc1⟩ : ∃ c, ({ data := l.toArray } : ByteArray)[1]'h1 = c := ⟨_, rfl⟩
 have HC1 := Lib.hid (show l[1] = c1 from hc1)
 cases h62 : ((c1.toNat : Int) == 61)
 ·skip
  have HE := Lib.hid (show ¬ (c0.toNat = 61 ∧ 1 < l.length ∧ (l.getD 1 0).toNat = 61) from fun h => bx (m := 61) h62 (by rw [← aE h1 HC1.out]; exact h.2.2))
  by_cases hs : 0 ≤ ue c0
  ·skip
   have HW := Lib.hid (show tokenT l = (8, 1, 0) from by rw [HT.out, if_neg HA.out, if_neg HL.out, if_neg HD.out, if_neg HQ.out, if_neg HE.out, if_pos ((kW c0).1 hs)])
   go_wp2_with (first | (go_at_call 17; refine qmm (aT _ _) ?_) | (go_at_call 33; refine qmm (bi _ _) ?_) | (go_at_call 35; refine qmm (cG _ _) ?_) | (go_at_call 34; refine qmm (kH _ _ h0 hl) ?_) | (go_at_call 36; refine qmm (gr _ _ hl) ?_) | (go_at_call 37; refine qmm (gx _ _ h0 hl) ?_) | (go_at_call 38; refine qmm (iz _ _) ?_))
   go_ret3
   exact ⟨by rw [HW.out]; rfl, rfl⟩
  ·skip
   have HW := Lib.hid (show tokenT l = (0, 0, 2) from by rw [HT.out, if_neg HA.out, if_neg HL.out, if_neg HD.out, if_neg HQ.out, if_neg HE.out, if_neg (fun h => hs ((kW c0).2 h))])
   go_wp2_with (first | (go_at_call 17; refine qmm (aT _ _) ?_) | (go_at_call 33; refine qmm (bi _ _) ?_) | (go_at_call 35; refine qmm (cG _ _) ?_) | (go_at_call 34; refine qmm (kH _ _ h0 hl) ?_) | (go_at_call 36; refine qmm (gr _ _ hl) ?_) | (go_at_call 37; refine qmm (gx _ _ h0 hl) ?_) | (go_at_call 38; refine qmm (iz _ _) ?_))
   go_ret3
   exact ⟨by rw [HW.out]; rfl, rfl⟩
 ·skip
  have HW := Lib.hid (show tokenT l = (8, 2, 0) from by rw [HT.out, if_neg HA.out, if_neg HL.out, if_neg HD.out, if_neg HQ.out, if_pos ⟨bU (m := 61) h61, h1, by rw [aE h1 HC1.out]; exact bU (m := 61) h62⟩])
  go_wp2_with (first | (go_at_call 17; refine qmm (aT _ _) ?_) | (go_at_call 33; refine qmm (bi _ _) ?_) | (go_at_call 35; refine qmm (cG _ _) ?_) | (go_at_call 34; refine qmm (kH _ _ h0 hl) ?_) | (go_at_call 36; refine qmm (gr _ _ hl) ?_) | (go_at_call 37; refine qmm (gx _ _ h0 hl) ?_) | (go_at_call 38; refine qmm (iz _ _) ?_))
  go_ret3
  exact ⟨by rw [HW.out]; rfl, rfl⟩
end Go.Proofs.YtgpcdfbmbcognaaGreat
namespace Go.Proofs.YtgpcdfbmbcognaaGreat
open Go.RowKit Lx
set_option maxRecDepth 100000
def bj (l : List TokZ) : List Value := l.flatMap fun t => [.int .i64 t.kind, .string ⟨t.lead.toArray⟩, .string ⟨t.text.toArray⟩]
def nX (w : World) (v : Value) (l : List TokZ) : Prop := ∃ A c, v = .slice A l.length c ∧ l.length ≤ c ∧ c ≤ maxLen ∧ Row w 3 A l.length (bj l)
def ScanPost (l : List UInt8) (w : World) (e : Ending) (w' : World) : Prop :=
 ∃ v, e = .returned (.tuple #[v, .string ⟨(scan l).tail.toArray⟩, .int .i64 ((scan l).place : Nat), .int .i64 ((scan l).err : Nat)]) ∧ nX w' v (scan l).toks ∧ Ext w w'
theorem wq : (Tryz.prog.info? 37).map (fun i => (i.zero, i.size, i.bytes)) = some (some (.agg #[.int .i64 0, .string ByteArray.empty, .string ByteArray.empty]), 3, 40) := by kernel_rfl
theorem oZ (l : List TokZ) (t : TokZ) : bj (l ++ [t]) = bj l ++ [.int .i64 t.kind, .string ⟨t.lead.toArray⟩, .string ⟨t.text.toArray⟩] := by simp [bj]
theorem zf {w : World} {base : Nat} {v : Value} {l : List TokZ} (h : w.ownsRow base 37 3 v l.length (bj l)) : nX w v l := by
 obtain ⟨A, c, rfl, hc, hm⟩ := sU h
 exact ⟨A, c, rfl, hc, hm, Row.of_own h⟩
theorem og (w : World) : nX w (.slice none 0 0) [] := ⟨none, 0, rfl, Nat.le_refl _, Nat.zero_le _, Row.none_⟩
theorem vA {l : List UInt8} {w w' : World} {v : Value} {r : Scanned} {tail : List UInt8} {p e : Int} (h : scan l = r) (ht : r.tail = tail) (hp : (r.place : Int) = p) (he : (r.err : Int) = e) (hr : nX w' v r.toks) (hx : Ext w w') :
  ScanPost l w (.returned (.tuple #[v, .string ⟨tail.toArray⟩, .int .i64 p, .int .i64 e])) w' := by
 subst h; subst ht; subst hp; subst he
 exact ⟨v, rfl, hr, hx⟩
def pS (base : Nat) (w : World) (v : Value) (l : List TokZ) : Prop := ∃ A c, v = .slice A l.length c ∧ l.length ≤ c ∧ c ≤ maxLen ∧ Row w 3 A l.length (bj l) ∧ (0 < l.length → ∃ b off, A = some ⟨b, off, none⟩ ∧ base ≤ b)
def ScanPostN (l : List UInt8) (w : World) (e : Ending) (w' : World) : Prop :=
 ∃ v, e = .returned (.tuple #[v, .string ⟨(scan l).tail.toArray⟩, .int .i64 ((scan l).place : Nat), .int .i64 ((scan l).err : Nat)]) ∧ pS w.heap.size w' v (scan l).toks ∧ Ext w w'
theorem rv {w : World} {base : Nat} {v : Value} {l : List TokZ} (h : w.ownsRow base 37 3 v l.length (bj l)) : pS base w v l := by
 obtain ⟨A, c, rfl, hc, hm⟩ := sU h
 refine ⟨A, c, rfl, hc, hm, Row.of_own h, fun hn => ?_⟩
 obtain ⟨g, cap, hv, hb, hlt⟩ := h.form hn
 injection hv with hA
 exact ⟨g, 0, hA, hb⟩
theorem nB {base : Nat} (w : World) : pS base w (.slice none 0 0) [] := ⟨none, 0, rfl, Nat.le_refl _, Nat.zero_le _, Row.none_, fun h => absurd h (by simp)⟩
theorem iv {l : List UInt8} {w w' : World} {v : Value} {r : Scanned} {tail : List UInt8} {p e : Int} (h : scan l = r) (ht : r.tail = tail) (hp : (r.place : Int) = p) (he : (r.err : Int) = e) (hr : pS w.heap.size w' v r.toks) (hx : Ext w w') :
  ScanPostN l w (.returned (.tuple #[v, .string ⟨tail.toArray⟩, .int .i64 p, .int .i64 e])) w' := by
 subst h; subst ht; subst hp; subst he
 exact ⟨v, rfl, hr, hx⟩
def BQ (l : List UInt8) (w : World) (R : Scanned) (g : Nat) (s2 s6 s7 : Value) (wx : World) : Prop :=
  ∃ (i start F : Nat) (acc : List TokZ), start ≤ i ∧ i ≤ l.length ∧ g = l.length - i ∧ s6 = .int .i64 start ∧ s7 = .int .i64 i ∧ acc.length ≤ i ∧ l.length - start < F ∧
    scanT F (l.drop start) start acc = R ∧ al false (l.drop start) 0 = al false (l.drop i) (i - start) ∧ wx.ownsRow w.heap.size 37 3 s2 acc.length (bj acc) ∧ Ext w wx
set_option maxHeartbeats 4000000 in
theorem zB (l : List UInt8) (w : World) (hl : l.length ≤ 281474976710656) : Calls Tryz.prog 7 #[.string ⟨l.toArray⟩] w (ScanPostN l w) := by
 have hx := oq; have hx2 := jw
 by_cases h4 : 4096 < l.length
 ·have HS := Lib.hid (show scan l = ⟨[], [], 4096, 3⟩ from by simp [scan, h4])
  go_enter Tryz.func7, Tryz.ntmps7
  go_wp2
  go_step3
  go_wp2
  rw [Exit.noGoto_ret]
  exact bodyPost_ret (v := .tuple #[.slice none 0 0, .string ⟨#[]⟩, .int .i64 4096, .int .i64 3]) (by simp [results, Tryz.results7, go_sem]) rfl (iv HS.out rfl rfl rfl (nB _) (Ext.refl _))
 ·obtain ⟨R, hR⟩ : ∃ R, scan l = R := ⟨_, rfl⟩
  have HS := Lib.hid hR
  have H0 := Lib.hid (show scanT (l.length + 1) (l.drop 0) 0 [] = R from by rw [← hR]; simp [scan, h4])
  clear hR
  go_enter Tryz.func7, Tryz.ntmps7
  go_wp2
  go_step3
  go_wp2
  go_step3
  go_wp2
  go_loopg [2, 6, 7] l.length (fun g s2 s6 s7 wx => BQ l w R g s2 s6 s7 wx)
  case atStart => exact ⟨0, 0, l.length + 1, [], Nat.le_refl _, Nat.zero_le _, by omega, rfl, rfl, Nat.le_refl _, by omega, H0.out, by simp, World.ownsRow_nil _ _ _ _, Ext.refl _⟩
  case round =>
   obtain ⟨i, start, F, acc, hsi, hil, rfl, rfl, rfl, hacc, hF, hscan, hlead, hown, hext⟩ := hrel
   have HSc := Lib.hid hscan; clear hscan
   have HLd := Lib.hid hlead; clear hlead
   have HO := Lib.hid hown; clear hown
   have HE := Lib.hid hext; clear hext
   by_cases hlt : i < l.length
   ·obtain ⟨c, hc⟩ : ∃ c, ({ data := l.toArray } : ByteArray)[i]'hlt = c := ⟨_, rfl⟩
    have HC := Lib.hid (show l[i] = c from hc)
    cases hw : aP c
    rotate_left
    ·go_wp2_with (first | (go_at_call 16; refine qmm (en _ _) ?_) | (go_at_call 17; refine qmm (aT _ _) ?_))
     go_roundg (l.length - (i + 1))
     case measure => omega
     case rel => exact ⟨i + 1, start, F, acc, by omega, by omega, rfl, rfl, by go_num, by omega, hF, HSc.out, by rw [HLd.out, qH hlt HC.out hw]; congr 1; omega, HO.out, HE.out⟩
    cases h35 : ((c.toNat : Int) == 35)
    rotate_left
    ·go_wp2_with (first | (go_at_call 16; refine qmm (en _ _) ?_) | (go_at_call 17; refine qmm (aT _ _) ?_))
     obtain ⟨wo, rfl⟩ : ∃ wo : World, wo = wr := ⟨_, rfl⟩
     have HL2 := Lib.hid (HLd.out.trans (rK (n := i - start) hlt HC.out (bU (m := 35) h35)))
     have HCI := Lib.hid (bU (m := 35) h35)
     clear h35 hw hc HLd
     go_loopg [2, 7] (l.length - i) (fun g t2 t7 wy => ∃ j, i ≤ j ∧ j ≤ l.length ∧ g = l.length - j ∧ t7 = .int .i64 (j : Nat) ∧ t2 = u2 ∧ wy = wo ∧ Hid (al false (l.drop start) 0 = al true (l.drop j) (j - start)))
     case atStart => exact ⟨i, Nat.le_refl _, by omega, rfl, rfl, rfl, rfl, HL2⟩
     case round =>
      obtain ⟨j, hij, hjl, rfl, rfl, rfl, rfl, HL3⟩ := hrel
      by_cases hjt : j < l.length
      ·obtain ⟨d, hd⟩ : ∃ c, ({ data := l.toArray } : ByteArray)[j]'hjt = c := ⟨_, rfl⟩
       have HD := Lib.hid (show l[j] = d from hd)
       cases h10 : ((d.toNat : Int) == 10)
       rotate_left
       ·have hne : i < j := by
         rcases Nat.lt_or_ge i j with h | h
         ·exact h
         ·have : i = j := by omega
          subst this
          have h1 := bU (m := 10) h10
          have h2 := HCI.out
          have h3 : c = d := by rw [← HC.out, ← HD.out]
          subst h3
          omega
        go_wp2_with (first | (go_at_call 16; refine qmm (en _ _) ?_) | (go_at_call 17; refine qmm (aT _ _) ?_))
        go_roundg (l.length - j)
        case measure => omega
        case rel => exact ⟨j, start, F, acc, by omega, by omega, rfl, rfl, rfl, by omega, hF, HSc.out, HL3.out.trans (se hjt HD.out (bU (m := 10) h10)), HO.out, HE.out⟩
       cases ha : ay d
       ·go_wp2_with (first | (go_at_call 16; refine qmm (en _ _) ?_) | (go_at_call 17; refine qmm (aT _ _) ?_))
        rw [Exit.noGoto_ret]
        exact bodyPost_ret (v := .tuple #[.slice none 0 0, .string ⟨([] : List UInt8).toArray⟩, .int .i64 j, .int .i64 1]) (by simp [results, Tryz.results7, go_sem]) rfl (iv (r := ⟨[], [], start + (j - start), 1⟩) (by rw [HS.out, ← HSc.out]; obtain ⟨F', rfl⟩ : ∃ F', F = F' + 1 := ⟨F - 1, by omega⟩; exact pm (n := j - start) (by rw [HL3.out]; exact tf hjt HD.out (bx (m := 10) h10) ha)) rfl (by simp; omega) rfl (nB _) HE.out)
       ·go_wp2_with (first | (go_at_call 16; refine qmm (en _ _) ?_) | (go_at_call 17; refine qmm (aT _ _) ?_))
        go_roundg (l.length - (j + 1))
        case measure => omega
        case rel => exact ⟨j + 1, by omega, by omega, rfl, by go_num, rfl, rfl, Lib.hid (by rw [HL3.out, vt hjt HD.out (bx (m := 10) h10) ha]; congr 1; omega)⟩
      ·have hb0 : (0 : Int) ≤ (start : Int) := by omega
       have hb1 : (start : Int) ≤ (l.length : Int) := by omega
       go_wp2_with (first | (go_at_call 16; refine qmm (en _ _) ?_) | (go_at_call 17; refine qmm (aT _ _) ?_))
       go_quiet (fail)
       go_wp2
       rw [Exit.noGoto_ret]
       exact bodyPost_ret (v := .tuple #[u2, .string ⟨(l.drop start).toArray⟩, .int .i64 0, .int .i64 0]) (by simp [results, Tryz.results7, go_sem]) rfl (iv (r := ⟨acc, l.drop start, 0, 0⟩) (by rw [HS.out, ← HSc.out]; obtain ⟨F', rfl⟩ : ∃ F', F = F' + 1 := ⟨F - 1, by omega⟩; exact lH (n := j - start) (by rw [HL3.out]; exact lL _ (by omega)) (by simp; omega)) rfl rfl rfl (rv HO.out) (Ext.drewN HE.out _))
    ·have HLO := Lib.hid (HLd.out.trans (qt (n := i - start) hlt HC.out hw (bx (m := 35) h35)))
     have hd0 : 0 < (l.drop i).length := by simp; omega
     have hdl : (l.drop i).length ≤ 281474976710656 := by simp; omega
     obtain ⟨k, m, e, hT⟩ : ∃ k m e, tokenT (l.drop i) = (k, m, e) := ⟨_, _, _, rfl⟩
     have hlen := gQ hd0
     rw [hT] at hlen
     simp only [List.length_drop] at hlen
     obtain ⟨hm1, hm2⟩ := hlen
     have HM := Lib.hid hm2; clear hm2
     have HT := Lib.hid hT; clear hT
     have hd1 : (l.drop start).drop (i - start) = l.drop i := by rw [List.drop_drop]; congr 1; omega
     have HD1 := Lib.hid hd1; clear hd1
     have CT := Lib.hid (fun w => yE (l.drop i) w hd0 hdl)
     clear hd0 hdl
     go_wp2_with (first | (go_at_call 16; refine qmm (en _ _) ?_) | (go_at_call 17; refine qmm (aT _ _) ?_))
     refine (CT.out _).mono ?_
     rintro e0 w' ⟨rfl, rfl⟩
     rw [HT.out]
     by_cases he : e = 0
     rotate_left
     ·have heb : ((e : Int) != 0) = true := by simp; omega
      go_wp2_with (first | (go_at_call 16; refine qmm (en _ _) ?_) | (go_at_call 17; refine qmm (aT _ _) ?_))
      rw [Exit.noGoto_ret]
      exact bodyPost_ret (v := .tuple #[.slice none 0 0, .string ⟨([] : List UInt8).toArray⟩, .int .i64 ((i : Int) + m), .int .i64 e]) (by simp [results, Tryz.results7, go_sem]) rfl (iv (r := ⟨[], [], start + (i - start) + m, e⟩) (by rw [HS.out, ← HSc.out]; obtain ⟨F', rfl⟩ : ∃ F', F = F' + 1 := ⟨F - 1, by omega⟩; exact na (n := i - start) HLO.out (by simp; omega) (by rw [HD1.out]; exact HT.out) he) rfl (by simp; omega) rfl (nB _) HE.out)
     ·subst he
      have hmp : 0 < m := HM.out rfl
      go_wp2_with (first | (go_at_call 16; refine qmm (en _ _) ?_) | (go_at_call 17; refine qmm (aT _ _) ?_))
      have hb0 : (0 : Int) ≤ (start : Int) := by omega
      have hb1 : (start : Int) ≤ (i : Int) := by omega
      have hb2 : (i : Int) ≤ (l.length : Int) := by omega
      have hb3 : (i : Int) + m ≤ (l.length : Int) := by omega
      have hb4 : (i : Int) ≤ (i : Int) + m := by omega
      have hwr : IntKind.i64.wrap ((i : Int) + m) = (i : Int) + m := IntWalk.i64_in _ (by omega)
      have hb5 : (0 : Int) ≤ (i : Int) + m := by omega
      have hb6 : ((i : Int) + m).toNat = i + m := by omega
      have hown := HO.out
      have hsz := HE.out.size
      have hbase : w.heap.size ≤ wr.heap.size + 1 := by omega
      have hsz2 : (acc.length + 1) * 40 ≤ 140737488355328 := by omega
      have hsz3 : acc.length + 1 ≤ maxLen := by unfold maxLen; omega
      obtain ⟨i0, hi0, hz0, hz1, hz2⟩ := np wq
      go_region_held3 (fun _ => True) (trivial)
       ((refine step_append_lies _ (by rfl) _ _ _ (by rfl) w.heap.size 37 i0 _ 3 40 Tryz.underlying27 hi0 hz0 hz1 hz2 rfl (by omega) u2 acc.length (bj acc) (by rfl) ((hown.alloc _).drew) ⟨wr.heap.size, 0, none⟩ 1 1 [.int .i64 k, .string ⟨((l.drop start).take (i - start)).toArray⟩, .string ⟨((l.drop i).take m).toArray⟩] (by rfl) (by rfl) (World.news_of_block (cs := #[.int .i64 k, .string ⟨((l.drop start).take (i - start)).toArray⟩, .string ⟨((l.drop i).take m).toArray⟩]) (t := 37) (fr := (0, 0)) (heap_alloc_new wr _)) (by simp [Value.oneCell']) (by omega) hsz3 hsz2 (by simp; omega) (wr.heap.size + 1) (by simp) ?_; intro gg cap w1 hown1 hgrow hat hlt1))
      have HX := Lib.hid (((HE.out.alloc _).drew).grown hgrow (fun k hk => (hown.lt k hk).1))
      have HO1 := Lib.hid (show w1.ownsRow w.heap.size 37 3 (.slice (some ⟨gg, 0, none⟩) (acc.length + 1) cap) (acc ++ [TokZ.mk k ((l.drop start).take (i - start)) ((l.drop i).take m)]).length (bj (acc ++ [TokZ.mk k ((l.drop start).take (i - start)) ((l.drop i).take m)])) from by
       rw [oZ, List.length_append]; exact hown1)
      clear hown1 hgrow hat hown hsz2 hsz3 hi0 hz0 hz1 hz2 hwr hb6
      go_wp2
      go_roundg (l.length - (i + m))
      case measure => omega
      case rel =>
       obtain ⟨F', rfl⟩ : ∃ F', F = F' + 1 := ⟨F - 1, by omega⟩
       refine ⟨i + m, i + m, F', acc ++ [TokZ.mk k ((l.drop start).take (i - start)) ((l.drop i).take m)], Nat.le_refl _, by omega, rfl, by go_num, by go_num, by simp; omega, by omega, ?_, by simp, HO1.out, HX.out⟩
       rw [← HSc.out, lE (n := i - start) HLO.out (by simp; omega) (by rw [HD1.out]; exact HT.out), HD1.out, List.drop_drop]
       congr 2 <;> omega
   ·have hb0 : (0 : Int) ≤ (start : Int) := by omega
    have hb1 : (start : Int) ≤ (l.length : Int) := by omega
    go_wp2_with (first | (go_at_call 16; refine qmm (en _ _) ?_) | (go_at_call 17; refine qmm (aT _ _) ?_))
    go_quiet (fail)
    go_wp2
    rw [Exit.noGoto_ret]
    exact bodyPost_ret (v := .tuple #[u2, .string ⟨(l.drop start).toArray⟩, .int .i64 0, .int .i64 0]) (by simp [results, Tryz.results7, go_sem]) rfl (iv (r := ⟨acc, l.drop start, 0, 0⟩) (by rw [HS.out, ← HSc.out]; obtain ⟨F', rfl⟩ : ∃ F', F = F' + 1 := ⟨F - 1, by omega⟩; exact lH (n := i - start) (by rw [HLd.out]; exact lL _ (by omega)) (by simp; omega)) rfl rfl rfl (rv HO.out) (Ext.drewN HE.out _))
theorem En (l : List UInt8) (w : World) (hl : l.length ≤ 281474976710656) : Calls Tryz.prog 7 #[.string ⟨l.toArray⟩] w (ScanPost l w) := (zB l w hl).mono fun e w' ⟨v, h1, ⟨A, c, e1, h2, h3, h4, _⟩, h5⟩ => ⟨v, h1, ⟨A, c, e1, h2, h3, h4⟩, h5⟩
end Go.Proofs.YtgpcdfbmbcognaaGreat
namespace Go.Proofs.YtgpcdfbmbcognaaGreat
open Go.RowKit Lx
set_option maxRecDepth 100000
theorem neI {n m : Nat} (h : ((n : Int) != (m : Int)) = false) : n = m := by simp at h; omega
theorem neT {n m : Nat} (h : ((n : Int) != (m : Int)) = true) : ¬ n = m := by simp at h; omega
def qM (k : Nat) : Option Nat → Int
 | none => -1
 | some p => ((k + p : Nat) : Int)
def qT (l : List UInt8) (k : Nat) (w : World) (e : Ending) (w' : World) : Prop :=
 e = .returned (.tuple #[.int .i64 ((al false (l.drop k) 0).1 : Nat), .int .i64 (qM k (al false (l.drop k) 0).2)]) ∧ w = w'
theorem sH {l : List UInt8} {k n : Nat} {b : Option Nat} {w : World} {x y : Int} (h : al false (l.drop k) 0 = (n, b)) (hx : x = n) (hy : y = qM k b) : qT l k w (.returned (.tuple #[.int .i64 x, .int .i64 y])) w := by
 subst hx; subst hy; unfold qT; rw [h]; exact ⟨rfl, rfl⟩
set_option maxHeartbeats 2000000 in
theorem Br (l : List UInt8) (x : Int) (k : Nat) (hxk : x = k) (w : World) (hk : k ≤ l.length) (hl : l.length ≤ 281474976710656) : Calls Tryz.prog 95 #[.string ⟨l.toArray⟩, .int .i64 x] w (qT l k w) := by
 subst hxk
 go_enter Tryz.func95, Tryz.ntmps95
 go_wp2_with (first | (go_at_call 98; refine qmm (gw _ _) ?_) | (go_at_call 104; refine qmm (aW _ _) ?_))
 go_loopg [6] (l.length - k) (fun g n wx => ∃ i : Nat, g = l.length - i ∧ wx = w ∧ k ≤ i ∧ i ≤ l.length ∧ n = .int .i64 i ∧ Hid (al false (l.drop k) 0 = al false (l.drop i) (i - k)))
 case atStart => exact ⟨k, rfl, rfl, Nat.le_refl _, hk, rfl, Lib.hid (by congr 1; omega)⟩
 case round =>
  obtain ⟨i, rfl, rfl, hki, hil, rfl, HL⟩ := hrel
  by_cases hit : i < l.length
  rotate_left
  ·go_wp2_with (first | (go_at_call 98; refine qmm (gw _ _) ?_) | (go_at_call 104; refine qmm (aW _ _) ?_))
   go_ret2
   exact sH (n := i - k) (b := none) (by rw [HL.out, lL _ (by omega)]) (by omega) rfl
  obtain ⟨c, hc⟩ : ∃ c, ({ data := l.toArray } : ByteArray)[i]'hit = c := ⟨_, rfl⟩
  have HC := Lib.hid (show l[i] = c from hc)
  cases hw : aP c
  rotate_left
  ·go_wp2_with (first | (go_at_call 98; refine qmm (gw _ _) ?_) | (go_at_call 104; refine qmm (aW _ _) ?_))
   go_roundg (l.length - (i + 1))
   case measure => omega
   case rel => exact ⟨i + 1, rfl, rfl, by omega, by omega, by go_num, Lib.hid (by rw [HL.out, qH hit HC.out hw]; congr 1; omega)⟩
  cases h35 : ((c.toNat : Int) == 35)
  ·go_wp2_with (first | (go_at_call 98; refine qmm (gw _ _) ?_) | (go_at_call 104; refine qmm (aW _ _) ?_))
   go_ret2
   exact sH (n := i - k) (b := none) (by rw [HL.out, qt hit HC.out hw (bx (m := 35) h35)]) (by omega) rfl
  have HL2 := Lib.hid (HL.out.trans (rK (n := i - k) hit HC.out (bU (m := 35) h35)))
  have HCI := Lib.hid (bU (m := 35) h35)
  go_wp2_with (first | (go_at_call 98; refine qmm (gw _ _) ?_) | (go_at_call 104; refine qmm (aW _ _) ?_))
  clear HL
  obtain ⟨wo, rfl⟩ : ∃ wo : World, wo = wr := ⟨_, rfl⟩
  go_loopg [6] (l.length - i) (fun g n wx => ∃ j : Nat, g = l.length - j ∧ wx = wo ∧ i ≤ j ∧ j ≤ l.length ∧ n = .int .i64 j ∧ Hid (al false (l.drop k) 0 = al true (l.drop j) (j - k)))
  case atStart => exact ⟨i, rfl, rfl, Nat.le_refl _, by omega, rfl, HL2⟩
  case round =>
   obtain ⟨j, rfl, rfl, hij, hjl, rfl, HL3⟩ := hrel
   by_cases hjt : j < l.length
   rotate_left
   ·go_wp2_with (first | (go_at_call 98; refine qmm (gw _ _) ?_) | (go_at_call 104; refine qmm (aW _ _) ?_))
    go_roundg (l.length - j)
    case measure => omega
    case rel => exact ⟨j, rfl, rfl, by omega, by omega, rfl, Lib.hid (by rw [HL3.out, lL _ (by omega), lL _ (by omega)])⟩
   obtain ⟨d, hd⟩ : ∃ c, ({ data := l.toArray } : ByteArray)[j]'hjt = c := ⟨_, rfl⟩
   have HD := Lib.hid (show l[j] = d from hd)
   cases h10 : ((d.toNat : Int) != 10)
   ·have hne : i < j := by
     rcases Nat.lt_or_ge i j with h | h
     ·exact h
     ·have : i = j := by omega
      subst this
      have h2 := HCI.out
      have h3 : c = d := by rw [← HC.out, ← HD.out]
      subst h3
      simp [h2] at h10
    go_wp2_with (first | (go_at_call 98; refine qmm (gw _ _) ?_) | (go_at_call 104; refine qmm (aW _ _) ?_))
    go_roundg (l.length - j)
    case measure => omega
    case rel => exact ⟨j, rfl, rfl, by omega, by omega, rfl, Lib.hid (by rw [HL3.out, se hjt HD.out (neI (m := 10) h10)])⟩
   cases ha : ay d
   ·go_wp2_with (first | (go_at_call 98; refine qmm (gw _ _) ?_) | (go_at_call 104; refine qmm (aW _ _) ?_))
    go_ret2
    exact sH (n := j - k) (b := some (j - k)) (by rw [HL3.out, tf hjt HD.out (neT (m := 10) h10) ha]) (by omega) (by simp [qM]; omega)
   ·go_wp2_with (first | (go_at_call 98; refine qmm (gw _ _) ?_) | (go_at_call 104; refine qmm (aW _ _) ?_))
    go_roundg (l.length - (j + 1))
    case measure => omega
    case rel => exact ⟨j + 1, rfl, rfl, by omega, by omega, by go_num, Lib.hid (by rw [HL3.out, vt hjt HD.out (neT (m := 10) h10) ha]; congr 1; omega)⟩
end Go.Proofs.YtgpcdfbmbcognaaGreat
namespace Go.Proofs.YtgpcdfbmbcognaaGreat
open Go.RowKit Lx
set_option maxRecDepth 100000
theorem jH : ∀ (b : Bool) (l : List UInt8) (n : Nat), (al b l n).1 ≤ n + l.length
 | _, [], n => by simp [al]
 | false, c :: r, n => by
  have h1 := jH false r (n + 1)
  have h2 := jH true r (n + 1)
  unfold al
  simp only [List.length_cons]
  split
  ·omega
  ·split
   ·omega
   ·simp
 | true, c :: r, n => by
  have h1 := jH false r (n + 1)
  have h2 := jH true r (n + 1)
  unfold al
  simp only [List.length_cons]
  split
  ·omega
  ·split
   ·simp
   ·omega
def Ar (l : List UInt8) (w : World) (Rs : Scanned) (g : Nat) (s6 s7 : Value) (wx : World) : Prop :=
  ∃ (p F : Nat) (acc : List TokZ), p ≤ l.length ∧ g = l.length - p ∧ s7 = .int .i64 p ∧ acc.length ≤ p ∧ l.length - p < F ∧
    scanT F (l.drop p) p acc = Rs ∧ wx.ownsRow w.heap.size 37 3 s6 acc.length (bj acc) ∧ Ext w wx
def ScanPost0 (Rs : Scanned) (w : World) (e : Ending) (w' : World) : Prop :=
 ∃ v, e = .returned (.tuple #[v, .string ⟨Rs.tail.toArray⟩, .int .i64 (Rs.place : Nat), .int .i64 (Rs.err : Nat)]) ∧ nX w' v Rs.toks ∧ Ext w w'
theorem mo {Rs : Scanned} {w w' : World} {v : Value} {r : Scanned} {tail : List UInt8} {p e : Int} (h : Rs = r) (ht : r.tail = tail) (hp : (r.place : Int) = p) (he : (r.err : Int) = e) (hr : nX w' v r.toks) (hx : Ext w w') :
  ScanPost0 Rs w (.returned (.tuple #[v, .string ⟨tail.toArray⟩, .int .i64 p, .int .i64 e])) w' := by
 subst h; subst ht; subst hp; subst he
 exact ⟨v, rfl, hr, hx⟩
set_option maxHeartbeats 4000000 in
theorem Dl (l : List UInt8) (w : World) (hl : l.length ≤ 4096) : Calls Tryz.prog 100 #[.string ⟨l.toArray⟩] w (ScanPost0 (scanT (l.length + 1) l 0 []) w) := by
 obtain ⟨Rs, hR⟩ : ∃ Rs, scanT (l.length + 1) l 0 [] = Rs := ⟨_, rfl⟩
 rw [hR]
 have H0 := Lib.hid (show scanT (l.length + 1) (l.drop 0) 0 [] = Rs from by rw [← hR]; simp)
 clear hR
 have hx := oq; have hx2 := jw
 go_enter Tryz.func100, Tryz.ntmps100
 go_wp2_with fail
 go_loopg [6, 7] l.length (fun g s6 s7 wx => Ar l w Rs g s6 s7 wx)
 case atStart => exact ⟨0, l.length + 1, [], Nat.zero_le _, by omega, rfl, Nat.le_refl _, by omega, H0.out, World.ownsRow_nil _ _ _ _, Ext.refl _⟩
 case round =>
  obtain ⟨p, F, acc, hpl, rfl, rfl, hacc, hF, hscan, hown, hext⟩ := hrel
  have HSc := Lib.hid hscan; clear hscan
  have HO := Lib.hid hown; clear hown
  have HE := Lib.hid hext; clear hext
  obtain ⟨F', rfl⟩ : ∃ F', F = F' + 1 := ⟨F - 1, by omega⟩
  obtain ⟨n, b, hLd⟩ : ∃ n b, al false (l.drop p) 0 = (n, b) := ⟨_, _, rfl⟩
  have hnl : p + n ≤ l.length := by have h := jH false (l.drop p) 0; rw [hLd] at h; simp at h; omega
  have HLd := Lib.hid hLd; clear hLd
  go_wp2_with fail
  refine (Br _ _ p rfl _ hpl (by omega)).mono ?_
  rintro e w' ⟨rfl, rfl⟩
  rw [HLd.out]
  cases b with
  | some q =>
   have hq : (0 : Int) ≤ ((p + q : Nat) : Int) := by omega
   have hq2 : qM p (some q) = ((p + q : Nat) : Int) := rfl
   rw [hq2]
   generalize hz : ((p + q : Nat) : Int) = z at *
   have HZ := Lib.hid hz; clear hz hq2
   go_wp2
   exact bodyPost_ret (v := .tuple #[.slice none 0 0, .string ⟨([] : List UInt8).toArray⟩, .int .i64 z, .int .i64 1]) (by simp [results, Tryz.results100, go_sem]) rfl (mo (r := ⟨[], [], p + q, 1⟩) (HSc.out.symm.trans (pm HLd.out)) rfl (by rw [HZ.out]) rfl (og _) HE.out)
  | none =>
   have hq2 : qM p none = -1 := rfl
   rw [hq2]
   clear hq2
   obtain ⟨E, hE⟩ : ∃ E, p + n = E := ⟨_, rfl⟩
   have hE1 : (p : Int) + n = (E : Nat) := by omega
   have hE2 : E - p = n := by omega
   have HEE := Lib.hid hE
   have hpE : p ≤ E := by omega
   have hEl : E ≤ l.length := by omega
   clear hE hnl
   by_cases hend : E = l.length
   ·have hendb : ((E : Int) == (l.length : Int)) = true := by simp; omega
    have hb0 : (0 : Int) ≤ (p : Int) := by omega
    have hb1 : (p : Int) ≤ (l.length : Int) := by omega
    have HEnd := Lib.hid hend; clear hend
    go_wp2
    go_quiet (fail)
    go_wp2
    exact bodyPost_ret (v := .tuple #[u6, .string ⟨(l.drop p).toArray⟩, .int .i64 0, .int .i64 0]) (by simp [results, Tryz.results100, go_sem]) rfl (mo (r := ⟨acc, l.drop p, 0, 0⟩) (HSc.out.symm.trans (lH HLd.out (by have := HEnd.out; have := HEE.out; simp; omega))) rfl rfl rfl (zf HO.out) (Ext.drewN HE.out _))
   ·have hEt : E < l.length := by omega
    have hendb : ((E : Int) == (l.length : Int)) = false := by simp; omega
    clear hend
    obtain ⟨kd, m, e, hT⟩ : ∃ kd m e, tokenT (l.drop E) = (kd, m, e) := ⟨_, _, _, rfl⟩
    have hlen := gQ (l := l.drop E) (by simp; omega)
    rw [hT] at hlen
    simp only [List.length_drop] at hlen
    obtain ⟨hm1, hm2⟩ := hlen
    have HM := Lib.hid hm2; clear hm2
    have HT := Lib.hid hT; clear hT
    have HDp := Lib.hid (show (l.drop p).drop n = l.drop E from by rw [List.drop_drop, HEE.out])
    have CN := Lib.hid (fun w => Bt l (E : Nat) E rfl w hEt (by omega))
    have HnE := Lib.hid (show ¬ n = (l.drop p).length from by have := HEE.out; simp; omega)
    go_wp2_with fail
    refine (CN.out _).mono ?_
    rintro e0 w1 ⟨rfl, hext1⟩
    rw [HT.out]
    by_cases he : e = 0
    rotate_left
    ·have HI := Lib.hid (show jx E (kd, m, e) = .agg #[.int .i64 0, .int .i64 0, .int .i64 e, .int .i64 ((E + m : Nat) : Int)] from by simp [jx, he])
     rw [HI.out]
     have heb : ((e : Int) != 0) = true := by simp; omega
     have HX1 := Lib.hid (HE.out.trans hext1); clear hext1
     generalize hz : ((E + m : Nat) : Int) = z at *
     have HZ := Lib.hid hz; clear hz
     clear HI
     go_wp2
     go_quiet (fail)
     go_wp2
     exact bodyPost_ret (v := .tuple #[.slice none 0 0, .string ⟨([] : List UInt8).toArray⟩, .int .i64 z, .int .i64 e]) (by simp [results, Tryz.results100, go_sem]) rfl (mo (r := ⟨[], [], p + n + m, e⟩) (HSc.out.symm.trans (na HLd.out HnE.out (by rw [HDp.out]; exact HT.out) he)) rfl (by rw [← HZ.out]; have := HEE.out; simp; omega) rfl (og _) (Ext.drewN (HX1.out.alloc _) _))
    ·subst he
     have HI := Lib.hid (show jx E (kd, m, 0) = .agg #[.int .i64 m, .int .i64 kd, .int .i64 0, .int .i64 0] from by simp [jx])
     rw [HI.out]
     have hmp : 0 < m := HM.out rfl
     have hown := Cs HO.out hext1
     have hx1 := hext1.size
     have hsz := HE.out.size
     have HX1 := Lib.hid (HE.out.trans hext1)
     have hne : ∀ k, u6.ownBlock = some k → k < wr.heap.size := fun k hk => (HO.out.lt k hk).2
     have hneB : u6.ownBlock ≠ some w1.heap.size := fun h => by have := hne _ h; omega
     clear hext1 HI CN HM
     go_wp2
     obtain ⟨W2, hW2⟩ : ∃ W2, w1.alloc (.cells #[.int .i64 m, .int .i64 kd, .int .i64 0, .int .i64 0] 106) = W2 := ⟨_, rfl⟩
     rw [hW2]
     have hc0 : W2.cell? ⟨w1.heap.size, 0, none⟩ = some (.int .i64 m) := by rw [← hW2]; simp
     have hc1 : W2.cell? ⟨w1.heap.size, 1, none⟩ = some (.int .i64 kd) := by rw [← hW2]; simp
     have hown2 : W2.ownsRow w.heap.size 37 3 u6 acc.length (bj acc) := by rw [← hW2]; exact hown.alloc _
     have hBW : w1.heap.size < W2.heap.size := by rw [← hW2]; simp
     have HX2 := Lib.hid (show Ext w W2 from by rw [← hW2]; exact HX1.out.alloc _)
     obtain ⟨B, hB⟩ : ∃ B, w1.heap.size = B := ⟨_, rfl⟩
     have hwB : w.heap.size ≤ B := by omega
     rw [hB] at hc0 hc1 hBW hneB
     rw [hB]
     clear hW2 hB hown hne hx1 hsz HX1 HE HO
     have hb0 : (0 : Int) ≤ (p : Int) := by omega
     have hb1 : (p : Int) ≤ (E : Int) := by omega
     have hb2 : (E : Int) ≤ (l.length : Int) := by omega
     have hb3 : (E : Int) + m ≤ (l.length : Int) := by omega
     have hb4 : (E : Int) ≤ (E : Int) + m := by omega
     have hwr0 : IntKind.i64.wrap (E : Int) = (E : Int) := IntWalk.i64_in _ (by omega)
     have hwr : IntKind.i64.wrap ((E : Int) + m) = (E : Int) + m := IntWalk.i64_in _ (by omega)
     have hb5 : (0 : Int) ≤ (E : Int) + m := by omega
     have hb6 : ((E : Int) + m).toNat = E + m := by omega
     have hsz2 : (acc.length + 1) * 40 ≤ 140737488355328 := by omega
     have hsz3 : acc.length + 1 ≤ maxLen := by unfold maxLen; omega
     have hbs : w.heap.size ≤ W2.heap.size := by omega
     obtain ⟨i0, hi0, hz0, hz1, hz2⟩ := np wq
     go_region_held3 (fun w' => w'.cell? ⟨B, 0, none⟩ = some (.int .i64 m) ∧ w'.cell? ⟨B, 1, none⟩ = some (.int .i64 kd))
      (first | go_keep | (go_split_ands; refine ⟨?_, ?_⟩ <;> (rw [hgrow.cell_far _ (by simp; omega) (Ne.symm hneB)]; simp [*])))
      ((refine step_append_lies _ (by rfl) _ _ _ (by rfl) w.heap.size 37 i0 _ 3 40 Tryz.underlying27 hi0 hz0 hz1 hz2 rfl (by omega) u6 acc.length (bj acc) (by rfl) ((hown2.alloc _).drew) ⟨W2.heap.size, 0, none⟩ 1 1 [.int .i64 kd, .string ⟨((l.drop p).take n).toArray⟩, .string ⟨((l.drop E).take m).toArray⟩] (by rfl) (by rfl) (World.news_of_block (cs := #[.int .i64 kd, .string ⟨((l.drop p).take n).toArray⟩, .string ⟨((l.drop E).take m).toArray⟩]) (t := 37) (fr := (0, 0)) (heap_alloc_new W2 _)) (by simp [Value.oneCell']) (by omega) hsz3 hsz2 (by simp; omega) (W2.heap.size + 1) (by simp) ?_; intro gg cap w3 hown3 hgrow hat hlt3))
     have hc03 : w3.cell? ⟨B, 0, none⟩ = some (.int .i64 m) := by rename_i hh; exact hh.1
     have HX := Lib.hid (((HX2.out.alloc _).drew).grown hgrow (fun k hk => (hown2.lt k hk).1))
     have HO1 := Lib.hid (show w3.ownsRow w.heap.size 37 3 (.slice (some ⟨gg, 0, none⟩) (acc.length + 1) cap) (acc ++ [TokZ.mk kd ((l.drop p).take n) ((l.drop E).take m)]).length (bj (acc ++ [TokZ.mk kd ((l.drop p).take n) ((l.drop E).take m)])) from by
      rw [oZ, List.length_append]; exact hown3)
     clear hown3 hgrow hat hown2 hsz2 hsz3 hi0 hz0 hz1 hz2 hwr hwr0 hb6 hc0 hc1
     go_wp2
     go_roundg (l.length - (E + m))
     case measure => omega
     case rel =>
      refine ⟨E + m, F', acc ++ [TokZ.mk kd ((l.drop p).take n) ((l.drop E).take m)], by omega, rfl, by go_num, by simp; omega, by omega, ?_, HO1.out, HX.out⟩
      rw [← HSc.out, lE HLd.out HnE.out (by rw [HDp.out]; exact HT.out), HDp.out, List.drop_drop, ← HEE.out]
      congr 2 <;> omega
theorem Ep (l : List UInt8) (w : World) (hl : l.length ≤ 281474976710656) : Calls Tryz.prog 85 #[.string ⟨l.toArray⟩] w (ScanPost l w) := by
 by_cases h4 : 4096 < l.length
 ·have HS := Lib.hid (show scan l = ⟨[], [], 4096, 3⟩ from by simp [scan, h4])
  go_enter Tryz.func85, Tryz.ntmps85
  go_wp2
  exact bodyPost_ret (v := .tuple #[.slice none 0 0, .string ⟨([] : List UInt8).toArray⟩, .int .i64 4096, .int .i64 3]) (by simp [results, Tryz.results85, go_sem]) rfl (vA HS.out rfl rfl rfl (og _) (Ext.refl _))
 ·have HS := Lib.hid (show scan l = scanT (l.length + 1) l 0 [] from by simp [scan, h4])
  go_enter Tryz.func85, Tryz.ntmps85
  go_wp2_with fail
  refine (Dl _ _ (by omega)).mono ?_
  rintro e w' ⟨v, rfl, htr, hext⟩
  obtain ⟨A, c, rfl, hc1, hc2, hrow⟩ := htr
  have HR := Lib.hid hrow; clear hrow
  have HX := Lib.hid hext; clear hext
  rw [← HS.out] at HR hc1 ⊢
  go_wp2
  exact bodyPost_ret (v := .tuple #[.slice A (scan l).toks.length c, .string ⟨(scan l).tail.toArray⟩, .int .i64 ((scan l).place : Nat), .int .i64 ((scan l).err : Nat)]) (by simp [results, Tryz.results85, go_sem]) rfl ⟨_, rfl, ⟨A, c, rfl, hc1, hc2, HR.out⟩, HX.out⟩
end Go.Proofs.YtgpcdfbmbcognaaGreat
namespace Go.Proofs.YtgpcdfbmbcognaaGreat
open Go.RowKit Lx
set_option maxRecDepth 100000
theorem qw : ∀ (l : List TokZ) (k : Nat) (h : k < l.length), (bj l)[k * 3]? = some (.int .i64 l[k].kind) ∧ (bj l)[k * 3 + 1]? = some (.string ⟨l[k].lead.toArray⟩) ∧ (bj l)[k * 3 + 2]? = some (.string ⟨l[k].text.toArray⟩)
 | t :: l, 0, _ => ⟨rfl, rfl, rfl⟩
 | t :: l, k + 1, h => by
  have ih := qw l k (by simpa using h)
  have e : bj (t :: l) = [.int .i64 t.kind, .string ⟨t.lead.toArray⟩, .string ⟨t.text.toArray⟩] ++ bj l := rfl
  rw [e]
  refine ⟨?_, ?_, ?_⟩
  ·rw [List.getElem?_append_right (by simp; omega)]; simpa [Nat.succ_mul] using ih.1
  ·rw [List.getElem?_append_right (by simp; omega)]
   have : (k + 1) * 3 + 1 - 3 = k * 3 + 1 := by omega
   simpa [this] using ih.2.1
  ·rw [List.getElem?_append_right (by simp; omega)]
   have : (k + 1) * 3 + 2 - 3 = k * 3 + 2 := by omega
   simpa [this] using ih.2.2
theorem mV {w : World} {A : Option Addr} {l : List TokZ} (h : Row w 3 A l.length (bj l)) {k : Nat} (hk : k < l.length) :
  ∃ b off, A = some ⟨b, off, none⟩ ∧ b < w.heap.size ∧ w.cell? ⟨b, off + k * 3, none⟩ = some (.int .i64 l[k].kind) ∧ w.cell? ⟨b, off + k * 3 + 1, none⟩ = some (.string ⟨l[k].lead.toArray⟩) ∧ w.cell? ⟨b, off + k * 3 + 2, none⟩ = some (.string ⟨l[k].text.toArray⟩) := by
 obtain ⟨b, off, rfl, hb, hc⟩ := h.2 (by omega)
 obtain ⟨h0, h1, h2⟩ := qw l k hk
 refine ⟨b, off, rfl, hb, ?_, ?_, ?_⟩
 ·rw [hc _ (by omega), h0]
 ·rw [Nat.add_assoc, hc _ (by omega), h1]
 ·rw [Nat.add_assoc, hc _ (by omega), h2]
end Go.Proofs.YtgpcdfbmbcognaaGreat
namespace Go.Proofs.YtgpcdfbmbcognaaGreat
open Go.RowKit Lx
set_option maxRecDepth 100000
set_option maxHeartbeats 1000000 in
theorem uf (l : List UInt8) (w : World) (hl : l.length ≤ 281474976710656) : Calls Tryz.prog 63 #[.string ⟨l.toArray⟩] w fun e w' => e = .returned (.int .i64 (ar l : Nat)) ∧ w = w' := by
 by_cases h0 : l = []
 ·subst h0
  go_enter Tryz.func63, Tryz.ntmps63
  go_wp2
  go_ret
  exact ⟨rfl, rfl⟩
 ·have hb1 : (l == []) = false := by simpa using h0
  have hb2 : l.isEmpty = false := by simpa using h0
  have hpos : 0 < l.length := List.length_pos_iff.2 h0
  obtain ⟨k, n, e, hT⟩ : ∃ k n e, tokenT l = (k, n, e) := ⟨_, _, _, rfl⟩
  have HT := Lib.hid hT
  have HC := Lib.hid (show ar l = if e = 0 ∧ n = l.length then k else 0 from by simp only [ar, if_neg h0, hT])
  clear hT h0
  go_enter Tryz.func63, Tryz.ntmps63
  go_wp2_with fail
  refine (yE _ _ hpos hl).mono ?_
  rintro e0 w' ⟨rfl, rfl⟩
  rw [HT.out]
  by_cases he : e = 0
  ·subst he
   by_cases hn : n = l.length
   ·have hnb : ((n : Int) != (l.length : Int)) = false := by simp; omega
    have HR := Lib.hid (HC.out.trans (if_pos ⟨rfl, hn⟩))
    clear hn
    go_wp2
    go_ret
    exact ⟨bm (by rw [HR.out]), rfl⟩
   ·have hnb : ((n : Int) != (l.length : Int)) = true := by simp; omega
    have HR := Lib.hid (HC.out.trans (if_neg (fun h => hn h.2)))
    clear hn
    go_wp2
    go_ret
    exact ⟨bm (by rw [HR.out]; rfl), rfl⟩
  ·have heb : ((e : Int) != 0) = true := by simp; omega
   have HR := Lib.hid (HC.out.trans (if_neg (fun h => he h.1)))
   go_wp2
   go_ret
   exact ⟨bm (by rw [HR.out]; rfl), rfl⟩
theorem jT {l : List UInt8} {c : UInt8} (h0 : 0 < l.length) (hc : l[0] = c) (h : aP c = true ∨ c.toNat = 35) : tokenT l = (0, 0, 2) := by
 have hv : c.toNat = 9 ∨ c.toNat = 10 ∨ c.toNat = 13 ∨ c.toNat = 32 ∨ c.toNat = 35 := by
  rcases h with h | h
  ·simp [aP] at h; omega
  ·omega
 have ha : ay c = true := by
  rcases hv with h | h | h | h | h <;> simp [ay, aP, cv, h]
 have hs : signs.contains c = false := by
  have h : ∀ n : UInt8, (c == n) = (c.toNat == n.toNat) := fun n => by rw [Bool.eq_iff_iff]; simp [UInt8.toNat_inj]
  simp only [signs, List.contains_cons, List.contains_nil, Bool.or_false, h]
  rcases hv with h | h | h | h | h <;> rw [h] <;> rfl
 rw [pG h0 hc, if_neg (by simp [ha]), if_neg (by simp [aN, bN, upperB]; omega), if_neg (by simp [aL]; omega), if_neg (by omega), if_neg (by omega), if_neg (by rw [hs]; simp)]
set_option maxHeartbeats 1000000 in
theorem vq (l : List UInt8) (w : World) (hl : l.length ≤ 281474976710656) : Calls Tryz.prog 84 #[.string ⟨l.toArray⟩] w fun e w' => e = .returned (.int .i64 (ar l : Nat)) ∧ Ext w w' := by
 by_cases h0 : l = []
 ·subst h0
  go_enter Tryz.func84, Tryz.ntmps84
  go_wp2
  go_ret
  exact ⟨rfl, Ext.refl _⟩
 ·have hb1 : (l == []) = false := by simpa using h0
  have hb2 : l.isEmpty = false := by simpa using h0
  have hpos : 0 < l.length := List.length_pos_iff.2 h0
  obtain ⟨k, n, e, hT⟩ : ∃ k n e, tokenT l = (k, n, e) := ⟨_, _, _, rfl⟩
  have HT := Lib.hid hT
  have HC := Lib.hid (show ar l = if e = 0 ∧ n = l.length then k else 0 from by simp only [ar, if_neg h0, hT])
  clear hT h0
  obtain ⟨c, hc⟩ : ∃ c, ({ data := l.toArray } : ByteArray)[0]'hpos = c := ⟨_, rfl⟩
  have HC0 := Lib.hid (show l[0] = c from hc)
  cases hw : aP c
  rotate_left
  ·have hz : (k, n, e) = (0, 0, 2) := HT.out.symm.trans (jT hpos HC0.out (.inl hw))
   have HR := Lib.hid (show ar l = 0 from by simp only [Prod.mk.injEq] at hz; rw [HC.out, if_neg (by omega)])
   clear hz
   go_enter Tryz.func84, Tryz.ntmps84
   go_wp2_with (first | (go_at_call 98; refine qmm (gw _ _) ?_))
   go_ret
   exact ⟨bm (by rw [HR.out]; rfl), Ext.refl _⟩
  cases h35 : ((c.toNat : Int) == 35)
  rotate_left
  ·have hz : (k, n, e) = (0, 0, 2) := HT.out.symm.trans (jT hpos HC0.out (.inr (bU (m := 35) h35)))
   have HR := Lib.hid (show ar l = 0 from by simp only [Prod.mk.injEq] at hz; rw [HC.out, if_neg (by omega)])
   clear hz
   go_enter Tryz.func84, Tryz.ntmps84
   go_wp2_with (first | (go_at_call 98; refine qmm (gw _ _) ?_))
   go_ret
   exact ⟨bm (by rw [HR.out]; rfl), Ext.refl _⟩
  have CN := Lib.hid (fun w => Bt l 0 0 rfl w hpos hl)
  go_enter Tryz.func84, Tryz.ntmps84
  go_wp2_with (first | (go_at_call 98; refine qmm (gw _ _) ?_))
  refine (CN.out _).mono ?_
  rintro e0 w1 ⟨rfl, hext⟩
  rw [List.drop_zero, HT.out]
  have HX := Lib.hid hext; clear hext CN
  by_cases he : e = 0
  ·subst he
   have HI := Lib.hid (show jx 0 (k, n, 0) = .agg #[.int .i64 n, .int .i64 k, .int .i64 0, .int .i64 0] from by simp [jx])
   rw [HI.out]
   clear HI
   by_cases hn : n = l.length
   ·have hnb : ((n : Int) != (l.length : Int)) = false := by simp; omega
    have HR := Lib.hid (HC.out.trans (if_pos ⟨rfl, hn⟩))
    clear hn
    go_wp2
    go_ret
    exact ⟨bm (by rw [HR.out]), HX.out.alloc _⟩
   ·have hnb : ((n : Int) != (l.length : Int)) = true := by simp; omega
    have HR := Lib.hid (HC.out.trans (if_neg (fun h => hn h.2)))
    clear hn
    go_wp2
    go_ret
    exact ⟨bm (by rw [HR.out]; rfl), HX.out.alloc _⟩
  ·have HI := Lib.hid (show jx 0 (k, n, e) = .agg #[.int .i64 0, .int .i64 0, .int .i64 e, .int .i64 ((0 + n : Nat) : Int)] from by simp [jx, he])
   rw [HI.out]
   clear HI
   have heb : ((e : Int) != 0) = true := by simp; omega
   have HR := Lib.hid (HC.out.trans (if_neg (fun h => he h.1)))
   go_wp2
   go_ret
   exact ⟨bm (by rw [HR.out]; rfl), HX.out.alloc _⟩
end Go.Proofs.YtgpcdfbmbcognaaGreat
namespace Go.Proofs.YtgpcdfbmbcognaaGreat
open Go.RowKit Lx Sx
theorem sum0_calls {fid : FuncId} {us : List V} {v : V} (hp1 : pureL us = true) (hp2 : v.pure = true) (h : ∀ (S : Nat → Prop) w ρ xs, LRel S w ρ us xs → Calls Tryz.prog fid xs.toArray w fun e w' => ∃ x, e = .returned x ∧ VRel S w' ρ v x ∧ Chg [] w w') : nu Tryz.prog fid us v :=
 ⟨hp1, hp2, fun S w ρ xs hr hx => (h S w ρ xs hx).mono fun e w' ⟨x, h1, h2, hc⟩ =>
  ⟨x, S, ρ, v, _, h1, rfl, hr.chg0 hc, ⟨ChgP.of0 hc, fun _ h => h, fun _ h => .inl h, fun id b hb => .inl ⟨id, hb⟩, fun id x h => by
   simp only [pq] at h
   split at h
   ·exact h
   ·cases h⟩, h2⟩⟩
theorem st {w w' : World} (h : Ext w w') : Chg [] w w' := Chg.of_ext h []
theorem Cq (l : List UInt8) (hl : l.length ≤ 281474976710656) : nu Tryz.prog 63 [.str l] (.int .i64 (ar l : Nat)) :=
 sum0_calls rfl rfl fun S w ρ xs hx => by
  simp only [LRel] at hx
  obtain ⟨x, ys, rfl, h1, rfl⟩ := hx
  simp only [VRel] at h1; subst h1
  exact (uf l w hl).mono fun e w' ⟨h1, h2⟩ => ⟨_, h1, by simp only [VRel], h2 ▸ Chg.refl _ _⟩
theorem AZ (l : List UInt8) (hl : l.length ≤ 281474976710656) : nu Tryz.prog 84 [.str l] (.int .i64 (ar l : Nat)) :=
 sum0_calls rfl rfl fun S w ρ xs hx => by
  simp only [LRel] at hx
  obtain ⟨x, ys, rfl, h1, rfl⟩ := hx
  simp only [VRel] at h1; subst h1
  exact (vq l w hl).mono fun e w' ⟨h1, h2⟩ => ⟨_, h1, by simp only [VRel], st h2⟩
end Go.Proofs.YtgpcdfbmbcognaaGreat
namespace Go.Proofs.YtgpcdfbmbcognaaGreat
open Go.RowKit Lx Sx
def lsum : List (List UInt8) → Nat
 | [] => 0
 | l :: r => l.length + 1 + lsum r
mutual
def tbulk : Tree → Nat
 | .node _ s ls ks => s.length + lsum ls + kbulk ks + 1
def kbulk : List Tree → Nat
 | [] => 0
 | t :: r => tbulk t + kbulk r
end
theorem bu (t : Tree) : 0 < tbulk t := by cases t; simp only [tbulk]; omega
theorem fq : ∀ (ks : List Tree), ks.length ≤ kbulk ks
 | [] => Nat.le_refl _
 | t :: r => by have := fq r; have := bu t; simp only [kbulk, List.length_cons]; omega
theorem lA : ∀ {ks : List Tree} {i : Nat} {t : Tree}, ks[i]? = some t → tbulk t ≤ kbulk ks
 | [], i, t, h => by simp at h
 | u :: r, 0, t, h => by simp only [List.getElem?_cons_zero, Option.some.injEq] at h; subst h; simp only [kbulk]; omega
 | u :: r, i + 1, t, h => by have := lA (ks := r) (i := i) (by simpa using h); simp only [kbulk]; omega
theorem dr : ∀ (a b : List Tree), kbulk (a ++ b) = kbulk a + kbulk b
 | [], b => by simp [kbulk]
 | t :: r, b => by simp only [List.cons_append, kbulk, dr r b]; omega
theorem gN : ∀ (l : List (List UInt8)), l.length ≤ lsum l
 | [] => Nat.le_refl _
 | x :: r => by have := gN r; simp only [lsum, List.length_cons]; omega
theorem oz : ∀ {l : List (List UInt8)} {i : Nat} {x : List UInt8}, l[i]? = some x → x.length + 1 ≤ lsum l
 | [], i, x, h => by simp at h
 | u :: r, 0, x, h => by simp only [List.getElem?_cons_zero, Option.some.injEq] at h; subst h; simp only [lsum]; omega
 | u :: r, i + 1, x, h => by have := oz (l := r) (i := i) (by simpa using h); simp only [lsum]; omega
theorem bD (t : Tree) : tbulk t = t.text.length + lsum t.leads + kbulk t.kids + 1 := by cases t; simp [tbulk, Tree.text, Tree.leads, Tree.kids]
theorem dP {t u : Tree} {i : Nat} (h : t.kids[i]? = some u) : tbulk u < tbulk t := by
 have := lA h; rw [bD t]; omega
theorem eh (t : Tree) : t.kids.length < tbulk t := by
 have := fq t.kids; rw [bD t]; omega
theorem cO (t : Tree) : t.text.length < tbulk t := by rw [bD t]; omega
theorem mQ (t : Tree) : t.leads.length < tbulk t := by
 have := gN t.leads; rw [bD t]; omega
theorem ec {C : Tree → Prop} (h : ∀ t : Tree, (∀ (i : Nat) (u : Tree), t.kids[i]? = some u → C u) → C t) : ∀ t, C t := fun t => by
 have : ∀ n t, tbulk t ≤ n → C t := fun n => by
  induction n with
  | zero => intro t ht; have := bu t; omega
  | succ n ih => intro t ht; exact h t fun i u hu => ih u (by have := dP hu; omega)
 exact this _ t (Nat.le_refl _)
theorem bd {α : Type} (l : List α) (i : Nat) : (∃ x, l[i]? = some x ∧ i < l.length) ∨ (¬ i < l.length) := by
 by_cases h : i < l.length
 ·exact .inl ⟨l[i], by simp [h], h⟩
 ·exact .inr h
theorem dD {α : Type} {l : List α} {i : Nat} {x : α} (h : l[i]? = some x) : l.drop i = x :: l.drop (i + 1) := by
 obtain ⟨hl, rfl⟩ := List.getElem?_eq_some_iff.1 h
 exact List.drop_eq_getElem_cons hl
end Go.Proofs.YtgpcdfbmbcognaaGreat
namespace Go.Proofs.YtgpcdfbmbcognaaGreat
open Go.RowKit Lx Sx
set_option maxHeartbeats 1000000
def f0 (n : Int) (least leads list : Nat) (most : Int) : Int := if 0 ≤ most ∧ most < n then -1 else if n < least then -1 else if most < 0 ∧ (list : Int) < n then leads + (n - list - 1) else leads
def co (k n : Int) : Int := if k = 1 then (if n < 0 then -1 else 3) else if k = 2 then f0 n 2 6 2 (-1) else if k = 16 then f0 n 0 3 0 (-1) else if k = 18 then f0 n 1 2 0 (-1) else if k = 3 then f0 n 1 3 0 1 else if k = 4 then f0 n 1 2 0 1 else if k = 8 then f0 n 1 2 0 1 else if k = 22 then f0 n 1 2 0 1 else if k = 17 then f0 n 1 0 0 1 else if k = 19 then f0 n 3 3 0 3 else if k = 20 then f0 n 2 4 0 2 else if k = 21 then f0 n 2 1 0 2 else if k = 5 ∨ k = 6 ∨ k = 7 ∨ k = 9 ∨ k = 10 ∨ k = 11 ∨ k = 12 ∨ k = 13 ∨ k = 14 ∨ k = 15 then f0 n 0 1 0 0 else -1
theorem mU (a b c : Int) : dF a b c (if a < b then -1 else c) := qn 0 _ _ _ _ ⟨fun h => by rw [if_pos h], fun h => by rw [if_neg h]⟩
theorem DJ (a b c : Int) : bM a b c (if a = b then c else -1) := pf 0 _ _ _ _ ⟨fun h => by rw [if_pos h], fun h => by rw [if_neg h]⟩
theorem Dr (m : Nat) {n : Int} (h0 : 0 ≤ n) (h1 : n ≤ 1000000000) (a b c : Nat) (z : Int) (hb : b ≤ 10) (hc : c ≤ 2) (hz : ¬ (0 ≤ z ∧ z < n)) : io (m + 1) n a b c z (f0 n a b c z) := by
 refine qW m _ _ _ _ _ _ ⟨fun h => ⟨fun h' => ⟨by omega, by omega, by omega, _, mU _ _ _, ?_⟩, fun h' => ⟨_, mU _ _ _, ?_⟩⟩, fun h => ⟨_, mU _ _ _, ?_⟩⟩
 ·simp only [f0, if_neg hz, h, h', true_and, if_true]
 ·simp only [f0, if_neg hz, h, h', true_and, if_false]
 ·simp only [f0, if_neg hz, h, false_and, if_false]
theorem DC (m : Nat) {n : Int} (h0 : 0 ≤ n) (h1 : n ≤ 1000000000) (a b c : Nat) (z : Int) (hb : b ≤ 10) (hc : c ≤ 2) : aH (m + 2) n a b c z (f0 n a b c z) := by
 refine qR (m + 1) _ _ _ _ _ _ ⟨fun h => ⟨fun h' => ?_, fun h' => Dr m h0 h1 _ _ _ _ hb hc (by omega)⟩, fun h => Dr m h0 h1 _ _ _ _ hb hc (by omega)⟩
 simp [f0, h, h']
theorem pP {k n : Int} (h0 : 0 ≤ n) (h1 : n ≤ 1000000000) : eM k n (co k n) := by
 have l0 : ∀ {r : Int} (a b c : Nat) (z : Int), b ≤ 10 → c ≤ 2 → r = f0 n a b c z → aH 3 n a b c z r := fun a b c z hb hc e => by rw [e]; exact DC 1 h0 h1 a b c z hb hc
 have l0' : ∀ {r : Int} (a b c : Nat) (z : Int), b ≤ 10 → c ≤ 2 → r = f0 n a b c z → aH 4 n a b c z r := fun a b c z hb hc e => by rw [e]; exact DC 2 h0 h1 a b c z hb hc
 refine ry 4 _ _ _ ?_
 repeat' first | (refine ⟨_, mU _ _ _, ?_⟩) | (refine And.intro (fun _ => ?_) (fun _ => ?_)) | (refine qY 3 _ _ _ _ ?_)
 all_goals first | (refine l0' _ _ _ _ (by decide) (by decide) ?_) | (refine l0 _ _ _ _ (by decide) (by decide) ?_) | skip
 all_goals simp_all [co]
theorem oa {k n : Int} (h0 : 0 ≤ n) (h1 : n ≤ 1000000000) : dy k n (co k n) := by
 refine oh 2 _ _ _ ?_
 repeat' first | (refine ⟨_, DJ _ _ _, ?_⟩) | (refine And.intro (fun _ => ?_) (fun _ => ?_)) | (refine nP 1 _ _ _ _ ?_) | (refine nL 0 _ _ _ _ ?_) | (refine And.intro (by omega) ?_)
 all_goals simp_all [co]
 all_goals (try unfold f0)
 all_goals (repeat' split)
 all_goals omega
def nk (x : List UInt8) : Bool := x == [43] || x == [45] || x == [42] || x == [60] || x == [61, 61]
def jy (k : Int) (x : List UInt8) : Bool := if k = 1 ∨ k = 3 then (ar x : Int) == 2 else if k = 2 ∨ k = 4 ∨ k = 12 ∨ k = 20 then (ar x : Int) == 1 else if k = 9 then (ar x : Int) == 2 || (ar x : Int) == 4 else if k = 16 then (ar x : Int) == 1 || (ar x : Int) == 3 else if k = 10 then (ar x : Int) == 5 else if k = 11 then (ar x : Int) == 6 else if k = 21 then nk x else x == []
theorem yb (x : List UInt8) : jb x (nk x) := by
 refine pH 0 _ _ ?_
 repeat' (refine And.intro (fun _ => ?_) (fun _ => ?_))
 all_goals simp_all [nk]
theorem vF (x : List UInt8) : eW x (nk x) := by
 refine lW 0 _ _ ?_
 repeat' (refine And.intro (fun _ => ?_) (fun _ => ?_))
 all_goals simp_all [nk]
theorem Al (k : Int) (x : List UInt8) (hx : x.length ≤ 281474976710656) : jX k x (jy k x) := by
 refine qV 2 _ _ _ ?_
 refine ⟨_, Cq x hx, ?_⟩
 repeat' first | (refine ⟨_, yb _, ?_⟩) | (refine And.intro (fun _ => ?_) (fun _ => ?_)) | (refine ql 1 _ _ _ _ _ ?_) | (refine qo 0 _ _ _ _ _ ?_)
 all_goals simp_all [jy]
theorem yN (k : Int) (x : List UInt8) (hx : x.length ≤ 281474976710656) : fI k x (jy k x) := by
 refine mG 2 _ _ _ ?_
 refine ⟨_, AZ x hx, ?_⟩
 repeat' first | (refine ⟨_, vF _, ?_⟩) | (refine And.intro (fun _ => ?_) (fun _ => ?_)) | (refine mu 1 _ _ _ _ _ ?_) | (refine ml 0 _ _ _ _ _ ?_)
 all_goals simp_all [jy]
def kz (k : Int) : Bool := decide (5 ≤ k ∧ k ≤ 9)
def ip (k : Int) : Bool := decide (10 ≤ k ∧ k ≤ 22 ∧ k ≠ 17)
def lT (k : Int) : Bool := ip k && decide (k ≠ 19 ∧ k ≠ 20 ∧ k ≠ 21)
theorem Bl (k : Int) : il k (kz k) := qP 0 _ _ ⟨fun h => by simp [kz, h], fun h => by simp [kz, h]⟩
theorem zR (k : Int) : ep k (kz k) := nG 0 _ _ ⟨fun h => by simp [kz, h], fun h => by simp [kz, h]⟩
theorem mc (a b : Int) : (a != b) = decide (a ≠ b) := by by_cases h : a = b <;> simp [h]
theorem uO (k : Int) : cS k (ip k) := nA 0 _ _ ⟨fun h => ⟨fun h' => by simp [ip, h, h', mc], fun h' => by simp [ip, h, h']⟩, fun h => by simp [ip, h]⟩
theorem tu (k : Int) : di k (ip k) := nK 0 _ _ ⟨fun h => ⟨fun h' => by simp [ip, h, h', mc], fun h' => by simp [ip, h, h']⟩, fun h => by simp [ip, h]⟩
theorem Ay (k : Int) : kB k (lT k) := by
 refine rm 0 _ _ ⟨_, uO k, ?_⟩
 repeat' (refine And.intro (fun _ => ?_) (fun _ => ?_))
 all_goals simp_all [lT, mc]
theorem pF (k : Int) : ew k (lT k) := by
 refine nN 0 _ _ ⟨_, tu k, ?_⟩
 repeat' (refine And.intro (fun _ => ?_) (fun _ => ?_))
 all_goals simp_all [lT, mc]
def kx (k n : Int) (i : Int) (kk : Int) : Bool := if k = 1 then kk == 2 || kk == 3 else if k = 2 then (if i = n - 1 then ip kk else if i = n - 2 then kz kk else kk == 4) else if k = 3 ∨ k = 4 ∨ k = 8 then kz kk else if k = 16 then kk == 17 else if k = 21 then lT kk || (decide (i = 0) && kk == 21) else ip kk
theorem Cb {t u : Tree} {i : Nat} (hu : t.kids[i]? = some u) : ll t i (kx t.kind t.kids.length i u.kind) := by
 refine rA 1 _ _ _ ⟨i, rfl, u, hu, ?_⟩
 repeat' first | (refine ⟨_, uO _, ?_⟩) | (refine ⟨_, Bl _, ?_⟩) | (refine ⟨_, Ay _, ?_⟩) | (refine And.intro (fun _ => ?_) (fun _ => ?_)) | (refine qQ 0 _ _ _ _ _ ?_)
 all_goals simp_all [kx]
theorem EJ (t : Tree) (i : Nat) (kk : Int) : jd t i kk (kx t.kind t.kids.length i kk) := by
 refine pu 1 _ _ _ _ ?_
 repeat' first | (refine ⟨_, tu _, ?_⟩) | (refine ⟨_, zR _, ?_⟩) | (refine ⟨_, pF _, ?_⟩) | (refine And.intro (fun _ => ?_) (fun _ => ?_)) | (refine pi 0 _ _ _ _ _ ?_)
 all_goals simp_all [kx]
mutual
def shapeK : Tree → Bool
 | .node k s _ ks => decide (0 ≤ co k ks.length) && jy k s && shapeKs k ks.length 0 ks
def shapeKs (k n : Int) : Nat → List Tree → Bool
 | _, [] => true
 | i, t :: r => kx k n i t.kind && shapeK t && shapeKs k n (i + 1) r
end
theorem jM (t : Tree) : shapeK t = (decide (0 ≤ co t.kind t.kids.length) && jy t.kind t.text && shapeKs t.kind t.kids.length 0 t.kids) := by cases t; simp only [shapeK]; rfl
theorem Ah : ∀ t : Tree, tbulk t ≤ 1000000000 → ik t (shapeK t) := ec fun t ih hb => by
 have hk := eh t
 have ht := cO t
 have loop : ∀ m i, t.kids.length - i ≤ m → (0 ≤ co t.kind t.kids.length ∧ jy t.kind t.text = true) → gG (m + 1) t i (shapeKs t.kind t.kids.length i (t.kids.drop i)) := fun m => by
  induction m with
  | zero =>
   intro i hi hw
   refine lO 0 _ _ _ ⟨fun h => by omega, fun h => ?_⟩
   rw [List.drop_of_length_le (by omega), shapeKs]
  | succ m ihm =>
   intro i hi hw
   refine lO (m + 1) _ _ _ ⟨fun h => ?_, fun h => ?_⟩
   ·obtain ⟨u, hu, _⟩ | h' := bd t.kids i
    ·rw [dD hu, shapeKs]
     have hbu := dP hu
     refine ⟨u, hu, _, Cb hu, fun h1 => by simp [h1], fun h1 => ⟨_, ih i u hu (by omega), fun h2 => by simp [h1, h2], fun h2 => ⟨by omega, ?_⟩⟩⟩
     simp only [h1, h2, Bool.true_and]
     exact ihm (i + 1) (by omega) hw
    ·exact absurd h h'
   ·rw [List.drop_of_length_le (by omega), shapeKs]
 rw [jM]
 refine rf (t.kids.length + 1) _ _ ⟨_, pP (by omega) (by omega), fun h => ?_, fun h => ⟨_, Al _ _ (by omega), fun h1 => by simp [h1], fun h1 => ?_⟩⟩
 ·rw [decide_eq_false (by omega)]; rfl
 ·rw [decide_eq_true (by omega), h1]
  exact loop _ 0 (by omega) ⟨by omega, h1⟩
theorem tq : ∀ t : Tree, tbulk t ≤ 1000000000 → dg t (shapeK t) := ec fun t ih hb => by
 have hk := eh t
 have ht := cO t
 have loop : ∀ m i, t.kids.length - i ≤ m → dW (m + 1) t i (shapeKs t.kind t.kids.length i (t.kids.drop i)) := fun m => by
  induction m with
  | zero =>
   intro i hi
   refine jf 0 _ _ _ ⟨fun h => by omega, fun h => ?_⟩
   rw [List.drop_of_length_le (by omega), shapeKs]
  | succ m ihm =>
   intro i hi
   refine jf (m + 1) _ _ _ ⟨fun h => ?_, fun h => ?_⟩
   ·obtain ⟨u, hu, _⟩ | h' := bd t.kids i
    ·rw [dD hu, shapeKs]
     have hbu := dP hu
     refine ⟨u, hu, _, EJ _ _ _, fun h1 => by simp [h1], fun h1 => ⟨u, hu, _, ih i u hu (by omega), fun h2 => by simp [h1, h2], fun h2 => ?_⟩⟩
     simp only [h1, h2, Bool.true_and]
     exact ihm (i + 1) (by omega)
    ·exact absurd h h'
   ·rw [List.drop_of_length_le (by omega), shapeKs]
 rw [jM]
 refine nF (t.kids.length + 1) _ _ ⟨_, oa (by omega) (by omega), fun h => ?_, fun h => ⟨_, yN _ _ (by omega), fun h1 => by simp [h1], fun h1 => ?_⟩⟩
 ·rw [decide_eq_false (by omega)]; rfl
 ·rw [decide_eq_true (by omega), h1]
  exact loop _ 0 (by omega)
end Go.Proofs.YtgpcdfbmbcognaaGreat
namespace Go.Proofs.YtgpcdfbmbcognaaGreat
open Go.RowKit Lx Sx
set_option maxHeartbeats 1000000
def Dc (L : List Int) (a : Int) : Prop := 0 ≤ a ∧ a ≤ L.length ∧ L.length ≤ 1000000000
theorem Es {a n : Int} (hn : 0 < n) (hn2 : n ≤ 1000000000) : ∃ r, jE a n r ∧ 0 ≤ r ∧ r < n := by
 have h1 := Int.lt_tmod_of_pos a hn
 have h2 := Int.tmod_lt_of_pos a hn
 by_cases h : Int.tmod a n < 0
 ·exact ⟨_, lP 0 _ _ _ ⟨by omega, fun _ => ⟨by omega, rfl⟩, fun h' => absurd h h'⟩, by omega, by omega⟩
 ·exact ⟨_, lP 0 _ _ _ ⟨by omega, fun h' => absurd h' h, fun _ => rfl⟩, by omega, by omega⟩
theorem dO {L : List Int} {a n : Int} (hd : Dc L a) (hn : 0 < n) (hn2 : n ≤ 1000000000) : ∃ r a', aC L a n r L a' ∧ (0 ≤ r ∧ r < n) ∧ Dc L a' := by
 obtain ⟨h0, h1, h2⟩ := hd
 by_cases h : (L.length : Int) ≤ a
 ·exact ⟨0, a, iO 0 _ _ _ _ _ _ ⟨fun _ => ⟨rfl, rfl, rfl⟩, fun h' => absurd h h'⟩, by omega, h0, h1, h2⟩
 ·obtain ⟨x, hx, _⟩ | h' := bd L a.toNat
  ·obtain ⟨r, hr, hr1⟩ := Es (a := x) hn hn2
   exact ⟨r, a + 1, iO 0 _ _ _ _ _ _ ⟨fun h' => absurd h' h, fun _ => ⟨by omega, by omega, a.toNat, by omega, x, hx, r, hr, rfl, rfl, rfl⟩⟩, hr1, by omega, by omega, h2⟩
  ·omega
theorem gp {L : List Int} {a : Int} (hd : Dc L a) (l : List (List UInt8)) (hl : 0 < l.length) (hl2 : l.length ≤ 1000000000) : ∃ s a', aX L a l s L a' ∧ s ∈ l ∧ Dc L a' := by
 obtain ⟨r, a', h1, h2, h3⟩ := dO hd (n := (l.length : Int)) (by omega) (by omega)
 obtain ⟨x, hx, _⟩ | h' := bd l r.toNat
 ·exact ⟨x, a', pL 0 _ _ _ _ _ _ ⟨_, _, _, h1, r.toNat, by omega, x, hx, rfl, rfl, rfl⟩, List.mem_of_getElem? hx, h3⟩
 ·omega
def Gt (L : List Int) (C : Tree → Int → Prop) (B : Nat) : Prop := ∃ t a', C t a' ∧ Dc L a' ∧ tbulk t ≤ B
theorem Gt.map {L : List Int} {C C' : Tree → Int → Prop} {B B' : Nat} (h : Gt L C B) (hb : B ≤ B') (k : ∀ t a', C t a' → C' t a') : Gt L C' B' := by
 obtain ⟨t, a', h1, h2, h3⟩ := h; exact ⟨t, a', k t a' h1, h2, by omega⟩
theorem fy {l : List (List UInt8)} {s : List UInt8} (h : s ∈ l) (hl : l.all (fun x => decide (x.length ≤ 5)) = true) : s.length ≤ 5 := by
 have := List.all_eq_true.1 hl s h; simpa using this
theorem tb0 (k : Int) (s : List UInt8) : tbulk (.node k s [] []) = s.length + 1 := by simp [tbulk, lsum, kbulk]
theorem tb1 (k : Int) (s : List UInt8) (t : Tree) : tbulk (.node k s [] [t]) = s.length + tbulk t + 1 := by simp [tbulk, lsum, kbulk]
theorem tb2 (k : Int) (s : List UInt8) (t u : Tree) : tbulk (.node k s [] [t, u]) = s.length + tbulk t + tbulk u + 1 := by simp [tbulk, lsum, kbulk]; omega
theorem tb3 (k : Int) (s : List UInt8) (t u v : Tree) : tbulk (.node k s [] [t, u, v]) = s.length + tbulk t + tbulk u + tbulk v + 1 := by simp [tbulk, lsum, kbulk]; omega
theorem tbK (k : Int) (s : List UInt8) (l : List Tree) : tbulk (.node k s [] l) = s.length + kbulk l + 1 := by simp [tbulk, lsum]
theorem yd {L : List Int} : ∀ (d : Nat) {a : Int}, Dc L a → d ≤ 100 → Gt L (fun t a' => bT L a d t L a') (6 + d) := fun d => by
 induction d with
 | zero =>
  intro a hd _
  obtain ⟨r, a1, h1, h2, h3⟩ := dO hd (n := 7) (by omega) (by omega)
  have top : ∀ {t a'}, em 1 0 r L a1 false t L a' → r ≠ 0 → r ≠ 1 → bT L a 0 t L a' := fun h n0 n1 => fY 1 _ _ _ _ _ _ ⟨_, _, _, h1, fun e => absurd e n0, fun _ => by rw [show (r == 1) = false by simpa using n1]; exact h⟩
  by_cases e0 : r = 0 ∨ r = 1
  ·refine ⟨_, a1, fY 1 _ _ _ _ _ _ ⟨_, _, _, h1, fun e => be 0 _ _ _ _ _ _ _ _ ⟨fun _ => ⟨rfl, rfl, rfl⟩, fun h => nomatch h⟩, fun e => be 0 _ _ _ _ _ _ _ _ ⟨fun _ => ⟨rfl, rfl, rfl⟩, fun h => ?_⟩⟩, h3, by rw [tb0]; simp only [List.length_nil]; omega⟩
   rcases e0 with e0 | e0
   ·exact absurd e0 e
   ·rw [e0] at h; cases h
  ·by_cases e2 : r = 2
   ·exact ⟨_, a1, top (be 0 _ _ _ _ _ _ _ _ ⟨fun h => (nomatch h), fun _ => ⟨fun _ => ⟨rfl, rfl, rfl⟩, fun h => absurd e2 h⟩⟩) (by omega) (by omega), h3, by rw [tb0]; simp only [List.length_nil]; omega⟩
   ·by_cases e3 : r = 3
    ·exact ⟨_, a1, top (be 0 _ _ _ _ _ _ _ _ ⟨fun h => (nomatch h), fun _ => ⟨fun h => absurd h e2, fun _ => ⟨fun _ => ⟨rfl, rfl, rfl⟩, fun h => absurd e3 h⟩⟩⟩) (by omega) (by omega), h3, by rw [tb0]; simp only [List.length_nil]; omega⟩
    ·by_cases e4 : r = 4
     ·obtain ⟨s, a2, g1, g2, g3⟩ := gp h3 [[84], [85], [65, 46, 84], [66, 46, 85]] (by decide) (by decide)
      have := fy g2 (by decide)
      exact ⟨_, a2, top (be 0 _ _ _ _ _ _ _ _ ⟨fun h => (nomatch h), fun _ => ⟨fun h => absurd h e2, fun _ => ⟨fun h => absurd h e3, fun _ => ⟨fun _ => ⟨_, _, _, g1, rfl, rfl, rfl⟩, fun h => absurd e4 h⟩⟩⟩⟩) (by omega) (by omega), g3, by rw [tb0]; omega⟩
     ·exact ⟨_, a1, top (be 0 _ _ _ _ _ _ _ _ ⟨fun h => (nomatch h), fun _ => ⟨fun h => absurd h e2, fun _ => ⟨fun h => absurd h e3, fun _ => ⟨fun h => absurd h e4, fun _ => ⟨fun _ => ⟨rfl, rfl, rfl⟩, fun h => by omega⟩⟩⟩⟩⟩) (by omega) (by omega), h3, by rw [tb0]; simp only [List.length_nil]; omega⟩
 | succ d ih =>
  intro a hd hd100
  obtain ⟨r, a1, h1, h2, h3⟩ := dO hd (n := 7) (by omega) (by omega)
  have top : ∀ {t a'}, em 1 ((d + 1 : Nat) : Int) r L a1 false t L a' → r ≠ 0 → r ≠ 1 → bT L a ((d + 1 : Nat) : Int) t L a' := fun h n0 n1 => fY 1 _ _ _ _ _ _ ⟨_, _, _, h1, fun e => absurd e n0, fun _ => by rw [show (r == 1) = false by simpa using n1]; exact h⟩
  by_cases e0 : r = 0 ∨ r = 1
  ·refine ⟨_, a1, fY 1 _ _ _ _ _ _ ⟨_, _, _, h1, fun e => be 0 _ _ _ _ _ _ _ _ ⟨fun _ => ⟨rfl, rfl, rfl⟩, fun h => nomatch h⟩, fun e => be 0 _ _ _ _ _ _ _ _ ⟨fun _ => ⟨rfl, rfl, rfl⟩, fun h => ?_⟩⟩, h3, by rw [tb0]; simp only [List.length_nil]; omega⟩
   rcases e0 with e0 | e0
   ·exact absurd e0 e
   ·rw [e0] at h; cases h
  ·by_cases e2 : r = 2
   ·exact ⟨_, a1, top (be 0 _ _ _ _ _ _ _ _ ⟨fun h => (nomatch h), fun _ => ⟨fun _ => ⟨rfl, rfl, rfl⟩, fun h => absurd e2 h⟩⟩) (by omega) (by omega), h3, by rw [tb0]; simp only [List.length_nil]; omega⟩
   ·by_cases e3 : r = 3
    ·exact ⟨_, a1, top (be 0 _ _ _ _ _ _ _ _ ⟨fun h => (nomatch h), fun _ => ⟨fun h => absurd h e2, fun _ => ⟨fun _ => ⟨rfl, rfl, rfl⟩, fun h => absurd e3 h⟩⟩⟩) (by omega) (by omega), h3, by rw [tb0]; simp only [List.length_nil]; omega⟩
    ·by_cases e4 : r = 4
     ·obtain ⟨s, a2, g1, g2, g3⟩ := gp h3 [[84], [85], [65, 46, 84], [66, 46, 85]] (by decide) (by decide)
      have := fy g2 (by decide)
      exact ⟨_, a2, top (be 0 _ _ _ _ _ _ _ _ ⟨fun h => (nomatch h), fun _ => ⟨fun h => absurd h e2, fun _ => ⟨fun h => absurd h e3, fun _ => ⟨fun _ => ⟨_, _, _, g1, rfl, rfl, rfl⟩, fun h => absurd e4 h⟩⟩⟩⟩) (by omega) (by omega), g3, by rw [tb0]; omega⟩
     ·obtain ⟨t, a2, g1, g2, g3⟩ := ih h3 (by omega)
      have g1' : bT L a1 (((d + 1 : Nat) : Int) - 1) t L a2 := by rw [show ((d + 1 : Nat) : Int) - 1 = (d : Int) by omega]; exact g1
      exact ⟨_, a2, top (be 0 _ _ _ _ _ _ _ _ ⟨fun h => (nomatch h), fun _ => ⟨fun h => absurd h e2, fun _ => ⟨fun h => absurd h e3, fun _ => ⟨fun h => absurd h e4, fun _ => ⟨fun h => by omega, fun _ => ⟨by omega, _, _, _, g1', rfl, rfl, rfl⟩⟩⟩⟩⟩⟩) (by omega) (by omega), g2, by rw [tb1]; simp only [List.length_nil]; omega⟩
def eB : Nat → Nat
 | 0 => 6
 | d + 1 => 3 * eB d + 20
section
variable {L : List Int} {d a z : Int} {t : Tree} {a' : Int} {m : Nat}
theorem up2 (h0 : z ≠ 0) (h1 : z ≠ 1) (h : fz m d L a z t L a') : bQ (m + 2) d L a z t L a' :=
 rL0_semvcsmake_Expr (m + 1) _ _ _ _ _ _ _ ⟨fun e => absurd e h0, fun _ => ic m _ _ _ _ _ _ _ _ ⟨fun e => absurd (eq_of_beq e) h1, fun _ => h⟩⟩
theorem up6 (h2 : z ≠ 2) (h3 : z ≠ 3) (h4 : z ≠ 4) (h5 : z ≠ 5) (h : fu m d L a z t L a') : fz (m + 4) d L a z t L a' :=
 rL2_semvcsmake_Expr (m + 3) _ _ _ _ _ _ _ ⟨fun e => absurd e h2, fun _ => dB (m + 2) _ _ _ _ _ _ _ ⟨fun e => absurd e h3, fun _ => fb (m + 1) _ _ _ _ _ _ _ ⟨fun e => absurd e h4, fun _ => hD m _ _ _ _ _ _ _ ⟨fun e => absurd e h5, fun _ => h⟩⟩⟩⟩
theorem up9 (h6 : z ≠ 6) (h7 : z ≠ 7) (h : dN m d L a z t L a') : fu (m + 2) d L a z t L a' :=
 rL6_semvcsmake_Expr (m + 1) _ _ _ _ _ _ _ ⟨fun e => absurd e h6, fun _ => hW m _ _ _ _ _ _ _ _ ⟨fun e => absurd (eq_of_beq e) h7, fun _ => h⟩⟩
theorem DB (h8 : z ≠ 8) (h : eY m d L a z t L a') : dN (m + 1) d L a z t L a' := kM m _ _ _ _ _ _ _ ⟨fun e => absurd e h8, fun _ => h⟩
theorem Fk (h9 : z ≠ 9) (h : dw m d L a z t L a') : eY (m + 1) d L a z t L a' := ku m _ _ _ _ _ _ _ ⟨fun e => absurd e h9, fun _ => h⟩
theorem EY (h10 : z ≠ 10) (h11 : z ≠ 11) (h : eZ m d L a z t L a') : dw (m + 2) d L a z t L a' :=
 rL14_semvcsmake_Expr (m + 1) _ _ _ _ _ _ _ ⟨fun e => absurd e h10, fun _ => gO m _ _ _ _ _ _ _ _ ⟨fun e => absurd (eq_of_beq e) h11, fun _ => h⟩⟩
end
theorem sb {L : List Int} {d a z : Int} (M : Nat) (hd : Dc L a) (h0 : 0 ≤ z) (h5 : z ≤ 5) : Gt L (fun t a' => bQ (M + 8) d L a z t L a') 6 := by
 by_cases e0 : z = 0 ∨ z = 1
 ·obtain ⟨s, a2, g1, g2, g3⟩ := gp hd [[120], [121], [122]] (by decide) (by decide)
  have := fy g2 (by decide)
  refine ⟨_, a2, rL0_semvcsmake_Expr (M + 7) _ _ _ _ _ _ _ ⟨fun e => ic (M + 6) _ _ _ _ _ _ _ _ ⟨fun _ => ⟨_, _, _, g1, rfl, rfl, rfl⟩, fun h => nomatch h⟩, fun e => ic (M + 6) _ _ _ _ _ _ _ _ ⟨fun _ => ⟨_, _, _, g1, rfl, rfl, rfl⟩, fun h => ?_⟩⟩, g3, by rw [tb0]; omega⟩
  rcases e0 with e0 | e0
  ·exact absurd e0 e
  ·rw [e0] at h; exact absurd h (by decide)
 have n0 : z ≠ 0 := by omega
 have n1 : z ≠ 1 := by omega
 by_cases e2 : z = 2
 ·obtain ⟨s, a2, g1, g2, g3⟩ := gp hd [[48], [49], [50], [49, 48]] (by decide) (by decide)
  have := fy g2 (by decide)
  exact ⟨_, a2, up2 n0 n1 (rL2_semvcsmake_Expr (M + 5) _ _ _ _ _ _ _ ⟨fun _ => ⟨_, _, _, g1, rfl, rfl, rfl⟩, fun h => absurd e2 h⟩), g3, by rw [tb0]; omega⟩
 by_cases e3 : z = 3
 ·obtain ⟨s, a2, g1, g2, g3⟩ := gp hd [[34, 34], [34, 97, 34], [34, 35, 32, 98, 34]] (by decide) (by decide)
  have := fy g2 (by decide)
  exact ⟨_, a2, up2 n0 n1 (rL2_semvcsmake_Expr (M + 5) _ _ _ _ _ _ _ ⟨fun h => absurd h e2, fun _ => dB (M + 4) _ _ _ _ _ _ _ ⟨fun _ => ⟨_, _, _, g1, rfl, rfl, rfl⟩, fun h => absurd e3 h⟩⟩), g3, by rw [tb0]; omega⟩
 by_cases e4 : z = 4
 ·obtain ⟨r, a2, g1, g2, g3⟩ := dO hd (n := 2) (by omega) (by omega)
  exact ⟨_, a2, up2 n0 n1 (rL2_semvcsmake_Expr (M + 5) _ _ _ _ _ _ _ ⟨fun h => absurd h e2, fun _ => dB (M + 4) _ _ _ _ _ _ _ ⟨fun h => absurd h e3, fun _ => fb (M + 3) _ _ _ _ _ _ _ ⟨fun _ => ⟨_, _, _, g1, by omega, rfl, rfl, rfl⟩, fun h => absurd e4 h⟩⟩⟩), g3, by rw [tb0]; simp only [List.length_nil]; omega⟩
 have e5 : z = 5 := by omega
 obtain ⟨r, a2, g1, g2, g3⟩ := dO hd (n := 3) (by omega) (by omega)
 by_cases er : r = 0
 ·exact ⟨_, a2, up2 n0 n1 (rL2_semvcsmake_Expr (M + 5) _ _ _ _ _ _ _ ⟨fun h => absurd h e2, fun _ => dB (M + 4) _ _ _ _ _ _ _ ⟨fun h => absurd h e3, fun _ => fb (M + 3) _ _ _ _ _ _ _ ⟨fun h => absurd h e4, fun _ => hD (M + 2) _ _ _ _ _ _ _ ⟨fun _ => ⟨_, _, _, g1, fun _ => ⟨rfl, rfl, rfl⟩, fun h => absurd er h⟩, fun h => absurd e5 h⟩⟩⟩⟩), g3, by rw [tb0]; simp only [List.length_nil]; omega⟩
 ·exact ⟨_, a2, up2 n0 n1 (rL2_semvcsmake_Expr (M + 5) _ _ _ _ _ _ _ ⟨fun h => absurd h e2, fun _ => dB (M + 4) _ _ _ _ _ _ _ ⟨fun h => absurd h e3, fun _ => fb (M + 3) _ _ _ _ _ _ _ ⟨fun h => absurd h e4, fun _ => hD (M + 2) _ _ _ _ _ _ _ ⟨fun _ => ⟨_, _, _, g1, fun h => absurd h er, fun _ => ⟨rfl, rfl, rfl⟩⟩, fun h => absurd e5 h⟩⟩⟩⟩), g3, by rw [tb0]; simp⟩
theorem wv {L : List Int} {a : Int} (hd : Dc L a) : Gt L (fun t a' => aK L a 0 t L a') 6 := by
 obtain ⟨r, a1, h1, h2, h3⟩ := dO hd (n := 14) (by omega) (by omega)
 by_cases e1 : 5 < r
 ·by_cases e2 : 5 < r - 6
  ·exact (sb 0 (d := 0) h3 (z := 0) (by omega) (by omega)).map (Nat.le_refl _) fun t a' h => fB 8 _ _ _ _ _ _ ⟨_, _, _, h1, fun _ => ⟨fun _ => ⟨by omega, fun _ => h, fun h' => absurd e2 h'⟩, fun h' => absurd e1 h'⟩, fun h' => by omega⟩
  ·exact (sb 0 (d := 0) h3 (z := r - 6) (by omega) (by omega)).map (Nat.le_refl _) fun t a' h => fB 8 _ _ _ _ _ _ ⟨_, _, _, h1, fun _ => ⟨fun _ => ⟨by omega, fun h' => absurd h' e2, fun _ => h⟩, fun h' => absurd e1 h'⟩, fun h' => by omega⟩
 ·exact (sb 0 (d := 0) h3 (z := r) (by omega) (by omega)).map (Nat.le_refl _) fun t a' h => fB 8 _ _ _ _ _ _ ⟨_, _, _, h1, fun _ => ⟨fun h' => absurd h' e1, fun _ => h⟩, fun h' => by omega⟩
theorem rU {L : List Int} {k : Int} {B : Nat} {a : Int} (h : Gt L (fun t a' => aK L a k t L a') B) : Gt L (fun t a' => dn L a k t L a') (B + 1) := by
 obtain ⟨t, a2, g1, g2, g3⟩ := h
 cases hu : lT t.kind with
 | true => exact ⟨t, a2, lC 0 _ _ _ _ _ _ ⟨_, _, _, g1, _, pF _, fun h => absurd (hu.symm.trans h) (by decide), fun _ => ⟨rfl, rfl, rfl⟩⟩, g2, by omega⟩
 | false => exact ⟨_, a2, lC 0 _ _ _ _ _ _ ⟨_, _, _, g1, _, pF _, fun _ => ⟨rfl, rfl, rfl⟩, fun h => absurd (hu.symm.trans h) (by decide)⟩, g2, by rw [tb1]; simp only [List.length_nil]; omega⟩
theorem zq : ∀ d, 6 ≤ eB d
 | 0 => Nat.le_refl _
 | d + 1 => by have := zq d; simp only [eB]; omega
theorem Ds {L : List Int} : ∀ (d : Nat) {a : Int}, Dc L a → d ≤ 5 → Gt L (fun t a' => aK L a d t L a') (eB d) := fun d => by
 induction d with
 | zero => intro a hd _; exact wv hd
 | succ d ih =>
  intro a hd hd5
  obtain ⟨z, a1, h1, h2, h3⟩ := dO hd (n := 14) (by omega) (by omega)
  have top : ∀ {M t a'}, bQ M ((d + 1 : Nat) : Int) L a1 z t L a' → aK L a ((d + 1 : Nat) : Int) t L a' := fun {M} {t} {a'} h => fB M _ _ _ _ _ _ ⟨_, _, _, h1, fun h' => by omega, fun _ => h⟩
  have sub : ∀ {a}, Dc L a → Gt L (fun t a' => aK L a (((d + 1 : Nat) : Int) - 1) t L a') (eB d) := fun {a} h => by rw [show ((d + 1 : Nat) : Int) - 1 = (d : Int) by omega]; exact ih h (by omega)
  have hB : eB (d + 1) = 3 * eB d + 20 := rfl
  have hp := zq d
  by_cases c5 : z ≤ 5
  ·exact (sb 0 (d := ((d + 1 : Nat) : Int)) h3 (by omega) c5).map (by omega) fun t a' h => top h
  have n0 : z ≠ 0 := by omega
  have n1 : z ≠ 1 := by omega
  have n2 : z ≠ 2 := by omega
  have n3 : z ≠ 3 := by omega
  have n4 : z ≠ 4 := by omega
  have n5 : z ≠ 5 := by omega
  by_cases c7 : z ≤ 7
  · -- a call
   obtain ⟨s, a2, g1, g2, g3⟩ := gp h3 [[102], [103], [104], [65, 46, 102], [66, 46, 103], [65, 46, 104]] (by decide) (by decide)
   have hs := fy g2 (by decide)
   obtain ⟨n, a3, g4, g5, g6⟩ := dO g3 (n := 4) (by omega) (by omega)
   have loop : ∀ (k : Nat) (a : Int) (l : List Tree), Dc L a → l.length + k ≤ 100 → Gt L (fun t a' => fc (k + 1) ((d + 1 : Nat) : Int) s L a l (k : Int) t L a') (s.length + 1 + kbulk l + k * (eB d + 1)) := fun k => by
    induction k with
    | zero => intro a l hd hl; exact ⟨_, a, kw 0 _ _ _ _ _ _ _ _ _ ⟨fun h => by omega, fun _ => ⟨rfl, rfl, rfl⟩⟩, hd, by rw [tbK]; omega⟩
    | succ k ihk =>
     intro a l hd hl
     obtain ⟨t, b, q1, q2, q3⟩ := sub hd
     refine (ihk b (l ++ [.node 17 [] [] [t]]) q2 (by simp; omega)).map ?_ fun t' a' h => kw (k + 1) _ _ _ _ _ _ _ _ _ ⟨fun _ => ⟨by omega, _, _, _, q1, by simp; omega, by omega, by rw [show ((k + 1 : Nat) : Int) - 1 = (k : Int) by omega]; exact h⟩, fun h => by omega⟩
     rw [dr, Nat.succ_mul]; simp only [kbulk, tb1, List.length_nil]
     omega
   refine (loop n.toNat a3 [] g6 (by simp; omega)).map (by
    have : n.toNat * (eB d + 1) ≤ 3 * (eB d + 1) := Nat.mul_le_mul_right _ (by omega)
    simp only [kbulk]; omega) fun t a' h => ?_
   have h8 : iy (n.toNat + 2) ((d + 1 : Nat) : Int) L a1 t L a' := pj (n.toNat + 1) _ _ _ _ _ _ ⟨_, _, _, g1, _, _, _, g4, by rw [show n = ((n.toNat : Nat) : Int) by omega]; exact h⟩
   refine top (up2 n0 n1 (up6 n2 n3 n4 n5 (rL6_semvcsmake_Expr (n.toNat + 3) _ _ _ _ _ _ _ ⟨fun _ => hW (n.toNat + 2) _ _ _ _ _ _ _ _ ⟨fun _ => h8, fun h => nomatch h⟩, fun h => hW (n.toNat + 2) _ _ _ _ _ _ _ _ ⟨fun _ => h8, fun h' => ?_⟩⟩)))
   have : z ≠ 7 := by simpa using h'
   omega
  have n6 : z ≠ 6 := by omega
  have n7 : z ≠ 7 := by omega
  have t9 : ∀ {M t a'}, dN M ((d + 1 : Nat) : Int) L a1 z t L a' → aK L a ((d + 1 : Nat) : Int) t L a' := fun h => top (up2 n0 n1 (up6 n2 n3 n4 n5 (up9 n6 n7 h)))
  by_cases c8 : z = 8
  · -- a list
   obtain ⟨n, a3, g4, g5, g6⟩ := dO h3 (n := 3) (by omega) (by omega)
   have loop : ∀ (k : Nat) (a : Int) (l : List Tree), Dc L a → l.length + k ≤ 100 → Gt L (fun t a' => eX (k + 1) ((d + 1 : Nat) : Int) L a l (k : Int) t L a') (1 + kbulk l + k * (eB d)) := fun k => by
    induction k with
    | zero => intro a l hd hl; exact ⟨_, a, jY 0 _ _ _ _ _ _ _ _ ⟨fun h => by omega, fun _ => ⟨rfl, rfl, rfl⟩⟩, hd, by rw [tbK]; simp only [List.length_nil]; omega⟩
    | succ k ihk =>
     intro a l hd hl
     obtain ⟨t, b, q1, q2, q3⟩ := sub hd
     refine (ihk b (l ++ [t]) q2 (by simp; omega)).map ?_ fun t' a' h => jY (k + 1) _ _ _ _ _ _ _ _ ⟨fun _ => ⟨by omega, _, _, _, q1, by simp; omega, by omega, by rw [show ((k + 1 : Nat) : Int) - 1 = (k : Int) by omega]; exact h⟩, fun h => by omega⟩
     rw [dr, Nat.succ_mul]; simp only [kbulk]
     omega
   exact (loop (1 + n).toNat a3 [] g6 (by simp; omega)).map (by
    have : (1 + n).toNat * eB d ≤ 3 * eB d := Nat.mul_le_mul_right _ (by omega)
    simp only [kbulk]; omega) fun t a' h => t9 (kM ((1 + n).toNat + 1) _ _ _ _ _ _ _ ⟨fun _ => ⟨_, _, _, g4, by omega, by rw [show (((1 + n).toNat : Nat) : Int) = 1 + n by omega] at h; exact h⟩, fun h' => absurd c8 h'⟩)
  by_cases c9 : z = 9
  ·obtain ⟨t1, b1, q1, r1, s1⟩ := sub h3
   obtain ⟨t2, b2, q2, r2, s2⟩ := sub r1
   obtain ⟨t3, b3, q3, r3, s3⟩ := sub r2
   exact ⟨_, b3, t9 (DB c8 (ku 1 _ _ _ _ _ _ _ ⟨fun _ => oQ 0 _ _ _ _ _ _ ⟨by omega, _, _, _, q1, by omega, _, _, _, q2, by omega, _, _, _, q3, rfl, rfl, rfl⟩, fun h => absurd c9 h⟩)), r3, by rw [tb3]; simp only [List.length_nil]; omega⟩
  have t14 : ∀ {M t a'}, dw M ((d + 1 : Nat) : Int) L a1 z t L a' → aK L a ((d + 1 : Nat) : Int) t L a' := fun h => t9 (DB c8 (Fk c9 h))
  by_cases c11 : z ≤ 11
  ·obtain ⟨s, b0, g1, g2, g3⟩ := gp h3 [[120], [121], [122]] (by decide) (by decide)
   have hs := fy g2 (by decide)
   obtain ⟨t1, b1, q1, r1, s1⟩ := sub g3
   obtain ⟨t2, b2, q2, r2, s2⟩ := sub r1
   refine ⟨.node 20 s [] [t1, t2], b2, ?_, r2, by rw [tb2]; omega⟩
   have h16 : hZ 1 ((d + 1 : Nat) : Int) L a1 (.node 20 s [] [t1, t2]) L b2 := oH 0 _ _ _ _ _ _ ⟨_, _, _, g1, by omega, _, _, _, q1, by omega, _, _, _, q2, rfl, rfl, rfl⟩
   refine t14 (rL14_semvcsmake_Expr 2 _ _ _ _ _ _ _ ⟨fun _ => gO 1 _ _ _ _ _ _ _ _ ⟨fun _ => h16, fun h => nomatch h⟩, fun h => gO 1 _ _ _ _ _ _ _ _ ⟨fun _ => h16, fun h' => ?_⟩⟩)
   have : z ≠ 11 := by simpa using h'
   omega
  have t17 : ∀ {M t a'}, eZ M ((d + 1 : Nat) : Int) L a1 z t L a' → aK L a ((d + 1 : Nat) : Int) t L a' := fun h => t14 (EY (by omega) (by omega) h)
  by_cases c12 : z = 12
  ·obtain ⟨s, b0, g1, g2, g3⟩ := gp h3 [[43], [45], [42], [60], [61, 61]] (by decide) (by decide)
   have hs := fy g2 (by decide)
   obtain ⟨t1, b1, q1, r1, s1⟩ := rU (sub g3)
   obtain ⟨n, b2, q2, q3, q4⟩ := dO r1 (n := 3) (by omega) (by omega)
   by_cases hn : n = 0
   ·obtain ⟨s', b3, g4, g5, g6⟩ := gp q4 [[43], [42]] (by decide) (by decide)
    have hs' := fy g5 (by decide)
    obtain ⟨t2, b4, q5, r5, s5⟩ := rU (wv g6)
    obtain ⟨t3, b5, q6, r6, s6⟩ := rU (sub r5)
    exact ⟨_, b5, t17 (gW 1 _ _ _ _ _ _ _ ⟨fun _ => jU 0 _ _ _ _ _ _ ⟨_, _, _, g1, by omega, _, _, _, q1, _, _, _, q2, fun _ => ⟨_, _, _, g4, _, _, _, q5, by omega, _, _, _, q6, rfl, rfl, rfl⟩, fun h => absurd hn h⟩, fun h => absurd c12 h⟩), r6, by rw [tb2, tb2]; omega⟩
   ·obtain ⟨t3, b5, q6, r6, s6⟩ := rU (sub q4)
    exact ⟨_, b5, t17 (gW 1 _ _ _ _ _ _ _ ⟨fun _ => jU 0 _ _ _ _ _ _ ⟨_, _, _, g1, by omega, _, _, _, q1, _, _, _, q2, fun h => absurd h hn, fun _ => ⟨by omega, _, _, _, q6, rfl, rfl, rfl⟩⟩, fun h => absurd c12 h⟩), r6, by rw [tb2]; omega⟩
  ·obtain ⟨t1, b1, q1, r1, s1⟩ := sub h3
   exact ⟨_, b1, t17 (gW 1 _ _ _ _ _ _ _ ⟨fun h => absurd h c12, fun _ => ⟨by omega, _, _, _, q1, rfl, rfl, rfl⟩⟩), r1, by rw [tb1]; simp only [List.length_nil]; omega⟩
end Go.Proofs.YtgpcdfbmbcognaaGreat
namespace Go.Proofs.YtgpcdfbmbcognaaGreat
open Go.RowKit Lx
set_option maxRecDepth 100000
def gK : Bool → List UInt8 → Bool
 | c, [] => c
 | c, x :: r => gK (if x.toNat = 10 then false else if x.toNat = 35 then true else c) r
theorem iL : ∀ (b : Bool) (l : List UInt8) (n m : Nat), al b l (n + m) = ((al b l n).1 + m, (al b l n).2.map (· + m))
 | b, [], n, m => by cases b <;> simp [al]
 | false, c :: r, n, m => by
  have h1 := iL false r (n + 1) m
  have h2 := iL true r (n + 1) m
  unfold al
  split
  ·rw [← h1]; congr 1; omega
  ·split
   ·rw [← h2]; congr 1; omega
   ·simp
 | true, c :: r, n, m => by
  have h1 := iL false r (n + 1) m
  have h2 := iL true r (n + 1) m
  unfold al
  split
  ·rw [← h1]; congr 1; omega
  ·split
   ·simp
   ·rw [← h2]; congr 1; omega
def fv (c : Bool) (l : List UInt8) : Bool := (al c l 0).2.isNone && (al c l 0).1 == l.length
theorem lx {c d : Bool} {x : UInt8} {r : List UInt8} (h : al c (x :: r) 0 = al d r 1) : fv c (x :: r) = fv d r := by
 unfold fv
 rw [h, show (1 : Nat) = 0 + 1 from rfl, iL]
 simp
theorem lX : ∀ (l : List UInt8) (c fin : Bool), aM c l fin = (fv c l && (!gK c l || fin))
 | [], c, fin => by cases c <;> cases fin <;> rfl
 | x :: r, c, fin => by
  have ih := lX r
  unfold aM gK
  cases c with
  | true =>
   by_cases ha : ay x = false
   ·have h10 : ¬ x.toNat = 10 := fun h => by simp [ay, aP, h] at ha
    have : fv true (x :: r) = false := by simp [fv, al, h10, ha]
    rw [if_pos ha, this]; rfl
   ·have ha' : ay x = true := by simpa using ha
    rw [if_neg ha, if_pos rfl, ih]
    by_cases h10 : x.toNat = 10
    ·rw [lx (d := false) (by simp [al, h10])]; simp [h10]
    ·have hb : (x.toNat == 10) = false := by simpa using h10
     rw [lx (d := true) (by simp [al, h10, ha']), hb]; simp [h10]
  | false =>
   by_cases ha : ay x = false
   ·have hw : aP x = false := by cases h : aP x <;> simp_all [ay]
    have h35 : ¬ x.toNat = 35 := fun h => by simp [ay, cv, h] at ha
    have : fv false (x :: r) = false := by simp [fv, al, hw, h35]
    rw [if_pos ha, this]; rfl
   ·rw [if_neg ha, if_neg (by simp)]
    by_cases h35 : x.toNat = 35
    ·have hw : aP x = false := by simp [aP, h35]
     rw [if_pos h35, ih, lx (d := true) (by simp [al, h35, hw])]; simp [h35]
    ·rw [if_neg h35]
     by_cases hw : aP x = false
     ·have : fv false (x :: r) = false := by simp [fv, al, hw, h35]
      rw [if_pos hw, this]; rfl
     ·have hw' : aP x = true := by simpa using hw
      rw [if_neg hw, ih, lx (d := false) (by simp [al, hw'])]
      by_cases h10 : x.toNat = 10 <;> simp [h10, h35]
theorem vg {l : List UInt8} {k : Nat} {x : UInt8} {c fin : Bool} (h : k < l.length) (hc : l[k] = x) : aM c (l.drop k) fin =
  if ay x = false then false else if c = true then aM (!(x.toNat == 10)) (l.drop (k + 1)) fin else if x.toNat = 35 then aM true (l.drop (k + 1)) fin else if aP x = false then false else aM c (l.drop (k + 1)) fin := by
 rw [List.drop_eq_getElem_cons h, hc]; rfl
theorem vN {l : List UInt8} {k : Nat} {c fin : Bool} (h : l.length ≤ k) : aM c (l.drop k) fin = (!c || fin) := by
 rw [List.drop_of_length_le h]; rfl
theorem tF {l : List UInt8} {k : Nat} {x : UInt8} {c : Bool} (h : k < l.length) (hc : l[k] = x) : gK c (l.drop k) = gK (if x.toNat = 10 then false else if x.toNat = 35 then true else c) (l.drop (k + 1)) := by
 rw [List.drop_eq_getElem_cons h, hc]; rfl
theorem vp {l : List UInt8} {k : Nat} {c : Bool} (h : l.length ≤ k) : gK c (l.drop k) = c := by
 rw [List.drop_of_length_le h]; rfl
theorem Eg (x : UInt8) : ((x.toNat : Int) != 10) = !(x.toNat == 10) := by rw [Bool.eq_iff_iff]; simp; omega
end Go.Proofs.YtgpcdfbmbcognaaGreat
namespace Go.Proofs.YtgpcdfbmbcognaaGreat
open Go.RowKit Lx
set_option maxRecDepth 100000
set_option maxHeartbeats 1000000 in
theorem BM (l : List UInt8) (fin : Bool) (w : World) (hl : l.length ≤ 281474976710656) : Calls Tryz.prog 82 #[.string ⟨l.toArray⟩, .bool fin] w fun e w' => e = .returned (.bool (aM false l fin)) ∧ w = w' := by
  obtain ⟨n, b, hLd⟩ : ∃ n b, al false l 0 = (n, b) := ⟨_, _, rfl⟩
  have hnl : n ≤ l.length := by have h := jH false l 0; rw [hLd] at h; simpa using h
  have HLd := Lib.hid hLd
  have HW := Lib.hid (show fv false l = (b.isNone && n == l.length) from by rw [fv, hLd])
  have HT := Lib.hid (lX l false fin)
  clear hLd
  go_enter Tryz.func82, Tryz.ntmps82
  go_wp2_with fail
  refine (Br l 0 0 rfl _ (Nat.zero_le _) hl).mono ?_
  rintro e w' ⟨rfl, rfl⟩
  rw [List.drop_zero, HLd.out]
  cases b with
  | some q =>
    have hq2 : qM 0 (some q) = ((0 + q : Nat) : Int) := rfl
    rw [hq2, Nat.zero_add]
    have hq : (0 : Int) ≤ (q : Int) := by omega
    have HF := Lib.hid (show aM false l fin = false from by rw [HT.out, HW.out]; rfl)
    go_wp2
    go_ret
    exact ⟨aO HF.out.symm, rfl⟩
  | none =>
    have hq2 : qM 0 none = -1 := rfl
    rw [hq2]
    clear hq2
    by_cases hn : n < l.length
    · have HF := Lib.hid (show aM      false l fin = false from by rw [HT.out, HW.out]; have : (n == l.length) = false := by simp; omega
                                                                   rw [this]; rfl)
      go_wp2
      go_ret
      exact ⟨aO HF.out.symm, rfl⟩
    · have hnb : decide (n < l.length) = false := by simpa using hn
      have HF := Lib.hid (show aM false l fin = (!gK false l || fin) from by
        rw [HT.out, HW.out]; have : (n == l.length) = true := by simp; omega
        rw [this]; rfl)
      cases fin with
      | true =>
        go_wp2
        go_ret
        exact ⟨aO (by rw [HF.out]; simp), rfl⟩
      | false =>
        obtain ⟨r, hr⟩ : ∃ r, gK false l = r := ⟨_, rfl⟩
        have HR := Lib.hid hr; clear hr
        go_wp2
        go_loopg [7, 8] l.length (fun g s7 s8 wx => ∃ (i : Nat) (c : Bool), g = l.length - i ∧ wx = w ∧ i ≤ l.length ∧ s7 = .bool c ∧ s8 = .int .i64 i ∧ Hid (gK c (l.drop i) = r))
        case atStart => exact ⟨0, false, rfl, rfl, Nat.zero_le _, rfl, rfl, Lib.hid (by simpa using HR.out)⟩
        case round =>
          obtain ⟨i, c, rfl, rfl, hil, rfl, rfl, HC⟩ := hrel
          by_cases hit : i < l.length
          rotate_left
          · have HF2 := Lib.hid (show c = r from by rw [← HC.out, vp (by omega)])
            go_wp2_with fail
            go_ret
            exact ⟨aO (by rw [HF.out, HR.out, HF2.out]; simp), rfl⟩
          obtain ⟨x, hx⟩ : ∃ c, ({ data := l.toArray } : ByteArray)[i]'hit = c := ⟨_, rfl⟩
          have HXi := Lib.hid (show l[i] = x from hx)
          have HS := Lib.hid (HC.out.symm.trans (tF hit HXi.out))
          clear HC
          cases h35 : ((x.toNat : Int) == 35) <;> cases h10 : ((x.toNat : Int) == 10)
          · go_wp2
            go_roundg (l.length - (i + 1))
            case measure => omega
            case rel => exact ⟨i + 1, c, rfl, rfl, by omega, rfl, by go_num, Lib.hid (by rw [HS.out, if_neg (bx (m := 10) h10), if_neg (bx (m := 35) h35)])⟩
          · go_wp2
            go_roundg (l.length - (i + 1))
            case measure => omega
            case rel => exact ⟨i + 1, false, rfl, rfl, by omega, rfl, by go_num, Lib.hid (by rw [HS.out, if_pos (bU (m := 10) h10)])⟩
          · go_wp2
            go_roundg (l.length - (i + 1))
            case measure => omega
            case rel => exact ⟨i + 1, true, rfl, rfl, by omega, rfl, by go_num, Lib.hid (by rw [HS.out, if_neg (bx (m := 10) h10), if_pos (bU (m := 35) h35)])⟩
          · have h1 := bU (m := 10) h10
            have h2 := bU (m := 35) h35
            omega
end Go.Proofs.YtgpcdfbmbcognaaGreat
namespace Go.Proofs.YtgpcdfbmbcognaaGreat
open Go.RowKit Lx
set_option maxRecDepth 100000
theorem uC (a b : List UInt8) : (ByteArray.mk a.toArray) ++ (ByteArray.mk b.toArray) = ⟨(a ++ b).toArray⟩ := by
 apply ByteArray.ext; simp
theorem nh {a b : List UInt8} (h : ar a = 0 ∨ ar b = 0) : fusesT a b = false := by simp [fusesT, h]
theorem gf {a b : List UInt8} (h : ¬ (ar a = 0 ∨ ar b = 0)) (h2 : ¬ ((scan (a ++ b)).err = 0 ∧ (scan (a ++ b)).toks.length = 2 ∧ (scan (a ++ b)).tail = [])) : fusesT a b = true := by
 unfold fusesT; rw [if_neg h]; simp only; rw [if_neg h2]
theorem rx {a b : List UInt8} {t0 t1 : TokZ} (h : ¬ (ar a = 0 ∨ ar b = 0)) (h1 : (scan (a ++ b)).err = 0) (h2 : (scan (a ++ b)).toks = [t0, t1]) (h3 : (scan (a ++ b)).tail = []) :
  fusesT a b = !(t0.lead == [] && t0.text == a && t1.lead == [] && t1.text == b) := by
 unfold fusesT; rw [if_neg h]; simp only; rw [h1, h2, h3]; simp
theorem xu {l : List UInt8} {b : Bool} (h : (l == []) = b) : l.isEmpty = b := by rw [← h]; cases l <;> rfl
theorem oG {l : List TokZ} (h : l.length = 2) : ∃ t0 t1, l = [t0, t1] := by
 match l, h with
 | [a, b], _ => exact ⟨a, b, rfl⟩
set_option maxHeartbeats 2000000 in
theorem DD (a b : List UInt8) (w : World) (ha : a.length ≤ 140737488355328) (hb : b.length ≤ 140737488355328) : Calls Tryz.prog 57 #[.string ⟨a.toArray⟩, .string ⟨b.toArray⟩] w fun e w' => e = .returned (.bool (fusesT a b)) ∧ Ext w w' := by
 have hx := uC
 obtain ⟨ka, hka⟩ : ∃ k, ar a = k := ⟨_, rfl⟩
 obtain ⟨kb, hkb⟩ : ∃ k, ar b = k := ⟨_, rfl⟩
 have HKa := Lib.hid hka
 have HKb := Lib.hid hkb
 clear hka hkb
 go_enter Tryz.func57, Tryz.ntmps57
 go_wp2_with fail
 refine (vq _ _ (by omega)).mono ?_
 rintro e1 w1 ⟨rfl, hx1⟩
 rw [HKa.out]
 have HX1 := Lib.hid hx1; clear hx1
 by_cases h1 : ka = 0
 ·subst h1
  go_wp2_with fail
  go_ret
  exact ⟨aO (nh (.inl HKa.out)).symm, HX1.out⟩
 have h1b : ((ka : Int) == 0) = false := by simp; omega
 go_wp2_with fail
 refine (vq _ _ (by omega)).mono ?_
 rintro e2 w2 ⟨rfl, hx2⟩
 rw [HKb.out]
 have HX2 := Lib.hid (HX1.out.trans hx2); clear hx2
 by_cases h2 : kb = 0
 ·subst h2
  go_wp2_with fail
  go_ret
  exact ⟨aO (nh (.inr HKb.out)).symm, HX2.out⟩
 have h2b : ((kb : Int) == 0) = false := by simp; omega
 have HN := Lib.hid (show ¬ (ar a = 0 ∨ ar b = 0) from by rw [HKa.out, HKb.out]; omega)
 obtain ⟨Rs, hRs⟩ : ∃ Rs, scan (a ++ b) = Rs := ⟨_, rfl⟩
 have HRs := Lib.hid hRs
 clear hRs
 go_wp2_with fail
 refine (Ep _ _ (by simp; omega)).mono ?_
 rintro e3 w3 ⟨v, rfl, htr, hx3⟩
 rw [HRs.out] at htr ⊢
 obtain ⟨A, c, rfl, hc1, hc2, hrow⟩ := htr
 unfold maxLen at hc2
 have HX3 := Lib.hid (HX2.out.trans hx3); clear hx3
 have HRow := Lib.hid hrow; clear hrow
 obtain ⟨toks, tail, place, er⟩ := Rs
 simp only at HRow hc1 hc2 ⊢
 by_cases h3 : er = 0
 rotate_left
 ·have h3b : ((er : Int) != 0) = true := by simp; omega
  have HF := Lib.hid (gf HN.out (fun h => h3 (by rw [HRs.out] at h; exact h.1)))
  go_wp2_with fail
  go_ret
  exact ⟨aO HF.out.symm, HX3.out⟩
 subst h3
 by_cases h4 : toks.length = 2
 rotate_left
 ·have h4b : ((toks.length : Int) != 2) = true := by simp; omega
  have HF := Lib.hid (gf HN.out (fun h => h4 (by rw [HRs.out] at h; exact h.2.1)))
  go_wp2_with fail
  go_ret
  exact ⟨aO HF.out.symm, HX3.out⟩
 by_cases h5 : tail = []
 rotate_left
 ·have h5b : (tail == []) = false := by simpa using h5
  have h5c : tail.isEmpty = false := by simpa using h5
  obtain ⟨t0, t1, rfl⟩ := oG h4
  have HF := Lib.hid (gf HN.out (fun h => h5 (by rw [HRs.out] at h; exact h.2.2)))
  clear h5 h4
  go_wp2_with fail
  go_ret
  exact ⟨aO HF.out.symm, HX3.out⟩
 subst h5
 obtain ⟨t0, t1, rfl⟩ := oG h4
 clear h4
 obtain ⟨b0, off, rfl, hb0, p0, p1, p2⟩ := mV HRow.out (k := 0) (by simp)
 obtain ⟨b0', off', heq, _, q0, q1, q2⟩ := mV HRow.out (k := 1) (by simp)
 obtain ⟨rfl, rfl⟩ : b0 = b0' ∧ off = off' := by simpa using heq
 clear heq
 have HF := Lib.hid (rx HN.out (by rw [HRs.out]) (by rw [HRs.out]) (by rw [HRs.out]))
 simp only [Nat.zero_mul, Nat.one_mul, Nat.add_zero, List.getElem_cons_zero, List.getElem_cons_succ] at p0 p1 p2 q0 q1 q2
 cases g1 : (t0.text == a)
 ·skip
  go_wp2_with fail
  go_ret
  exact ⟨aO (by rw [HF.out, g1]; simp), HX3.out⟩
 cases g0 : (t0.lead == [])
 ·skip
  have g0' : t0.lead.isEmpty = false := by simpa using g0
  go_wp2_with fail
  go_ret
  exact ⟨aO (by rw [HF.out, g1, g0]; simp), HX3.out⟩
 have g0' : t0.lead.isEmpty = true := by simpa using g0
 cases g3 : (t1.text == b)
 ·skip
  go_wp2_with fail
  go_ret
  exact ⟨aO (by rw [HF.out, g1, g0, g3]; simp), HX3.out⟩
 cases g2 : (t1.lead == [])
 all_goals
  have g2' := xu g2
  go_wp2_with fail
  go_ret
  exact ⟨aO (by rw [HF.out, g1, g0, g3, g2]; simp), HX3.out⟩
end Go.Proofs.YtgpcdfbmbcognaaGreat
namespace Go.Proofs.YtgpcdfbmbcognaaGreat
open Go.RowKit Lx Sx
set_option maxHeartbeats 2000000
theorem Ao (a b : List UInt8) (ha : a.length ≤ 140737488355328) (hb : b.length ≤ 140737488355328) : kL a b (fusesT a b) := sum0_calls rfl rfl fun S w ρ xs hx => by
 simp only [LRel] at hx
 obtain ⟨x, ys, rfl, h1, y, zs, rfl, h2, rfl⟩ := hx
 simp only [VRel] at h1 h2; subst h1 h2
 exact (DD a b w ha hb).mono fun e w' ⟨h1, h2⟩ => ⟨_, h1, by simp only [VRel], st h2⟩
theorem th (a : List UInt8) (f : Bool) (ha : a.length ≤ 140737488351232) : gM a f (aM false a f) := sum0_calls rfl rfl fun S w ρ xs hx => by
 simp only [LRel] at hx
 obtain ⟨x, ys, rfl, h1, y, zs, rfl, h2, rfl⟩ := hx
 simp only [VRel] at h1 h2; subst h1 h2
 exact (BM a f w (by omega)).mono fun e w' ⟨h1, h2⟩ => ⟨_, h1, by simp only [VRel], h2 ▸ Chg.refl _ _⟩
abbrev Pce := aa
def Qp (l : List Pce) : Prop := ∀ x ∈ l, x.Lead.length ≤ 2000000 ∧ x.Text.length ≤ 2000010
theorem bH {a b : List Pce} : Qp (a ++ b) ↔ Qp a ∧ Qp b := ⟨fun h => ⟨fun x hx => h x (by simp [hx]), fun x hx => h x (by simp [hx])⟩, fun h x hx => by rcases List.mem_append.1 hx with h1 | h1; exact h.1 x h1; exact h.2 x h1⟩
theorem bp {x : Pce} {a : List Pce} : Qp (x :: a) ↔ (x.Lead.length ≤ 2000000 ∧ x.Text.length ≤ 2000010) ∧ Qp a := ⟨fun h => ⟨h x (by simp), fun y hy => h y (by simp [hy])⟩, fun h y hy => by rcases List.mem_cons.1 hy with h1 | h1; subst h1; exact h.1; exact h.2 y h1⟩
theorem bG : Qp [] := fun x hx => by cases hx
theorem bc {t : Tree} (k : Nat) (ht : tbulk t ≤ 2000000) : ∃ s, ah t (k : Int) s ∧ s.length ≤ 2000000 ∧ s = t.leads.getD k [] := by
 by_cases h : (k : Int) < (t.leads.length : Nat)
 ·obtain ⟨s, hs, _⟩ | h' := bd t.leads k
  ·have := oz hs
   have := bD t
   exact ⟨s, kP 0 _ _ _ ⟨fun _ => ⟨k, rfl, s, hs, rfl⟩, fun h' => absurd h h'⟩, by omega, by rw [List.getD_eq_getElem?_getD, hs]; rfl⟩
  ·omega
 ·exact ⟨[], kP 0 _ _ _ ⟨fun h' => absurd h' h, fun _ => rfl⟩, by simp, by rw [List.getD_eq_getElem?_getD, List.getElem?_eq_none (by omega)]; rfl⟩
def gd (ls : List (List UInt8)) (c : Nat) : List (List Pce) → Nat → List Pce
 | [], _ => []
 | f :: r, i => (if 0 < i then [⟨ls.getD (c + i - 1) [], [44]⟩] else []) ++ (f ++ gd ls c r (i + 1))
def bo (k : Int) (x : List UInt8) (ls : List (List UInt8)) (fs : List (List Pce)) : List Pce :=
 if k = 1 then ⟨ls.getD 0 [], [109, 111, 100, 117, 108, 101]⟩ :: ⟨ls.getD 1 [], x⟩ :: (fs.flatten ++ [⟨ls.getD 2 [], []⟩])
 else if k = 2 then ⟨ls.getD 0 [], [100, 101, 102]⟩ :: ⟨ls.getD 1 [], x⟩ :: ⟨ls.getD 2 [], [40]⟩ :: (gd ls 6 (fs.take (fs.length - 2)) 0 ++ (⟨ls.getD 3 [], [41]⟩ :: ⟨ls.getD 4 [], [58]⟩ :: (fs.getD (fs.length - 2) [] ++ (⟨ls.getD 5 [], [61]⟩ :: fs.getD (fs.length - 1) []))))
 else if k = 3 then ⟨ls.getD 0 [], [116, 121, 112, 101]⟩ :: ⟨ls.getD 1 [], x⟩ :: ⟨ls.getD 2 [], [61]⟩ :: fs.getD 0 []
 else if k = 4 then ⟨ls.getD 0 [], x⟩ :: ⟨ls.getD 1 [], [58]⟩ :: fs.getD 0 []
 else if k = 17 then fs.getD 0 []
 else if k = 8 then ⟨ls.getD 0 [], [91]⟩ :: (fs.getD 0 [] ++ [⟨ls.getD 1 [], [93]⟩])
 else if k = 16 then ⟨ls.getD 0 [], x⟩ :: ⟨ls.getD 1 [], [40]⟩ :: (gd ls 3 fs 0 ++ [⟨ls.getD 2 [], [41]⟩])
 else if k = 18 then ⟨ls.getD 0 [], [91]⟩ :: (gd ls 2 fs 0 ++ [⟨ls.getD 1 [], [93]⟩])
 else if k = 19 then ⟨ls.getD 0 [], [105, 102]⟩ :: (fs.getD 0 [] ++ (⟨ls.getD 1 [], [116, 104, 101, 110]⟩ :: (fs.getD 1 [] ++ (⟨ls.getD 2 [], [101, 108, 115, 101]⟩ :: fs.getD 2 []))))
 else if k = 20 then ⟨ls.getD 0 [], [108, 101, 116]⟩ :: ⟨ls.getD 1 [], x⟩ :: ⟨ls.getD 2 [], [61]⟩ :: (fs.getD 0 [] ++ (⟨ls.getD 3 [], [105, 110]⟩ :: fs.getD 1 []))
 else if k = 21 then fs.getD 0 [] ++ (⟨ls.getD 0 [], x⟩ :: fs.getD 1 [])
 else if k = 22 then ⟨ls.getD 0 [], [40]⟩ :: (fs.getD 0 [] ++ [⟨ls.getD 1 [], [41]⟩])
 else [⟨ls.getD 0 [], if k = 5 then [73, 110, 116] else if k = 6 then [84, 101, 120, 116] else if k = 7 then [66, 111, 111, 108] else if k = 13 then [116, 114, 117, 101] else if k = 14 then [102, 97, 108, 115, 101] else if k = 15 then [63] else x⟩]
mutual
def pcT : Tree → List Pce
 | .node k x ls ks => bo k x ls (pcTs ks)
def pcTs : List Tree → List (List Pce)
 | [] => []
 | t :: r => pcT t :: pcTs r
end
theorem cr (t : Tree) : pcT t = bo t.kind t.text t.leads (pcTs t.kids) := by cases t; simp only [pcT]; rfl
theorem jG : ∀ ks : List Tree, pcTs ks = ks.map pcT
 | [] => rfl
 | t :: r => by simp [pcTs, jG r]
theorem cP {ks : List Tree} {i : Nat} {u : Tree} (h : ks[i]? = some u) : (pcTs ks)[i]? = some (pcT u) := by rw [jG, List.getElem?_map, h]; rfl
theorem oT (ks : List Tree) : (pcTs ks).length = ks.length := by rw [jG, List.length_map]
theorem yA (ks : List Tree) (n : Nat) : pcTs (ks.take n) = (pcTs ks).take n := by rw [jG, jG, List.map_take]
def Pok (t : Tree) : Prop := ∀ l, l.length + 8 * tbulk t ≤ 900000000 → ∃ r, ai l t r ∧ r.length + 1 ≤ l.length + 8 * tbulk t ∧ (Qp l → Qp r) ∧ r = l ++ pcT t
theorem qu {k n : Int} : ∀ {l : List Tree} {i : Nat}, shapeKs k n i l = true → ∀ j u, l[j]? = some u → kx k n ((i + j : Nat) : Int) u.kind = true ∧ shapeK u = true
 | [], _, _, j, u, h => by simp at h
 | t :: r, i, hs, 0, u, h => by
  simp only [shapeKs, Bool.and_eq_true] at hs
  simp at h; subst h
  exact ⟨hs.1.1, hs.1.2⟩
 | t :: r, i, hs, j + 1, u, h => by
  simp only [shapeKs, Bool.and_eq_true] at hs
  have := qu hs.2 j u (by simpa using h)
  rw [show i + 1 + j = i + (j + 1) by omega] at this
  exact this
theorem dq {t u : Tree} {i : Nat} (hs : shapeK t = true) (hu : t.kids[i]? = some u) : shapeK u = true ∧ kx t.kind t.kids.length i u.kind = true := by
 rw [jM] at hs
 simp only [Bool.and_eq_true] at hs
 have := qu hs.2 i u hu
 rw [Nat.zero_add] at this
 exact ⟨this.2, this.1⟩
theorem mY {t : Tree} (hs : shapeK t = true) : 0 ≤ co t.kind t.kids.length := by
 rw [jM] at hs
 simp only [Bool.and_eq_true, decide_eq_true_eq] at hs
 exact hs.1.1
theorem eG {t : Tree} (hs : shapeK t = true) : (t.kind = 2 → 2 ≤ t.kids.length) ∧ (t.kind = 18 → 1 ≤ t.kids.length) ∧ (t.kind = 3 ∨ t.kind = 4 ∨ t.kind = 8 ∨ t.kind = 17 ∨ t.kind = 22 → t.kids.length = 1) ∧ (t.kind = 19 → t.kids.length = 3) ∧ (t.kind = 20 ∨ t.kind = 21 → t.kids.length = 2) := by
 have h := mY hs
 refine ⟨fun hk => ?_, fun hk => ?_, fun hk => ?_, fun hk => ?_, fun hk => ?_⟩
 ·rw [hk] at h; simp only [co, f0] at h; simp at h; omega
 ·rw [hk] at h; simp only [co, f0] at h; simp at h; omega
 ·rcases hk with hk | hk | hk | hk | hk <;> (rw [hk] at h; simp only [co, f0] at h; simp at h; omega)
 ·rw [hk] at h; simp only [co, f0] at h; simp at h; omega
 ·rcases hk with hk | hk <;> (rw [hk] at h; simp only [co, f0] at h; simp at h; omega)
theorem dn1 {l r : List Pce} {t : Tree} (M : Nat) (hk : t.kind ∉ [(1 : Int)]) (h : gi M l t r) : ai l t r := jS M _ _ _ ⟨fun e => absurd (by simp [e]) hk, fun _ => h⟩
theorem dn2 {l r : List Pce} {t : Tree} (M : Nat) (hk : t.kind ∉ [(1 : Int), 2]) (h : gl M l t r) : ai l t r := dn1 (M + 1) (fun e => hk (by simp only [List.mem_cons, List.not_mem_nil, or_false] at e ⊢; omega)) (jh M _ _ _ ⟨fun e => absurd (by simp [e]) hk, fun _ => h⟩)
theorem dn3 {l r : List Pce} {t : Tree} (M : Nat) (hk : t.kind ∉ [(1 : Int), 2, 3]) (h : gv M l t r) : ai l t r := dn2 (M + 1) (fun e => hk (by simp only [List.mem_cons, List.not_mem_nil, or_false] at e ⊢; omega)) (jv M _ _ _ ⟨fun e => absurd (by simp [e]) hk, fun _ => h⟩)
theorem dn4 {l r : List Pce} {t : Tree} (M : Nat) (hk : t.kind ∉ [(1 : Int), 2, 3, 4]) (h : gc M l t r) : ai l t r := dn3 (M + 1) (fun e => hk (by simp only [List.mem_cons, List.not_mem_nil, or_false] at e ⊢; omega)) (jl M _ _ _ ⟨fun e => absurd (by simp [e]) hk, fun _ => h⟩)
theorem dn5 {l r : List Pce} {t : Tree} (M : Nat) (hk : t.kind ∉ [(1 : Int), 2, 3, 4, 5]) (h : gy M l t r) : ai l t r := dn4 (M + 1) (fun e => hk (by simp only [List.mem_cons, List.not_mem_nil, or_false] at e ⊢; omega)) (je M _ _ _ ⟨fun e => absurd (by simp [e]) hk, fun _ => h⟩)
theorem dn6 {l r : List Pce} {t : Tree} (M : Nat) (hk : t.kind ∉ [(1 : Int), 2, 3, 4, 5, 6]) (h : fP M l t r) : ai l t r := dn5 (M + 1) (fun e => hk (by simp only [List.mem_cons, List.not_mem_nil, or_false] at e ⊢; omega)) (jm M _ _ _ ⟨fun e => absurd (by simp [e]) hk, fun _ => h⟩)
theorem dn7 {l r : List Pce} {t : Tree} (M : Nat) (hk : t.kind ∉ [(1 : Int), 2, 3, 4, 5, 6, 7]) (h : fR M l t r) : ai l t r := dn6 (M + 1) (fun e => hk (by simp only [List.mem_cons, List.not_mem_nil, or_false] at e ⊢; omega)) (ja M _ _ _ ⟨fun e => absurd (by simp [e]) hk, fun _ => h⟩)
theorem dn8 {l r : List Pce} {t : Tree} (M : Nat) (hk : t.kind ∉ [(1 : Int), 2, 3, 4, 5, 6, 7, 13]) (h : fS M l t r) : ai l t r := dn7 (M + 1) (fun e => hk (by simp only [List.mem_cons, List.not_mem_nil, or_false] at e ⊢; omega)) (iZ M _ _ _ ⟨fun e => absurd (by simp [e]) hk, fun _ => h⟩)
theorem dn9 {l r : List Pce} {t : Tree} (M : Nat) (hk : t.kind ∉ [(1 : Int), 2, 3, 4, 5, 6, 7, 13, 14]) (h : fJ M l t r) : ai l t r := dn8 (M + 1) (fun e => hk (by simp only [List.mem_cons, List.not_mem_nil, or_false] at e ⊢; omega)) (iV M _ _ _ ⟨fun e => absurd (by simp [e]) hk, fun _ => h⟩)
theorem Dy {l r : List Pce} {t : Tree} (M : Nat) (hk : t.kind ∉ [(1 : Int), 2, 3, 4, 5, 6, 7, 13, 14, 15]) (h : fN M l t r) : ai l t r := dn9 (M + 1) (fun e => hk (by simp only [List.mem_cons, List.not_mem_nil, or_false] at e ⊢; omega)) (iT M _ _ _ ⟨fun e => absurd (by simp [e]) hk, fun _ => h⟩)
theorem Dm {l r : List Pce} {t : Tree} (M : Nat) (hk : t.kind ∉ [(1 : Int), 2, 3, 4, 5, 6, 7, 13, 14, 15, 8]) (h : fU M l t r) : ai l t r := Dy (M + 1) (fun e => hk (by simp only [List.mem_cons, List.not_mem_nil, or_false] at e ⊢; omega)) (iS M _ _ _ ⟨fun e => absurd (by simp [e]) hk, fun _ => h⟩)
theorem DO {l r : List Pce} {t : Tree} (M : Nat) (hk : t.kind ∉ [(1 : Int), 2, 3, 4, 5, 6, 7, 13, 14, 15, 8, 16]) (h : fO M l t r) : ai l t r := Dm (M + 1) (fun e => hk (by simp only [List.mem_cons, List.not_mem_nil, or_false] at e ⊢; omega)) (iR M _ _ _ ⟨fun e => absurd (by simp [e]) hk, fun _ => h⟩)
theorem DH {l r : List Pce} {t : Tree} (M : Nat) (hk : t.kind ∉ [(1 : Int), 2, 3, 4, 5, 6, 7, 13, 14, 15, 8, 16, 17]) (h : fV M l t r) : ai l t r := DO (M + 1) (fun e => hk (by simp only [List.mem_cons, List.not_mem_nil, or_false] at e ⊢; omega)) (iQ M _ _ _ ⟨fun e => absurd (by simp [e]) hk, fun _ => h⟩)
theorem CE {l r : List Pce} {t : Tree} (M : Nat) (hk : t.kind ∉ [(1 : Int), 2, 3, 4, 5, 6, 7, 13, 14, 15, 8, 16, 17, 18]) (h : fM M l t r) : ai l t r := DH (M + 1) (fun e => hk (by simp only [List.mem_cons, List.not_mem_nil, or_false] at e ⊢; omega)) (iU M _ _ _ ⟨fun e => absurd (by simp [e]) hk, fun _ => h⟩)
theorem DN {l r : List Pce} {t : Tree} (M : Nat) (hk : t.kind ∉ [(1 : Int), 2, 3, 4, 5, 6, 7, 13, 14, 15, 8, 16, 17, 18, 19]) (h : fQ M l t r) : ai l t r := CE (M + 1) (fun e => hk (by simp only [List.mem_cons, List.not_mem_nil, or_false] at e ⊢; omega)) (iP M _ _ _ ⟨fun e => absurd (by simp [e]) hk, fun _ => h⟩)
theorem CG {l r : List Pce} {t : Tree} (M : Nat) (hk : t.kind ∉ [(1 : Int), 2, 3, 4, 5, 6, 7, 13, 14, 15, 8, 16, 17, 18, 19, 20]) (h : fK M l t r) : ai l t r := DN (M + 1) (fun e => hk (by simp only [List.mem_cons, List.not_mem_nil, or_false] at e ⊢; omega)) (iX M _ _ _ ⟨fun e => absurd (by simp [e]) hk, fun _ => h⟩)
theorem Dk {l r : List Pce} {t : Tree} (M : Nat) (hk : t.kind ∉ [(1 : Int), 2, 3, 4, 5, 6, 7, 13, 14, 15, 8, 16, 17, 18, 19, 20, 21]) (h : fT M l t r) : ai l t r := CG (M + 1) (fun e => hk (by simp only [List.mem_cons, List.not_mem_nil, or_false] at e ⊢; omega)) (iY M _ _ _ ⟨fun e => absurd (by simp [e]) hk, fun _ => h⟩)
theorem p_5 {t : Tree} (hk : t.kind = 5) (ht : tbulk t ≤ 2000000) : Pok t := fun l hl => by
 obtain ⟨s1, g1, b1, x1⟩ := bc 0 ht
 have htp := bu t
 have M := 0
 refine ⟨l ++ [⟨s1, [73, 110, 116]⟩], ?_, by simp; omega, fun hq => by simp only [bH, bp]; exact ⟨hq, ⟨b1, by decide⟩, bG⟩, by simp [cr, bo, hk, x1]⟩
 exact dn4 (M + 2) (by rw [hk]; decide) (je (M + 1) _ _ _ ⟨fun _ => ⟨_, g1, by simp; omega, rfl⟩, fun h => absurd hk h⟩)
theorem p_6 {t : Tree} (hk : t.kind = 6) (ht : tbulk t ≤ 2000000) : Pok t := fun l hl => by
 obtain ⟨s1, g1, b1, x1⟩ := bc 0 ht
 have htp := bu t
 have M := 0
 refine ⟨l ++ [⟨s1, [84, 101, 120, 116]⟩], ?_, by simp; omega, fun hq => by simp only [bH, bp]; exact ⟨hq, ⟨b1, by decide⟩, bG⟩, by simp [cr, bo, hk, x1]⟩
 exact dn5 (M + 2) (by rw [hk]; decide) (jm (M + 1) _ _ _ ⟨fun _ => ⟨_, g1, by simp; omega, rfl⟩, fun h => absurd hk h⟩)
theorem p_7 {t : Tree} (hk : t.kind = 7) (ht : tbulk t ≤ 2000000) : Pok t := fun l hl => by
 obtain ⟨s1, g1, b1, x1⟩ := bc 0 ht
 have htp := bu t
 have M := 0
 refine ⟨l ++ [⟨s1, [66, 111, 111, 108]⟩], ?_, by simp; omega, fun hq => by simp only [bH, bp]; exact ⟨hq, ⟨b1, by decide⟩, bG⟩, by simp [cr, bo, hk, x1]⟩
 exact dn6 (M + 2) (by rw [hk]; decide) (ja (M + 1) _ _ _ ⟨fun _ => ⟨_, g1, by simp; omega, rfl⟩, fun h => absurd hk h⟩)
theorem Fo {t : Tree} (hk : t.kind = 13) (ht : tbulk t ≤ 2000000) : Pok t := fun l hl => by
 obtain ⟨s1, g1, b1, x1⟩ := bc 0 ht
 have htp := bu t
 have M := 0
 refine ⟨l ++ [⟨s1, [116, 114, 117, 101]⟩], ?_, by simp; omega, fun hq => by simp only [bH, bp]; exact ⟨hq, ⟨b1, by decide⟩, bG⟩, by simp [cr, bo, hk, x1]⟩
 exact dn7 (M + 2) (by rw [hk]; decide) (iZ (M + 1) _ _ _ ⟨fun _ => ⟨_, g1, by simp; omega, rfl⟩, fun h => absurd hk h⟩)
theorem EK {t : Tree} (hk : t.kind = 14) (ht : tbulk t ≤ 2000000) : Pok t := fun l hl => by
 obtain ⟨s1, g1, b1, x1⟩ := bc 0 ht
 have htp := bu t
 have M := 0
 refine ⟨l ++ [⟨s1, [102, 97, 108, 115, 101]⟩], ?_, by simp; omega, fun hq => by simp only [bH, bp]; exact ⟨hq, ⟨b1, by decide⟩, bG⟩, by simp [cr, bo, hk, x1]⟩
 exact dn8 (M + 2) (by rw [hk]; decide) (iV (M + 1) _ _ _ ⟨fun _ => ⟨_, g1, by simp; omega, rfl⟩, fun h => absurd hk h⟩)
theorem EU {t : Tree} (hk : t.kind = 15) (ht : tbulk t ≤ 2000000) : Pok t := fun l hl => by
 obtain ⟨s1, g1, b1, x1⟩ := bc 0 ht
 have htp := bu t
 have M := 0
 refine ⟨l ++ [⟨s1, [63]⟩], ?_, by simp; omega, fun hq => by simp only [bH, bp]; exact ⟨hq, ⟨b1, by decide⟩, bG⟩, by simp [cr, bo, hk, x1]⟩
 exact dn9 (M + 2) (by rw [hk]; decide) (iT (M + 1) _ _ _ ⟨fun _ => ⟨_, g1, by simp; omega, rfl⟩, fun h => absurd hk h⟩)
theorem nS {l : List Tree} {u : Tree} (h0 : l[0]? = some u) : tbulk u ≤ kbulk l := lA h0
theorem sP {l : List Tree} {u v : Tree} (h0 : l[0]? = some u) (h1 : l[1]? = some v) : tbulk u + tbulk v ≤ kbulk l := by
 match l, h0, h1 with
 | a :: r, h0, h1 => simp at h0; subst h0; have := lA (ks := r) (i := 0) (by simpa using h1); simp only [kbulk]; omega
theorem BJ {l : List Tree} {u v x : Tree} (h0 : l[0]? = some u) (h1 : l[1]? = some v) (h2 : l[2]? = some x) : tbulk u + tbulk v + tbulk x ≤ kbulk l := by
 match l, h0, h1, h2 with
 | a :: r, h0, h1, h2 => simp at h0; subst h0; have := sP (l := r) (by simpa using h1) (by simpa using h2); simp only [kbulk]; omega
theorem p_3 {t : Tree} (hk : t.kind = 3) (hs : shapeK t = true) (ht : tbulk t ≤ 2000000) (ih : ∀ (i : Nat) (u : Tree), t.kids[i]? = some u → Pok u) : Pok t := fun l hl => by
 have htp := bu t
 have htx := cO t
 have hn := eG hs
 have M := 0
 have hkn : t.kids.length = 1 := hn.2.2.1 (by simp [hk])
 obtain ⟨u0, hu0, _⟩ | h' := bd t.kids 0
 rotate_left
 ·omega
 have hsum : tbulk u0 + 1 ≤ tbulk t := by
  have hb := bD t
  have hx := nS hu0
  omega
 obtain ⟨s1, g1, b1, x1⟩ := bc 0 ht
 obtain ⟨s2, g2, b2, x2⟩ := bc 1 ht
 obtain ⟨s3, g3, b3, x3⟩ := bc 2 ht
 have q1 : Qp l → Qp (l ++ [⟨s1, [116, 121, 112, 101]⟩, ⟨s2, t.text⟩, ⟨s3, [61]⟩]) := fun hq => by simp only [bH, bp]; exact ⟨hq, ⟨b1, by decide⟩, ⟨b2, by omega⟩, ⟨b3, by decide⟩, bG⟩
 obtain ⟨r0, e0, z0, y0, m0⟩ := ih 0 u0 hu0 (l ++ [⟨s1, [116, 121, 112, 101]⟩, ⟨s2, t.text⟩, ⟨s3, [61]⟩]) (by first | omega | (simp only [List.length_append, List.length_cons, List.length_nil]; omega))
 try simp only [List.length_append, List.length_cons, List.length_nil] at z0
 refine ⟨r0, ?_, by first | omega | (simp only [List.length_append, List.length_cons, List.length_nil]; omega), fun hq => (y0 (q1 hq)), by simp [cr, bo, hk, m0, x1, x2, x3, cP hu0]⟩
 exact dn2 (M + 2) (by rw [hk]; decide) (jv (M + 1) _ _ _ ⟨fun _ => nn (M) _ _ _ ⟨_, g1, _, g2, _, g3, by simp; omega, u0, hu0, _, e0, rfl⟩, fun h => absurd hk h⟩)
theorem p_4 {t : Tree} (hk : t.kind = 4) (hs : shapeK t = true) (ht : tbulk t ≤ 2000000) (ih : ∀ (i : Nat) (u : Tree), t.kids[i]? = some u → Pok u) : Pok t := fun l hl => by
 have htp := bu t
 have htx := cO t
 have hn := eG hs
 have M := 0
 have hkn : t.kids.length = 1 := hn.2.2.1 (by simp [hk])
 obtain ⟨u0, hu0, _⟩ | h' := bd t.kids 0
 rotate_left
 ·omega
 have hsum : tbulk u0 + 1 ≤ tbulk t := by
  have hb := bD t
  have hx := nS hu0
  omega
 obtain ⟨s1, g1, b1, x1⟩ := bc 0 ht
 obtain ⟨s2, g2, b2, x2⟩ := bc 1 ht
 have q1 : Qp l → Qp (l ++ [⟨s1, t.text⟩, ⟨s2, [58]⟩]) := fun hq => by simp only [bH, bp]; exact ⟨hq, ⟨b1, by omega⟩, ⟨b2, by decide⟩, bG⟩
 obtain ⟨r0, e0, z0, y0, m0⟩ := ih 0 u0 hu0 (l ++ [⟨s1, t.text⟩, ⟨s2, [58]⟩]) (by first | omega | (simp only [List.length_append, List.length_cons, List.length_nil]; omega))
 try simp only [List.length_append, List.length_cons, List.length_nil] at z0
 refine ⟨r0, ?_, by first | omega | (simp only [List.length_append, List.length_cons, List.length_nil]; omega), fun hq => (y0 (q1 hq)), by simp [cr, bo, hk, m0, x1, x2, cP hu0]⟩
 exact dn3 (M + 2) (by rw [hk]; decide) (jl (M + 1) _ _ _ ⟨fun _ => nl (M) _ _ _ ⟨_, g1, _, g2, by simp; omega, u0, hu0, _, e0, rfl⟩, fun h => absurd hk h⟩)
theorem p_8 {t : Tree} (hk : t.kind = 8) (hs : shapeK t = true) (ht : tbulk t ≤ 2000000) (ih : ∀ (i : Nat) (u : Tree), t.kids[i]? = some u → Pok u) : Pok t := fun l hl => by
 have htp := bu t
 have htx := cO t
 have hn := eG hs
 have M := 0
 have hkn : t.kids.length = 1 := hn.2.2.1 (by simp [hk])
 obtain ⟨u0, hu0, _⟩ | h' := bd t.kids 0
 rotate_left
 ·omega
 have hsum : tbulk u0 + 1 ≤ tbulk t := by
  have hb := bD t
  have hx := nS hu0
  omega
 obtain ⟨s1, g1, b1, x1⟩ := bc 0 ht
 have q1 : Qp l → Qp (l ++ [⟨s1, [91]⟩]) := fun hq => by simp only [bH, bp]; exact ⟨hq, ⟨b1, by decide⟩, bG⟩
 obtain ⟨r0, e0, z0, y0, m0⟩ := ih 0 u0 hu0 (l ++ [⟨s1, [91]⟩]) (by first | omega | (simp only [List.length_append, List.length_cons, List.length_nil]; omega))
 try simp only [List.length_append, List.length_cons, List.length_nil] at z0
 obtain ⟨s2, g2, b2, x2⟩ := bc 1 ht
 have q3 : Qp r0 → Qp (r0 ++ [⟨s2, [93]⟩]) := fun hq => by simp only [bH, bp]; exact ⟨hq, ⟨b2, by decide⟩, bG⟩
 refine ⟨(r0 ++ [⟨s2, [93]⟩]), ?_, by first | omega | (simp only [List.length_append, List.length_cons, List.length_nil]; omega), fun hq => (q3 (y0 (q1 hq))), by simp [cr, bo, hk, m0, x1, x2, cP hu0]⟩
 exact Dy (M + 2) (by rw [hk]; decide) (iS (M + 1) _ _ _ ⟨fun _ => mE (M) _ _ _ ⟨_, g1, by simp; omega, u0, hu0, _, e0, _, g2, by simp; omega, rfl⟩, fun h => absurd hk h⟩)
theorem Fd {t : Tree} (hk : t.kind = 17) (hs : shapeK t = true) (ht : tbulk t ≤ 2000000) (ih : ∀ (i : Nat) (u : Tree), t.kids[i]? = some u → Pok u) : Pok t := fun l hl => by
 have htp := bu t
 have htx := cO t
 have hn := eG hs
 have M := 0
 have hkn : t.kids.length = 1 := hn.2.2.1 (by simp [hk])
 obtain ⟨u0, hu0, _⟩ | h' := bd t.kids 0
 rotate_left
 ·omega
 have hsum : tbulk u0 + 1 ≤ tbulk t := by
  have hb := bD t
  have hx := nS hu0
  omega
 obtain ⟨r0, e0, z0, y0, m0⟩ := ih 0 u0 hu0 l (by first | omega | (simp only [List.length_append, List.length_cons, List.length_nil]; omega))
 try simp only [List.length_append, List.length_cons, List.length_nil] at z0
 refine ⟨r0, ?_, by first | omega | (simp only [List.length_append, List.length_cons, List.length_nil]; omega), fun hq => (y0 hq), by simp [cr, bo, hk, m0, cP hu0]⟩
 exact DO (M + 2) (by rw [hk]; decide) (iQ (M + 1) _ _ _ ⟨fun _ => ⟨u0, hu0, _, e0, rfl⟩, fun h => absurd hk h⟩)
theorem Fa {t : Tree} (hk : t.kind = 19) (hs : shapeK t = true) (ht : tbulk t ≤ 2000000) (ih : ∀ (i : Nat) (u : Tree), t.kids[i]? = some u → Pok u) : Pok t := fun l hl => by
 have htp := bu t
 have htx := cO t
 have hn := eG hs
 have M := 0
 have hkn : t.kids.length = 3 := hn.2.2.2.1 hk
 obtain ⟨u0, hu0, _⟩ | h' := bd t.kids 0
 rotate_left
 ·omega
 obtain ⟨u1, hu1, _⟩ | h' := bd t.kids 1
 rotate_left
 ·omega
 obtain ⟨u2, hu2, _⟩ | h' := bd t.kids 2
 rotate_left
 ·omega
 have hsum : tbulk u0 + tbulk u1 + tbulk u2 + 1 ≤ tbulk t := by
  have hb := bD t
  have hx := BJ hu0 hu1 hu2
  omega
 obtain ⟨s1, g1, b1, x1⟩ := bc 0 ht
 have q1 : Qp l → Qp (l ++ [⟨s1, [105, 102]⟩]) := fun hq => by simp only [bH, bp]; exact ⟨hq, ⟨b1, by decide⟩, bG⟩
 obtain ⟨r0, e0, z0, y0, m0⟩ := ih 0 u0 hu0 (l ++ [⟨s1, [105, 102]⟩]) (by first | omega | (simp only [List.length_append, List.length_cons, List.length_nil]; omega))
 try simp only [List.length_append, List.length_cons, List.length_nil] at z0
 obtain ⟨s2, g2, b2, x2⟩ := bc 1 ht
 have q3 : Qp r0 → Qp (r0 ++ [⟨s2, [116, 104, 101, 110]⟩]) := fun hq => by simp only [bH, bp]; exact ⟨hq, ⟨b2, by decide⟩, bG⟩
 obtain ⟨r1, e1, z1, y1, m1⟩ := ih 1 u1 hu1 (r0 ++ [⟨s2, [116, 104, 101, 110]⟩]) (by first | omega | (simp only [List.length_append, List.length_cons, List.length_nil]; omega))
 try simp only [List.length_append, List.length_cons, List.length_nil] at z1
 obtain ⟨s3, g3, b3, x3⟩ := bc 2 ht
 have q5 : Qp r1 → Qp (r1 ++ [⟨s3, [101, 108, 115, 101]⟩]) := fun hq => by simp only [bH, bp]; exact ⟨hq, ⟨b3, by decide⟩, bG⟩
 obtain ⟨r2, e2, z2, y2, m2⟩ := ih 2 u2 hu2 (r1 ++ [⟨s3, [101, 108, 115, 101]⟩]) (by first | omega | (simp only [List.length_append, List.length_cons, List.length_nil]; omega))
 try simp only [List.length_append, List.length_cons, List.length_nil] at z2
 refine ⟨r2, ?_, by first | omega | (simp only [List.length_append, List.length_cons, List.length_nil]; omega), fun hq => (y2 (q5 (y1 (q3 (y0 (q1 hq)))))), by simp [cr, bo, hk, m0, m1, m2, x1, x2, x3, cP hu0, cP hu1, cP hu2]⟩
 exact CE (M + 2) (by rw [hk]; decide) (iP (M + 1) _ _ _ ⟨fun _ => mL (M) _ _ _ ⟨u0, hu0, _, g1, by simp; omega, _, e0, u1, hu1, _, g2, by simp; omega, _, e1, u2, hu2, _, g3, by simp; omega, _, e2, rfl⟩, fun h => absurd hk h⟩)
theorem EW {t : Tree} (hk : t.kind = 20) (hs : shapeK t = true) (ht : tbulk t ≤ 2000000) (ih : ∀ (i : Nat) (u : Tree), t.kids[i]? = some u → Pok u) : Pok t := fun l hl => by
 have htp := bu t
 have htx := cO t
 have hn := eG hs
 have M := 0
 have hkn : t.kids.length = 2 := hn.2.2.2.2 (by simp [hk])
 obtain ⟨u0, hu0, _⟩ | h' := bd t.kids 0
 rotate_left
 ·omega
 obtain ⟨u1, hu1, _⟩ | h' := bd t.kids 1
 rotate_left
 ·omega
 have hsum : tbulk u0 + tbulk u1 + 1 ≤ tbulk t := by
  have hb := bD t
  have hx := sP hu0 hu1
  omega
 obtain ⟨s1, g1, b1, x1⟩ := bc 0 ht
 obtain ⟨s2, g2, b2, x2⟩ := bc 1 ht
 obtain ⟨s3, g3, b3, x3⟩ := bc 2 ht
 have q1 : Qp l → Qp (l ++ [⟨s1, [108, 101, 116]⟩, ⟨s2, t.text⟩, ⟨s3, [61]⟩]) := fun hq => by simp only [bH, bp]; exact ⟨hq, ⟨b1, by decide⟩, ⟨b2, by omega⟩, ⟨b3, by decide⟩, bG⟩
 obtain ⟨r0, e0, z0, y0, m0⟩ := ih 0 u0 hu0 (l ++ [⟨s1, [108, 101, 116]⟩, ⟨s2, t.text⟩, ⟨s3, [61]⟩]) (by first | omega | (simp only [List.length_append, List.length_cons, List.length_nil]; omega))
 try simp only [List.length_append, List.length_cons, List.length_nil] at z0
 obtain ⟨s4, g4, b4, x4⟩ := bc 3 ht
 have q3 : Qp r0 → Qp (r0 ++ [⟨s4, [105, 110]⟩]) := fun hq => by simp only [bH, bp]; exact ⟨hq, ⟨b4, by decide⟩, bG⟩
 obtain ⟨r1, e1, z1, y1, m1⟩ := ih 1 u1 hu1 (r0 ++ [⟨s4, [105, 110]⟩]) (by first | omega | (simp only [List.length_append, List.length_cons, List.length_nil]; omega))
 try simp only [List.length_append, List.length_cons, List.length_nil] at z1
 refine ⟨r1, ?_, by first | omega | (simp only [List.length_append, List.length_cons, List.length_nil]; omega), fun hq => (y1 (q3 (y0 (q1 hq)))), by simp [cr, bo, hk, m0, m1, x1, x2, x3, x4, cP hu0, cP hu1]⟩
 exact DN (M + 2) (by rw [hk]; decide) (iX (M + 1) _ _ _ ⟨fun _ => mD (M) _ _ _ ⟨_, g1, _, g2, _, g3, by simp; omega, u0, hu0, _, e0, _, g4, by simp; omega, u1, hu1, _, e1, rfl⟩, fun h => absurd hk h⟩)
theorem Fn {t : Tree} (hk : t.kind = 21) (hs : shapeK t = true) (ht : tbulk t ≤ 2000000) (ih : ∀ (i : Nat) (u : Tree), t.kids[i]? = some u → Pok u) : Pok t := fun l hl => by
 have htp := bu t
 have htx := cO t
 have hn := eG hs
 have M := 0
 have hkn : t.kids.length = 2 := hn.2.2.2.2 (by simp [hk])
 obtain ⟨u0, hu0, _⟩ | h' := bd t.kids 0
 rotate_left
 ·omega
 obtain ⟨u1, hu1, _⟩ | h' := bd t.kids 1
 rotate_left
 ·omega
 have hsum : tbulk u0 + tbulk u1 + 1 ≤ tbulk t := by
  have hb := bD t
  have hx := sP hu0 hu1
  omega
 obtain ⟨r0, e0, z0, y0, m0⟩ := ih 0 u0 hu0 l (by first | omega | (simp only [List.length_append, List.length_cons, List.length_nil]; omega))
 try simp only [List.length_append, List.length_cons, List.length_nil] at z0
 obtain ⟨s1, g1, b1, x1⟩ := bc 0 ht
 have q2 : Qp r0 → Qp (r0 ++ [⟨s1, t.text⟩]) := fun hq => by simp only [bH, bp]; exact ⟨hq, ⟨b1, by omega⟩, bG⟩
 obtain ⟨r1, e1, z1, y1, m1⟩ := ih 1 u1 hu1 (r0 ++ [⟨s1, t.text⟩]) (by first | omega | (simp only [List.length_append, List.length_cons, List.length_nil]; omega))
 try simp only [List.length_append, List.length_cons, List.length_nil] at z1
 refine ⟨r1, ?_, by first | omega | (simp only [List.length_append, List.length_cons, List.length_nil]; omega), fun hq => (y1 (q2 (y0 hq))), by simp [cr, bo, hk, m0, m1, x1, cP hu0, cP hu1]⟩
 exact CG (M + 2) (by rw [hk]; decide) (iY (M + 1) _ _ _ ⟨fun _ => mJ (M) _ _ _ ⟨u0, hu0, _, e0, _, g1, by simp; omega, u1, hu1, _, e1, rfl⟩, fun h => absurd hk h⟩)
theorem EL {t : Tree} (hk : t.kind = 22) (hs : shapeK t = true) (ht : tbulk t ≤ 2000000) (ih : ∀ (i : Nat) (u : Tree), t.kids[i]? = some u → Pok u) : Pok t := fun l hl => by
 have htp := bu t
 have htx := cO t
 have hn := eG hs
 have M := 0
 have hkn : t.kids.length = 1 := hn.2.2.1 (by simp [hk])
 obtain ⟨u0, hu0, _⟩ | h' := bd t.kids 0
 rotate_left
 ·omega
 have hsum : tbulk u0 + 1 ≤ tbulk t := by
  have hb := bD t
  have hx := nS hu0
  omega
 obtain ⟨s1, g1, b1, x1⟩ := bc 0 ht
 have q1 : Qp l → Qp (l ++ [⟨s1, [40]⟩]) := fun hq => by simp only [bH, bp]; exact ⟨hq, ⟨b1, by decide⟩, bG⟩
 obtain ⟨r0, e0, z0, y0, m0⟩ := ih 0 u0 hu0 (l ++ [⟨s1, [40]⟩]) (by first | omega | (simp only [List.length_append, List.length_cons, List.length_nil]; omega))
 try simp only [List.length_append, List.length_cons, List.length_nil] at z0
 obtain ⟨s2, g2, b2, x2⟩ := bc 1 ht
 have q3 : Qp r0 → Qp (r0 ++ [⟨s2, [41]⟩]) := fun hq => by simp only [bH, bp]; exact ⟨hq, ⟨b2, by decide⟩, bG⟩
 refine ⟨(r0 ++ [⟨s2, [41]⟩]), ?_, by first | omega | (simp only [List.length_append, List.length_cons, List.length_nil]; omega), fun hq => (q3 (y0 (q1 hq))), by simp [cr, bo, hk, m0, x1, x2, cP hu0]⟩
 exact Dk (M + 2) (by rw [hk]; decide) (iW (M + 1) _ _ _ ⟨fun _ => mF (M) _ _ _ ⟨_, g1, by simp; omega, u0, hu0, _, e0, _, g2, by simp; omega, rfl⟩, fun h => absurd hk h⟩)
theorem CL {t : Tree} (hn : ∀ c : Int, c ∈ [(1 : Int), 2, 3, 4, 5, 6, 7, 13, 14, 15, 8, 16, 17, 18, 19, 20, 21, 22] → t.kind ≠ c) (ht : tbulk t ≤ 2000000) : Pok t := fun l hl => by
 obtain ⟨s1, g1, b1, x1⟩ := bc 0 ht
 have htp := bu t
 have htx := cO t
 have M := 0
 refine ⟨l ++ [⟨s1, t.text⟩], ?_, by simp; omega, fun hq => by simp only [bH, bp]; exact ⟨hq, ⟨b1, by omega⟩, bG⟩, by have h1 := hn 1 (by decide); have h2 := hn 2 (by decide); have h3 := hn 3 (by decide); have h4 := hn 4 (by decide); have h5 := hn 17 (by decide); have h6 := hn 8 (by decide); have h7 := hn 16 (by decide); have h8 := hn 18 (by decide); have h9 := hn 19 (by decide); have h10 := hn 20 (by decide); have h11 := hn 21 (by decide); have h12 := hn 22 (by decide); have k1 := hn 5 (by decide); have k2 := hn 6 (by decide); have k3 := hn 7 (by decide); have k4 := hn 13 (by decide); have k5 := hn 14 (by decide); have k6 := hn 15 (by decide); simp [cr, bo, h1, h2, h3, h4, h5, h6, h7, h8, h9, h10, h11, h12, k1, k2, k3, k4, k5, k6, x1]⟩
 exact Dk (M + 2) (fun e => hn t.kind (by simp only [List.mem_cons, List.not_mem_nil, or_false] at e ⊢; omega) rfl) (iW (M + 1) _ _ _ ⟨fun h => absurd h (hn 22 (by decide)), fun _ => ⟨_, g1, by simp; omega, rfl⟩⟩)
theorem yk {t : Tree} (ht : tbulk t ≤ 2000000) (ih : ∀ (i : Nat) (u : Tree), t.kids[i]? = some u → Pok u) (n comma : Nat) (hn : n ≤ t.kids.length) (hc : comma ≤ 10) : ∀ l, l.length + 8 * kbulk (t.kids.take n) ≤ 899999999 → ∃ r, dm l t 0 (n : Int) (comma : Int) r ∧ r.length ≤ l.length + 8 * kbulk (t.kids.take n) ∧ (Qp l → Qp r) ∧ r = l ++ gd t.leads comma (pcTs (t.kids.take n)) 0 := by
 have hk := eh t
 have loop : ∀ k i l, n - i ≤ k → i ≤ n → l.length + 8 * kbulk ((t.kids.take n).drop i) ≤ 899999999 → ∃ r, dK (k + 1) t 0 (n : Int) (comma : Int) l (i : Int) r ∧ r.length ≤ l.length + 8 * kbulk ((t.kids.take n).drop i) ∧ (Qp l → Qp r) ∧ r = l ++ gd t.leads comma (pcTs ((t.kids.take n).drop i)) i := fun k => by
  induction k with
  | zero =>
   intro i l hi hle hl
   exact ⟨l, fd 0 _ _ _ _ _ _ _ ⟨fun h => by omega, fun _ => rfl⟩, by omega, fun h => h, by rw [List.drop_of_length_le (by simp; omega)]; simp [pcTs, gd]⟩
  | succ k ihk =>
   intro i l hi hle hl
   by_cases hin : i < n
   ·obtain ⟨u, hu, hul⟩ | h' := bd t.kids i
    ·have hu' : (t.kids.take n)[i]? = some u := by rw [List.getElem?_take, if_pos hin]; exact hu
     have hd := dD hu'
     rw [hd, kbulk] at hl ⊢
     have hup := bu u
     by_cases h0 : 0 < i
     ·obtain ⟨s, g, b, x⟩ := bc (t := t) (comma + i - 1) ht
      have g' : ah t ((((comma : Int) + (i : Int)) - 0) - 1) s := by rw [show (((comma : Int) + (i : Int)) - 0) - 1 = ((comma + i - 1 : Nat) : Int) by omega]; exact g
      obtain ⟨r, e, z, y, m⟩ := ih i u hu (l ++ [⟨s, [44]⟩]) (by simp; omega)
      simp only [List.length_append, List.length_cons, List.length_nil] at z
      obtain ⟨r2, e2, z2, y2, m2⟩ := ihk (i + 1) r (by omega) (by omega) (by omega)
      refine ⟨r2, fd (k + 1) _ _ _ _ _ _ _ ⟨fun _ => ⟨fun _ => ⟨by omega, by omega, by omega, s, g', by simp; omega, i, rfl, u, hu, r, e, by omega, ?_⟩, fun h => by omega⟩, fun h => by omega⟩, by omega, fun hq => y2 (y (by simp only [bH, bp]; exact ⟨hq, ⟨b, by decide⟩, bG⟩)), by simp [pcTs, gd, h0, m2, m, x]⟩
      exact e2
     ·obtain ⟨r, e, z, y, m⟩ := ih i u hu l (by omega)
      obtain ⟨r2, e2, z2, y2, m2⟩ := ihk (i + 1) r (by omega) (by omega) (by omega)
      refine ⟨r2, fd (k + 1) _ _ _ _ _ _ _ ⟨fun _ => ⟨fun h => by omega, fun _ => ⟨i, rfl, u, hu, r, e, by omega, e2⟩⟩, fun h => by omega⟩, by omega, fun hq => y2 (y hq), by simp [pcTs, gd, h0, m2, m]⟩
    ·omega
   ·exact ⟨l, fd (k + 1) _ _ _ _ _ _ _ ⟨fun h => by omega, fun _ => rfl⟩, by omega, fun h => h, by rw [List.drop_of_length_le (by simp; omega)]; simp [pcTs, gd]⟩
 intro l hl
 have h1 : kbulk (t.kids.take n) ≤ kbulk t.kids := by
  have : ∀ (l : List Tree) n, kbulk (l.take n) ≤ kbulk l := fun l => by
   induction l with
   | nil => intro n; simp
   |cons a r ih => intro n; cases n with
    | zero => simp [kbulk]
    | succ n => have := ih n; simp only [List.take_succ_cons, kbulk]; omega
  exact this _ _
 have h2 := bD t
 obtain ⟨r, e, z, y, m⟩ := loop n 0 l (by omega) (by omega) (by simpa using hl)
 exact ⟨r, pM (n + 1) _ _ _ _ _ _ e, by simpa using z, y, by simpa using m⟩
theorem qG (l : List Tree) (n : Nat) : kbulk (l.take n) + kbulk (l.drop n) = kbulk l := by rw [← dr, List.take_append_drop]
theorem EZ {t : Tree} (hk : t.kind = 16) (hs : shapeK t = true) (ht : tbulk t ≤ 2000000) (ih : ∀ (i : Nat) (u : Tree), t.kids[i]? = some u → Pok u) : Pok t := fun l hl => by
 have hb := bD t
 have htx := cO t
 have M := 0
 obtain ⟨s1, g1, b1, x1⟩ := bc 0 ht
 obtain ⟨s2, g2, b2, x2⟩ := bc 1 ht
 obtain ⟨r, e, z, y, m⟩ := yk ht ih t.kids.length 3 (Nat.le_refl _) (by decide) (l ++ [⟨s1, t.text⟩, ⟨s2, [40]⟩]) (by simp only [List.length_append, List.length_cons, List.length_nil, List.take_length]; omega)
 simp only [List.length_append, List.length_cons, List.length_nil, List.take_length] at z
 obtain ⟨s9, g9, b9, x9⟩ := bc 2 ht
 refine ⟨r ++ [⟨s9, [41]⟩], ?_, by simp only [List.length_append, List.length_cons, List.length_nil]; omega, fun hq => by
  have := y (by simp only [bH, bp]; exact ⟨hq, ⟨b1, by omega⟩, ⟨b2, by decide⟩, bG⟩)
  simp only [bH, bp]; exact ⟨this, ⟨b9, by decide⟩, bG⟩, by simp [cr, bo, hk, m, x9, x1, x2]⟩
 exact Dm (M + 2) (by rw [hk]; decide) (iR (M + 1) _ _ _ ⟨fun _ => mK (M) _ _ _ ⟨_, g1, _, g2, by simp only [List.length_append, List.length_cons, List.length_nil]; omega, _, e, _, g9, by simp only [List.length_append, List.length_cons, List.length_nil]; omega, rfl⟩, fun h => absurd hk h⟩)
theorem ET {t : Tree} (hk : t.kind = 18) (hs : shapeK t = true) (ht : tbulk t ≤ 2000000) (ih : ∀ (i : Nat) (u : Tree), t.kids[i]? = some u → Pok u) : Pok t := fun l hl => by
 have hb := bD t
 have htx := cO t
 have M := 0
 obtain ⟨s1, g1, b1, x1⟩ := bc 0 ht
 obtain ⟨r, e, z, y, m⟩ := yk ht ih t.kids.length 2 (Nat.le_refl _) (by decide) (l ++ [⟨s1, [91]⟩]) (by simp only [List.length_append, List.length_cons, List.length_nil, List.take_length]; omega)
 simp only [List.length_append, List.length_cons, List.length_nil, List.take_length] at z
 obtain ⟨s9, g9, b9, x9⟩ := bc 1 ht
 refine ⟨r ++ [⟨s9, [93]⟩], ?_, by simp only [List.length_append, List.length_cons, List.length_nil]; omega, fun hq => by
  have := y (by simp only [bH, bp]; exact ⟨hq, ⟨b1, by decide⟩, bG⟩)
  simp only [bH, bp]; exact ⟨this, ⟨b9, by decide⟩, bG⟩, by simp [cr, bo, hk, m, x9, x1]⟩
 exact DH (M + 2) (by rw [hk]; decide) (iU (M + 1) _ _ _ ⟨fun _ => mI (M) _ _ _ ⟨_, g1, by simp only [List.length_append, List.length_cons, List.length_nil]; omega, _, e, _, g9, by simp only [List.length_append, List.length_cons, List.length_nil]; omega, rfl⟩, fun h => absurd hk h⟩)
theorem p_2 {t : Tree} (hk : t.kind = 2) (hs : shapeK t = true) (ht : tbulk t ≤ 2000000) (ih : ∀ (i : Nat) (u : Tree), t.kids[i]? = some u → Pok u) : Pok t := fun l hl => by
 have hb := bD t
 have htx := cO t
 have hn := (eG hs).1 hk
 have hkl := eh t
 have M := 0
 obtain ⟨s1, g1, b1, x1⟩ := bc 0 ht
 obtain ⟨s2, g2, b2, x2⟩ := bc 1 ht
 obtain ⟨s3, g3, b3, x3⟩ := bc 2 ht
 obtain ⟨s4, g4, b4, x4⟩ := bc 3 ht
 obtain ⟨s5, g5, b5, x5⟩ := bc 4 ht
 obtain ⟨s6, g6, b6, x6⟩ := bc 5 ht
 obtain ⟨r, e, z, y, m⟩ := yk ht ih (t.kids.length - 2) 6 (by omega) (by decide) (l ++ [⟨s1, [100, 101, 102]⟩, ⟨s2, t.text⟩, ⟨s3, [40]⟩]) (by have := qG t.kids (t.kids.length - 2); simp only [List.length_append, List.length_cons, List.length_nil]; omega)
 simp only [List.length_append, List.length_cons, List.length_nil] at z
 obtain ⟨u, hu, _⟩ | h' := bd t.kids (t.kids.length - 2)
 rotate_left
 ·omega
 obtain ⟨v, hv, _⟩ | h' := bd t.kids (t.kids.length - 1)
 rotate_left
 ·omega
 have hsp := qG t.kids (t.kids.length - 2)
 have hd1 := dD hu
 have hd2 : t.kids.drop (t.kids.length - 2 + 1) = v :: t.kids.drop (t.kids.length - 1 + 1) := by rw [show t.kids.length - 2 + 1 = t.kids.length - 1 by omega]; exact dD hv
 rw [hd1, kbulk, hd2, kbulk] at hsp
 have hup := bu u
 have hvp := bu v
 have e' : dm (l ++ [⟨s1, [100, 101, 102]⟩, ⟨s2, t.text⟩, ⟨s3, [40]⟩]) t 0 (((t.kids.length : Nat) : Int) - 2) 6 r := by rw [show ((t.kids.length : Nat) : Int) - 2 = ((t.kids.length - 2 : Nat) : Int) by omega]; exact e
 obtain ⟨r1, e1, z1, y1, m1⟩ := ih _ u hu (r ++ [⟨s4, [41]⟩, ⟨s5, [58]⟩]) (by simp only [List.length_append, List.length_cons, List.length_nil]; omega)
 simp only [List.length_append, List.length_cons, List.length_nil] at z1
 obtain ⟨r2, e2, z2, y2, m2⟩ := ih _ v hv (r1 ++ [⟨s6, [61]⟩]) (by simp only [List.length_append, List.length_cons, List.length_nil]; omega)
 simp only [List.length_append, List.length_cons, List.length_nil] at z2
 refine ⟨r2, ?_, by omega, fun hq => ?_, by simp [cr, bo, hk, m, m1, m2, x1, x2, x3, x4, x5, x6, cP hu, cP hv, yA, oT]⟩
 ·exact dn1 (M + 2) (by rw [hk]; decide) (jh (M + 1) _ _ _ ⟨fun _ => nz (M) _ _ _ ⟨_, g1, _, g2, _, g3, by simp only [List.length_append, List.length_cons, List.length_nil]; omega, by omega, r, e', _, g4, _, g5, by simp only [List.length_append, List.length_cons, List.length_nil]; omega, by omega, t.kids.length - 2, by omega, u, hu, r1, e1, _, g6, by simp only [List.length_append, List.length_cons, List.length_nil]; omega, by omega, t.kids.length - 1, by omega, v, hv, r2, e2, rfl⟩, fun h => absurd hk h⟩)
 ·have q1 := y (by simp only [bH, bp]; exact ⟨hq, ⟨b1, by decide⟩, ⟨b2, by omega⟩, ⟨b3, by decide⟩, bG⟩)
  have q2 := y1 (by simp only [bH, bp]; exact ⟨q1, ⟨b4, by decide⟩, ⟨b5, by decide⟩, bG⟩)
  exact y2 (by simp only [bH, bp]; exact ⟨q2, ⟨b6, by decide⟩, bG⟩)
theorem p_1 {t : Tree} (hk : t.kind = 1) (hs : shapeK t = true) (ht : tbulk t ≤ 2000000) (ih : ∀ (i : Nat) (u : Tree), t.kids[i]? = some u → Pok u) : Pok t := fun l hl => by
 have hb := bD t
 have htx := cO t
 have hkl := eh t
 obtain ⟨s1, g1, b1, x1⟩ := bc 0 ht
 obtain ⟨s2, g2, b2, x2⟩ := bc 1 ht
 obtain ⟨s3, g3, b3, x3⟩ := bc 2 ht
 have loop : ∀ k i l, t.kids.length - i ≤ k → l.length + 8 * kbulk (t.kids.drop i) ≤ 899999996 → ∃ r, cZ (k + 1) t l i r ∧ r.length ≤ l.length + 8 * kbulk (t.kids.drop i) + 1 ∧ (Qp l → Qp r) ∧ r = l ++ ((pcTs (t.kids.drop i)).flatten ++ [⟨t.leads.getD 2 [], []⟩]) := fun k => by
  have last : ∀ k i l, ¬ i < t.kids.length → l.length ≤ 899999996 → ∃ r, cZ (k + 1) t l i r ∧ r.length ≤ l.length + 8 * kbulk (t.kids.drop i) + 1 ∧ (Qp l → Qp r) ∧ r = l ++ ((pcTs (t.kids.drop i)).flatten ++ [⟨t.leads.getD 2 [], []⟩]) := fun k i l hi hl => by
   refine ⟨l ++ [⟨s3, []⟩], jo k _ _ _ _ ⟨fun h => absurd h hi, fun _ => ⟨s3, g3, by simp only [List.length_append, List.length_cons, List.length_nil]; omega, rfl⟩⟩, by simp only [List.length_append, List.length_cons, List.length_nil]; omega, fun hq => by simp only [bH, bp]; exact ⟨hq, ⟨b3, by decide⟩, bG⟩, by rw [List.drop_of_length_le (by omega)]; simp [pcTs, x3]⟩
  induction k with
  | zero => intro i l hi hl; exact last 0 i l (by omega) (by omega)
  | succ k ihk =>
   intro i l hi hl
   obtain ⟨u, hu, hul⟩ | h' := bd t.kids i
   ·have hd := dD hu
    rw [hd, kbulk] at hl ⊢
    obtain ⟨r, e, z, y, m⟩ := ih i u hu l (by omega)
    obtain ⟨r2, e2, z2, y2, m2⟩ := ihk (i + 1) r (by omega) (by omega)
    exact ⟨r2, jo (k + 1) _ _ _ _ ⟨fun _ => ⟨u, hu, r, e, by omega, e2⟩, fun h => absurd hul h⟩, by omega, fun hq => y2 (y hq), by simp [pcTs, m2, m]⟩
   ·exact last (k + 1) i l h' (by omega)
 obtain ⟨r, e, z, y, m⟩ := loop t.kids.length 0 (l ++ [⟨s1, [109, 111, 100, 117, 108, 101]⟩, ⟨s2, t.text⟩]) (by omega) (by simp only [List.length_append, List.length_cons, List.length_nil, List.drop_zero]; omega)
 simp only [List.length_append, List.length_cons, List.length_nil, List.drop_zero] at z
 refine ⟨r, jS (t.kids.length + 2) _ _ _ ⟨fun _ => nq (t.kids.length + 1) _ _ _ ⟨_, g1, _, g2, by simp only [List.length_append, List.length_cons, List.length_nil]; omega, e⟩, fun h => absurd hk h⟩, by omega, fun hq => y (by simp only [bH, bp]; exact ⟨hq, ⟨b1, by decide⟩, ⟨b2, by omega⟩, bG⟩), by simp [cr, bo, hk, m, x1, x2]⟩
theorem AU : ∀ t : Tree, tbulk t ≤ 2000000 → shapeK t = true → Pok t := ec fun t ih ht hs => by
 have ih' : ∀ (i : Nat) (u : Tree), t.kids[i]? = some u → Pok u := fun i u hu => ih i u hu (by have := dP hu; omega) (dq hs hu).1
 by_cases h : ∃ c ∈ [(1 : Int), 2, 3, 4, 5, 6, 7, 13, 14, 15, 8, 16, 17, 18, 19, 20, 21, 22], t.kind = c
 ·obtain ⟨c, hc, e⟩ := h
  simp only [List.mem_cons, List.not_mem_nil, or_false] at hc
  rcases hc with rfl | rfl | rfl | rfl | rfl | rfl | rfl | rfl | rfl | rfl | rfl | rfl | rfl | rfl | rfl | rfl | rfl | rfl
  ·exact p_1 e hs ht ih'
  ·exact p_2 e hs ht ih'
  ·exact p_3 e hs ht ih'
  ·exact p_4 e hs ht ih'
  ·exact p_5 e ht
  ·exact p_6 e ht
  ·exact p_7 e ht
  ·exact Fo e ht
  ·exact EK e ht
  ·exact EU e ht
  ·exact p_8 e hs ht ih'
  ·exact EZ e hs ht ih'
  ·exact Fd e hs ht ih'
  ·exact ET e hs ht ih'
  ·exact Fa e hs ht ih'
  ·exact EW e hs ht ih'
  ·exact Fn e hs ht ih'
  ·exact EL e hs ht ih'
 ·exact CL (fun c hc e => h ⟨c, hc, e⟩) ht
theorem zh : ∀ t : Tree, tbulk t ≤ 2000000 → ∃ b, ev t b := ec fun t ih ht => by
 have hk := eh t
 have kids : ∀ k i, t.kids.length - i ≤ k → ∃ b, az (k + 1) t i b := fun k => by
  induction k with
  | zero => intro i hi; exact ⟨_, dI 0 _ _ _ ⟨fun h => by omega, fun _ => rfl⟩⟩
  | succ k ihk =>
   intro i hi
   obtain ⟨u, hu, hul⟩ | h' := bd t.kids i
   ·have := dP hu
    obtain ⟨b, hb⟩ := ih i u hu (by omega)
    cases b with
    | false => exact ⟨false, dI (k + 1) _ _ _ ⟨fun _ => ⟨u, hu, _, hb, fun _ => rfl, fun h => (by cases h)⟩, fun h => absurd hul h⟩⟩
    | true =>
     obtain ⟨b2, hb2⟩ := ihk (i + 1) (by omega)
     exact ⟨b2, dI (k + 1) _ _ _ ⟨fun _ => ⟨u, hu, _, hb, fun h => (by cases h), fun _ => ⟨by omega, hb2⟩⟩, fun h => absurd hul h⟩⟩
   ·exact ⟨true, dI (k + 1) _ _ _ ⟨fun h => absurd h h', fun _ => rfl⟩⟩
 obtain ⟨b, hb⟩ := kids t.kids.length 0 (by omega)
 by_cases hall : (t.kind = 1 ∧ (40 : Int) < t.kids.length) ∨ (t.kind = 2 ∧ (10 : Int) < t.kids.length) ∨ (t.kind = 16 ∧ (8 : Int) < t.kids.length) ∨ (t.kind = 18 ∧ (16 : Int) < t.kids.length)
 ·refine ⟨false, jR (t.kids.length + 1) _ _ ?_⟩
  repeat' (refine And.intro (fun _ => ?_) (fun _ => ?_))
  all_goals first | rfl | (exfalso; omega)
 ·refine ⟨b, jR (t.kids.length + 1) _ _ ?_⟩
  repeat' (refine And.intro (fun _ => ?_) (fun _ => ?_))
  all_goals first | exact hb | (exfalso; omega)
theorem AK : ∀ t : Tree, tbulk t ≤ 2000000 → ∃ n, fa t n ∧ 0 ≤ n ∧ n ≤ tbulk t := ec fun t ih ht => by
 have hk := eh t
 have kids : ∀ k i (z : Int), t.kids.length - i ≤ k → 0 ≤ z → z < tbulk t → ∃ n, ey (k + 1) t z i n ∧ 0 ≤ n ∧ n ≤ tbulk t := fun k => by
  induction k with
  | zero => intro i z hi h0 hz; exact ⟨_, gk 0 _ _ _ _ ⟨fun h => by omega, fun _ => ⟨by omega, rfl⟩⟩, by omega, by omega⟩
  | succ k ihk =>
   intro i z hi h0 hz
   obtain ⟨u, hu, hul⟩ | h' := bd t.kids i
   ·have := dP hu
    obtain ⟨n, hn, n0, n1⟩ := ih i u hu (by omega)
    obtain ⟨r, hr, r0, r1⟩ := ihk (i + 1) (max z n) (by omega) (by omega) (by omega)
    exact ⟨r, gk (k + 1) _ _ _ _ ⟨fun _ => ⟨u, hu, _, hn, hr⟩, fun h => absurd hul h⟩, r0, r1⟩
   ·exact ⟨_, gk (k + 1) _ _ _ _ ⟨fun h => absurd h h', fun _ => ⟨by omega, rfl⟩⟩, by omega, by omega⟩
 obtain ⟨n, hn, n0, n1⟩ := kids t.kids.length 0 0 (by omega) (by omega) (by have := bu t; omega)
 exact ⟨n, oN _ _ _ hn, n0, n1⟩
end Go.Proofs.YtgpcdfbmbcognaaGreat
namespace Go.Proofs.YtgpcdfbmbcognaaGreat
open Go.RowKit Lx Sx
set_option maxRecDepth 100000
set_option maxHeartbeats 4000000
def pd (p0 : Tree) (r0 : List UInt8) : Prop := qS 21 [.agg (ak p0)] (.str r0)
def mj (p0 : List UInt8) (p1 r0 : Bool) : Prop := qS 41 [.str p0, .bool p1] (.bool r0)
def ir (p0 : Tree) (r0 : Bool) : Prop := qS 20 [.agg (ak p0)] (.bool r0)
def gm (p0 : Tree) (r0 : List UInt8) : Prop := qS 8 [.agg (ak p0)] (.str r0)
def dE (m : Nat) (p0 : Tree) (a : Nat) (r0 : Bool) : Prop := ∀ (K : Ctx) (j1 : Nat), aI K [] → m ≤ j1 → qLG K Tryz.f20 (fun u _ => u = .bool r0) (xI (ae Tryz.f20)) [.loop (xI (ae Tryz.f20)) j1, .blk 0, .seq (xH (ae Tryz.f20))] 47 (mkF 47 0 [(1, .box (ak p0) 0), (18, .row 1 (List.map V.str p0.leads)), (19, .int .i64 (p0.leads.length : Int)), (20, .int .i64 (a : Int))]) ⟨0, []⟩
def eR (m : Nat) (p0 : Tree) (a : Nat) (r0 : Bool) : Prop := ∀ (K : Ctx) (j1 : Nat), aI K [] → m ≤ j1 → qLG K Tryz.f20 (fun u _ => u = .bool r0) (xI (cB (ae Tryz.f20))) [.loop (xI (cB (ae Tryz.f20))) j1, .blk 2, .seq (xK (ae Tryz.f20))] 47 (mkF 47 0 [(37, .row 4 (kidsV p0.kids)), (38, .int .i64 (p0.kids.length : Int)), (39, .int .i64 (a : Int))]) ⟨0, []⟩
theorem mv (m : Nat) (p0 : Tree) (r0 : Bool) (h : ∃ a, eM p0.kind (p0.kids.length : Int) a ∧ (((p0.leads.length : Int) ≠ a) → false = r0) ∧ (((p0.leads.length : Int) = a) → dE m p0 0 r0)) : ir p0 r0 := by
 refine ⟨rfl, rfl, ?_⟩
 refine av 47 [] Tryz.func20 rfl rfl rfl (aY rfl) fun K hK => ?_
 refine gR 3 rfl <| gFP 0 rfl rfl rfl rfl <| gR 5 rfl <| gDs [] 10 10 rfl (by kernel_rfl) (by kernel_rfl) <| gDr [(0, 2), (1, 2), (2, 2)] (by kernel_rfl) rfl rfl <| gV 9 (.int .i64 (p0.leads.length : Int)) rfl (bV (aV V.str _)) rfl <| gLB 8 rfl (aV V.str _) fun hl33 => gDr [(3, 2), (4, 2), (5, 0), (6, 0), (7, 0)] (by kernel_rfl) rfl rfl <| gV 14 (.int .i64 (p0.kids.length : Int)) rfl (bV (bq _)) rfl <| gLB 13 rfl (bq _) fun hl34 => ?_
 obtain ⟨a, hs35, h⟩ := h
 refine bP 8 hs35 (by kernel_rfl) rfl (by kernel_rfl) rfl rfl .rfl rfl rfl ?_
 refine gDr [(9, 0)] (by kernel_rfl) rfl rfl <| gDe (by kernel_rfl) <| gR 1 rfl <| gB 16 rfl rfl rfl ?_ ?_ <;> intro hd
 replace hd := (lf hd)
 replace h := h.1 hd
 refine gR 8 rfl ?_
 subst h
 exact go_end ab (rs := [.tmp 2]) rfl rfl rfl
 replace hd := (iK hd)
 replace h := h.2 hd
 exact gR 9 rfl <| gV 19 (.int .i64 (p0.leads.length : Int)) rfl (bV (aV V.str _)) rfl <| gR 4 rfl <| go_loop m <| gJ (h K _ hK (by omega)) [] [] rfl hK pq4 trivial rfl
theorem jc (m : Nat) (p0 : Tree) (a : Nat) (r0 : Bool) (h : ((a < p0.leads.length) → ∃ b, p0.leads[a]? = some b ∧ ((p0.kind = 1) → ∃ c, mj b ((a : Int) == 2) c ∧ ((c = false) → false = r0) ∧ ((c = true) → a + 1 ≤ 9223372036854775807 ∧ dE m p0 (a + 1) r0)) ∧ ((p0.kind ≠ 1) → ∃ d, mj b false d ∧ ((d = false) → false = r0) ∧ ((d = true) → a + 1 ≤ 9223372036854775807 ∧ dE m p0 (a + 1) r0))) ∧ ((¬ a < p0.leads.length) → eR m p0 0 r0)) : dE (m + 1) p0 a r0 := by
 intro K j1 hK hj1
 obtain ⟨j1, rfl⟩ : ∃ j, j1 = j + 1 := ⟨j1 - 1, by omega⟩
 refine gR 6 rfl <| gB 21 rfl rfl rfl ?_ ?_ <;> intro hd
 replace hd := (ia hd)
 replace h := h.1 hd
 refine gR 8 rfl ?_
 obtain ⟨b, hxs1_1, h⟩ := h
 refine gY (bw (mapget (f := V.str) hxs1_1) ab rfl rfl rfl rfl) rfl rfl <| gR 12 rfl <| gB 29 rfl rfl rfl ?_ ?_ <;> intro hd
 refine gT 28 rfl hd rfl ?_
 replace hd := (eq_of_beq hd)
 replace h := h.1 hd
 refine gR 3 rfl ?_
 obtain ⟨c, hs36, h⟩ := h
 refine gC0 hs36 (by kernel_rfl) rfl rfl .rfl rfl <| gR 3 rfl <| gB 34 rfl rfl rfl ?_ ?_ <;> intro hd
 replace hd := (eE hd)
 replace h := h.1 hd
 refine gR 9 rfl <| go_xloopR <| gR 2 rfl ?_
 subst h
 exact go_end ab (rs := [.tmp 2]) rfl rfl rfl
 replace hd := (eC hd)
 replace h := h.2 hd
 refine gR 5 rfl ?_
 obtain ⟨hb, h⟩ := h
 exact gR 1 rfl <| gV 35 (.int .i64 ((a + 1 : Nat) : Int)) rfl (aG (by omega) (by omega)) rfl <| gR 2 rfl <| go_xloop <| gJ (h K _ hK (by omega)) [] [] rfl hK pq4 trivial rfl
 refine gF 28 rfl hd rfl ?_
 replace hd := (ne_of_beq_false hd)
 replace h := h.2 hd
 refine gR 3 rfl ?_
 obtain ⟨d, hs37, h⟩ := h
 refine gC0 hs37 (by kernel_rfl) rfl rfl .rfl rfl <| gR 3 rfl <| gB 34 rfl rfl rfl ?_ ?_ <;> intro hd
 replace hd := (eE hd)
 replace h := h.1 hd
 refine gR 9 rfl <| go_xloopR <| gR 2 rfl ?_
 subst h
 exact go_end ab (rs := [.tmp 2]) rfl rfl rfl
 replace hd := (eC hd)
 replace h := h.2 hd
 refine gR 5 rfl ?_
 obtain ⟨hb, h⟩ := h
 exact gR 1 rfl <| gV 35 (.int .i64 ((a + 1 : Nat) : Int)) rfl (aG (by omega) (by omega)) rfl <| gR 2 rfl <| go_xloop <| gJ (h K _ hK (by omega)) [] [] rfl hK pq4 trivial rfl
 replace hd := (ib hd)
 replace h := h.2 hd
 exact gR 3 rfl <| go_xloopE <| gR 8 rfl <| gV 38 (.int .i64 (p0.kids.length : Int)) rfl (bV (bq _)) rfl <| gLB 37 rfl (bq _) fun hl38 => gR 4 rfl <| go_loop m <| gJ (h K _ hK (by omega)) [] [] rfl hK pq3 trivial rfl
theorem lR (m : Nat) (p0 : Tree) (a : Nat) (r0 : Bool) (h : ((a < p0.kids.length) → ∃ c, p0.kids[a]? = some c ∧ ∃ b, ir c b ∧ ((b = false) → false = r0) ∧ ((b = true) → a + 1 ≤ 9223372036854775807 ∧ eR m p0 (a + 1) r0)) ∧ ((¬ a < p0.kids.length) → true = r0)) : eR (m + 1) p0 a r0 := by
 intro K j1 hK hj1
 obtain ⟨j1, rfl⟩ : ∃ j, j1 = j + 1 := ⟨j1 - 1, by omega⟩
 refine gR 6 rfl <| gB 40 rfl rfl rfl ?_ ?_ <;> intro hd
 replace hd := (ia hd)
 replace h := h.1 hd
 refine gR 7 rfl ?_
 obtain ⟨c, hxt2_1, h⟩ := h
 refine gY (bw (aJ hxt2_1) ab rfl rfl rfl rfl) rfl rfl <| gR 8 rfl ?_
 obtain ⟨b, hs39, h⟩ := h
 refine gC0 hs39 (by kernel_rfl) rfl rfl .rfl rfl <| gR 3 rfl <| gB 45 rfl rfl rfl ?_ ?_ <;> intro hd
 replace hd := (eE hd)
 replace h := h.1 hd
 refine gR 9 rfl <| go_xloopR <| gR 2 rfl ?_
 subst h
 exact go_end ab (rs := [.tmp 2]) rfl rfl rfl
 replace hd := (eC hd)
 replace h := h.2 hd
 refine gR 5 rfl ?_
 obtain ⟨hb, h⟩ := h
 exact gR 1 rfl <| gV 46 (.int .i64 ((a + 1 : Nat) : Int)) rfl (aG (by omega) (by omega)) rfl <| gR 2 rfl <| go_xloop <| gJ (h K _ hK (by omega)) [] [] rfl hK pq3 trivial rfl
 replace hd := (ib hd)
 replace h := h.2 hd
 refine gR 3 rfl <| go_xloopE <| gR 8 rfl ?_
 subst h
 exact go_end ab (rs := [.tmp 2]) rfl rfl rfl
theorem rp (m : Nat) (p0 : Tree) (r0 : List UInt8) (h : ∃ a, ik p0 a ∧ ((a = false) → [] = r0) ∧ ((a = true) → ∃ b, ir p0 b ∧ ((b = false) → [] = r0) ∧ ((b = true) → ∃ c, pd p0 c ∧ c = r0))) : gm p0 r0 := by
 refine ⟨rfl, rfl, ?_⟩
 refine av 13 [] Tryz.func8 rfl rfl rfl (aY rfl) fun K hK => ?_
 refine gR 3 rfl <| gFP 0 rfl rfl rfl rfl <| gR 7 rfl ?_
 obtain ⟨a, hs4, h⟩ := h
 refine gC0 hs4 (by kernel_rfl) rfl rfl .rfl rfl <| gR 2 rfl <| qBhZ 6 5 rfl rfl rfl rfl h eE eC (fun h => ?_) fun h => ?_
 refine gR 14 rfl ?_
 subst h
 exact go_end ab (rs := [.tmp 2]) rfl rfl rfl
 refine gR 1 rfl ?_
 obtain ⟨b, hs5, h⟩ := h
 refine gC0 hs5 (by kernel_rfl) rfl rfl .rfl rfl <| gR 4 rfl <| qBh 10 rfl rfl rfl h eE eC (fun h => ?_) fun h => ?_
 refine gR 8 rfl ?_
 subst h
 exact go_end ab (rs := [.tmp 2]) rfl rfl rfl
 refine gR 6 rfl ?_
 obtain ⟨c, hs6, h⟩ := h
 refine gC0 hs6 (by kernel_rfl) rfl rfl .rfl rfl <| gR 4 rfl ?_
 subst h
 exact go_end ab (rs := [.tmp 2]) rfl rfl rfl
end Go.Proofs.YtgpcdfbmbcognaaGreat
namespace Go.Proofs.YtgpcdfbmbcognaaGreat
open Go.RowKit
inductive It where
 | seq (c : Code)
 | blk (id : Nat)
inductive Pt where
 | code (c : Code)
 | ops (all : Array Oper) (rest : List Oper)
 | ex (e : Exit)
def stk (P : Program) (Q : Exit → Act → World → Prop) : List It → Exit → Act → World → Prop
 | [] => Q
 | .seq c :: s => Exit.then (c.wp P (stk P Q s)) (stk P Q s)
 | .blk id :: s => Exit.inBlock id (stk P Q s)
def Pt.wp (P : Program) (Q : Exit → Act → World → Prop) (p : Pt) (s : List It) (a : Act) (w : World) : Prop :=
 match p with
 | .code c => c.wp P (stk P Q s) a w
 | .ops all rest => wpList P all (stk P Q s) rest a w
 | .ex e => stk P Q s e a w
def ve (b : Bool) : Option Value := match b with | true => some (.bool true) | false => some (.bool false)
def wQ (ft : Nat → Nat → Option Nat) (f : Nat → Option Value) (op : Op) : Option Value :=
 match op with
 | .move x => au f x
 | .assign x => au f x
 |.pick c x y => match au f c with
  | some (.bool true) => au f x
  | some (.bool false) => au f y
  | _ => none
 |.nilCheck x => match au f x with
  | some (.pointer (some p)) => some (.pointer (some p))
  | _ => none
 |.extract x i => match au f x with
  | some (.tuple vs) => vs[i]?
  | _ => none
 |.unOp .not _ x => match au f x with
  | some (.bool b) => ve (!b)
  | _ => none
 |.fieldAddr t x i => match au f x with
  |some (.pointer (some ⟨b, o, none⟩)) => match ft t i with
   | some k => some (.pointer (some ⟨b, o + k, none⟩))
   | none => none
  | _ => none
 |.binOp .eql _ x y _ => match au f x with
  |some (.int k m) => match au f y with
   | some (.int k' l) => if k = k' then ve (m == l) else none
   | _ => none
  | _ => none
 |.binOp .neq _ x y _ => match au f x with
  |some (.int k m) => match au f y with
   | some (.int k' l) => if k = k' then ve (m != l) else none
   | _ => none
  | _ => none
 | _ => none
def rZ (ft : Nat → Nat → Option Nat) (n : Nat) (all : Array Oper) (o : Oper) (f : Nat → Option Value) : Option (Nat → Option Value) :=
 match ds f all o.guard with
 |true => match wQ ft f o.op with
  |some v => match dl o.dst n with
   | true => some (upo f o.dst v)
   | false => none
  | none => none
 |false => match mO f all o.guard with
  |true => match dl o.dst n with
   | true => some (upo f o.dst undef)
   | false => none
  | false => none
def eO (ft : Nat → Nat → Option Nat) (n : Nat) : Nat → Pt → List It → (Nat → Option Value) → Option (Pt × List It × (Nat → Option Value))
 | 0, p, s, f => some (p, s, f)
 |k + 1, .code c, s, f => match c with
  | .seq x y => eO ft n k (.code x) (.seq y :: s) f
  | .block id c => eO ft n k (.code c) (.blk id :: s) f
  | .skip => eO ft n k (.ex .normal) s f
  | .ret => eO ft n k (.ex .ret) s f
  | .exit id => eO ft n k (.ex (.exit id)) s f
  |.cond c x y => match au f c with
   | some (.bool true) => eO ft n k (.code x) s f
   | some (.bool false) => eO ft n k (.code y) s f
   | _ => none
  | .region _ ⟨l⟩ false => eO ft n k (.ops ⟨l⟩ l) s f
  | _ => none
 |k + 1, .ops all rest, s, f => match rest with
  | [] => eO ft n k (.ex .normal) s f
  |o :: r => match rZ ft n all o f with
   | some f' => eO ft n k (.ops all r) s f'
   | none => none
 |k + 1, .ex e, s, f => match s with
  | [] => none
  |.seq c :: s => match e with
   | .normal => eO ft n k (.code c) s f
   | .exit i => eO ft n k (.ex (.exit i)) s f
   | .ret => eO ft n k (.ex .ret) s f
   | _ => none
  |.blk id :: s => match e with
   | .normal => eO ft n k (.ex .normal) s f
   |.exit i => match Nat.beq i id with
    | true => eO ft n k (.ex .normal) s f
    | false => eO ft n k (.ex (.exit i)) s f
   | .ret => eO ft n k (.ex .ret) s f
   | _ => none
section
variable {P : Program} {Q : Exit → Act → World → Prop} {a : Act} {w w' : World} {n : Nat} {f f' : Nat → Option Value} {ft : Nat → Nat → Option Nat} {p p' : Pt} {s s' : List It}
theorem pA {b : Bool} {v : Value} (h : ve b = some v) : v = .bool b := by cases b <;> simp [ve] at h <;> exact h.symm
theorem vn (hft : ∀ t i k, ft t i = some k → ek P t i = some k) {op : Op} {v : Value} {ty : TypeId} (h : Fr a n f) (hv : wQ ft f op = some v) : Runs P a ty op w (.value v) w := by
 unfold wQ at hv
 split at hv
 ·exact pV h hv
 ·exact px h hv
 ·split at hv
  ·exact vx h ‹_› hv
  ·exact ua h ‹_› hv
  ·cases hv
 ·split at hv
  ·injection hv with hv; subst hv; exact sd h ‹_›
  ·cases hv
 ·split at hv
  ·exact rY h ‹_› hv
  ·cases hv
 ·split at hv
  ·rw [pA hv]; exact zk h ‹_› rfl
  ·cases hv
 ·split at hv
  ·split at hv
   ·injection hv with hv; subst hv; exact tN h ‹_› (hft _ _ _ ‹_›) rfl
   ·cases hv
  ·cases hv
 ·split at hv
  ·split at hv
   ·split at hv
    ·rename_i e; subst e; rw [pA hv]; exact cW h ‹_› ‹_› rfl
    ·cases hv
   ·cases hv
  ·cases hv
 ·split at hv
  ·split at hv
   ·split at hv
    ·rename_i e; subst e; rw [pA hv]; exact yZ h ‹_› ‹_› rfl
    ·cases hv
   ·cases hv
  ·cases hv
 ·cases hv
theorem Av (hft : ∀ t i k, ft t i = some k → ek P t i = some k) {all : Array Oper} {o : Oper} {rest : List Oper} {Q : Exit → Act → World → Prop} (h : Fr a n f) (hs : rZ ft n all o f = some f') (k : ∀ a', Fr a' n f' → wpList P all Q rest a' w) : wpList P all Q (o :: rest) a w := by
 obtain ⟨d, op, ty, ps, af, g⟩ := o
 unfold rZ at hs
 dsimp only at hs
 split at hs
 ·split at hs
  ·split at hs
   ·injection hs with hs; subst hs
    exact uW h ‹_› ‹_› (vn hft h ‹_›) k
   ·cases hs
  ·cases hs
 ·split at hs
  ·split at hs
   ·injection hs with hs; subst hs
    exact ES h ‹_› ‹_› k
   ·cases hs
  ·cases hs
theorem cx (hft : ∀ t i k, ft t i = some k → ek P t i = some k) : ∀ (k : Nat) (p : Pt) (s : List It) (f : Nat → Option Value) (a : Act), Fr a n f → eO ft n k p s f = some (p', s', f') → (∀ a', Fr a' n f' → Pt.wp P Q p' s' a' w) → Pt.wp P Q p s a w
 | 0, p, s, f, a, h, hr, kk => by
  simp only [eO, Option.some.injEq, Prod.mk.injEq] at hr
  obtain ⟨rfl, rfl, rfl⟩ := hr
  exact kk a h
 | k + 1, .code c, s, f, a, h, hr, kk => by
  unfold eO at hr
  split at hr
  ·exact wp_seq (cx hft k _ (.seq _ :: s) f a h hr kk)
  ·exact wp_block (cx hft k _ (.blk _ :: s) f a h hr kk)
  ·exact wp_skip (cx hft k _ s f a h hr kk)
  ·exact wp_ret (cx hft k _ s f a h hr kk)
  ·exact wp_exit (cx hft k _ s f a h hr kk)
  ·split at hr
   ·exact qJ h ‹_› (cx hft k _ s f a h hr kk)
   ·exact ra h ‹_› (cx hft k _ s f a h hr kk)
   ·cases hr
  ·exact wp_region_lit (cx hft k _ s f a h hr kk)
  ·cases hr
 | k + 1, .ops all rest, s, f, a, h, hr, kk => by
  unfold eO at hr
  split at hr
  ·have ih := cx hft k _ _ f a h hr kk
   exact (yW ih : wpList P all (stk P Q s) [] a w)
  ·split at hr
   ·exact Av hft h ‹_› (fun a' h' => cx hft k _ s _ a' h' hr kk)
   ·cases hr
 | k + 1, .ex e, s, f, a, h, hr, kk => by
  unfold eO at hr
  split at hr
  ·cases hr
  ·split at hr
   ·have ih := cx hft k _ _ f a h hr kk
    exact ih
   ·have ih := cx hft k _ _ f a h hr kk
    exact ih
   ·have ih := cx hft k _ _ f a h hr kk
    exact ih
   ·cases hr
  ·split at hr
   ·have ih := cx hft k _ _ f a h hr kk
    exact ih
   ·split at hr
    ·rename_i hb
     have := Nat.eq_of_beq_eq_true hb
     subst this
     have := cx hft k _ _ f a h hr kk
     simp only [Pt.wp, stk, Exit.inBlock, if_true] at this ⊢
     exact this
    ·rename_i hb
     have hne := Nat.ne_of_beq_eq_false hb
     have := cx hft k _ _ f a h hr kk
     simp only [Pt.wp, stk, Exit.inBlock, if_neg hne] at this ⊢
     exact this
   ·have ih := cx hft k _ _ f a h hr kk
    exact ih
   ·cases hr
end
def ftL : List (Nat × Nat × Nat) := [(34, 3, 3), (34, 2, 2), (34, 1, 1), (34, 0, 0), (37, 2, 2), (37, 1, 1), (51, 0, 0), (51, 1, 1), (37, 0, 0), (51, 3, 3), (70, 0, 0), (68, 1, 1), (84, 1, 1), (106, 2, 2), (106, 0, 0), (70, 1, 2), (68, 0, 0), (51, 2, 2), (51, 4, 4), (84, 0, 0), (106, 1, 1), (106, 3, 3)]
def ftG : List (Nat × Nat × Nat) → Nat → Nat → Option Nat
 | [], _, _ => none
 |(t, i, k) :: r, t', i' => match Nat.beq t t' with
  |true => match Nat.beq i i' with
   | true => some k
   | false => ftG r t' i'
  | false => ftG r t' i'
def ftT : Nat → Nat → Option Nat := ftG ftL
def ftB (P : Program) : List (Nat × Nat × Nat) → Bool
 | [] => true
 | (t, i, k) :: r => (ek P t i == some k) && ftB P r
theorem ux {P : Program} : ∀ (l : List (Nat × Nat × Nat)), ftB P l = true → ∀ t i k, ftG l t i = some k → ek P t i = some k
 | [], _, _, _, _, h => by cases h
 | (t0, i0, k0) :: r, hb, t, i, k, h => by
  simp only [ftB, Bool.and_eq_true, beq_iff_eq] at hb
  simp only [ftG] at h
  split at h
  ·rename_i e1
   split at h
   ·rename_i e2
    have := Nat.eq_of_beq_eq_true e1
    have := Nat.eq_of_beq_eq_true e2
    subst_vars
    rw [hb.1]; exact h
   ·exact ux r hb.2 t i k h
  ·exact ux r hb.2 t i k h
theorem Ab : ∀ t i k, ftT t i = some k → ek Tryz.prog t i = some k := ux ftL (by kernel_rfl)
section
variable {P : Program} {Q : Exit → Act → World → Prop} {a : Act} {w w' : World} {n : Nat} {f f' : Nat → Option Value} {p p' : Pt} {s s' : List It} {all : Array Oper} {rest : List Oper} {d : Option Tmp} {op : Op} {ty : TypeId} {ps : String} {af : Array Edge} {g : Option (Nat × Bool)} {v : Value}
theorem rR (k : Nat) (h : Fr a n f) (hr : eO ftT n k p s f = some (p', s', f')) (kk : ∀ a', Fr a' n f' → Pt.wp Tryz.prog Q p' s' a' w) : Pt.wp Tryz.prog Q p s a w := cx Ab k p s f a h hr kk
theorem rV (h : Fr a n f) (hw : (ds f all g && dl d n) = true) (he : Runs P a ty op w (.value v) w') (k : ∀ a', Fr a' n (upo f d v) → Pt.wp P Q (.ops all rest) s a' w') : Pt.wp P Q (.ops all (⟨d, op, ty, ps, af, g⟩ :: rest)) s a w := uW h (Bool.and_eq_true_iff.1 hw).1 (Bool.and_eq_true_iff.1 hw).2 he k
theorem rS (h : Fr a n f) (hw : (ds f all g && dl d n) = true) (he : Runs P a ty op w .skip w') (k : ∀ a', Fr a' n (upo f d undef) → Pt.wp P Q (.ops all rest) s a' w') : Pt.wp P Q (.ops all (⟨d, op, ty, ps, af, g⟩ :: rest)) s a w := EX h (Bool.and_eq_true_iff.1 hw).1 (Bool.and_eq_true_iff.1 hw).2 he k
theorem rC {fid : FuncId} {args : List Operand} {tys : Array TypeId} {vs : List Value} {R : Ending → World → Prop} (h : Fr a n f) (hw : (ds f all g && dl d n) = true) (hv : lw f args = some vs) (he : ce P fid = true)
 (hC : Calls P fid vs.toArray w R) (k : ∀ e w', R e w' → ∃ v, e = .returned v ∧ ∀ a', Fr a' n (upo f d v) → Pt.wp P Q (.ops all rest) s a' w') :
 Pt.wp P Q (.ops all (⟨d, .call { callee := .value (.func fid), args := args.toArray, argTypes := tys }, ty, ps, af, g⟩ :: rest)) s a w := Fc h (Bool.and_eq_true_iff.1 hw).1 (Bool.and_eq_true_iff.1 hw).2 hv he hC k
theorem rB {e : Bool} (h : Fr a n f) (hw : (ds f all g && dl d n) = true) (he : ∀ c, e = c → Runs P a ty op w (.value (.bool c)) w)
 (kT : e = true → ∀ a', Fr a' n (upo f d (.bool true)) → Pt.wp P Q (.ops all rest) s a' w) (kF : e = false → ∀ a', Fr a' n (upo f d (.bool false)) → Pt.wp P Q (.ops all rest) s a' w) : Pt.wp P Q (.ops all (⟨d, op, ty, ps, af, g⟩ :: rest)) s a w := Fl h (Bool.and_eq_true_iff.1 hw).1 (Bool.and_eq_true_iff.1 hw).2 he kT kF
theorem rL {c : Code} (I : Nat → Act → World → Prop) (n₀ : Nat) (h₀ : I n₀ a w) (round : ∀ n a w, I n a w → Pt.wp P (Exit.then (fun a' w' => ∃ n', n' < n ∧ I n' a' w') (stk P Q s)) (.code c) [] a w) : Pt.wp P Q (.code (.loop c)) s a w := wp_loop_ghost I n₀ h₀ round
theorem rX {K : Act → World → Prop} (h : K a w) : Pt.wp P (Exit.then K Q) (.ex .normal) [] a w := h
theorem rO {K : Act → World → Prop} {i : Nat} (h : Pt.wp P Q (.ex (.exit i)) s a w) : Pt.wp P (Exit.then K (stk P Q s)) (.ex (.exit i)) [] a w := h
theorem rD {id : Nat} {l : List Oper} (S : World → Prop) (m sz : Nat) (hsz : l.length = sz) (hm : P.follows .mixedOrders = true) (hs : Region.noSelect l.toArray = true)
 (k : ∀ w', Chg [] w w' → Region.noSelect l.toArray = true → wpAnyL P .any l.toArray (NoPanic (stk P Q s)) S m sz (Array.replicate sz false) a w') : Pt.wp P Q (.code (.region id l.toArray true)) s a w := AA S m sz hsz hm hs k
theorem rN {S : World → Prop} {m fuel : Nat} {listed : Array Bool} (hr : Region.ready .any all listed = []) (k : Pt.wp P Q (.ex .normal) s a w) : wpAnyL P .any all (NoPanic (stk P Q s)) S m fuel listed a w := Cx hr k
theorem rE {fid : FuncId} {fn : Func} {c : Code} {args : List Value} {R : Ending → World → Prop} (N : Nat) (hf : P.funcs[fid]? = some fn) (hb : fn.body = some c) (hN : fn.ntmps = N) (hl : Nat.ble args.length N = true)
 (k : ∀ a, Fr a N (fun i => args[i]?) → Pt.wp P (bodyPost P fn R) (.code c) [] a w) : Calls P fid args.toArray w R := AX N hf hb hN hl k
theorem rT {fn : Func} {R : Ending → World → Prop} {rs : List ResultVar} {vs : List Value} (h : Fr a n f) (hr : fn.results = rs.toArray) (hv : lz P f w rs vs) (hR : R (.returned (km vs)) w) : Pt.wp P (bodyPost P fn R) (.ex .ret) [] a w := ret_of h hr hv hR
theorem rF {fn : Func} {R : Ending → World → Prop} {rs : List ResultVar} {vs : List Value} (h : Fr a n f) (hr : fn.results = rs.toArray) (hv : lz P f w rs vs) (hR : R (.returned (km vs)) w) : Pt.wp P (bodyPost P fn R) (.ex .normal) [] a w := DL h hr hv hR
end
def xa (ops : Array Oper) (m : Nat) : List Nat → Array Bool → Bool
 | [], _ => true
 | i :: r, l => (!(Nat.beq i m) && Region.free .any ops l i && (Region.ready .any ops l).contains i) && xa ops m r (l.setIfInBounds i true)
def Ap : List Nat → Array Bool → Array Bool
 | [], l => l
 | i :: r, l => Ap r (l.setIfInBounds i true)
def uM (ft : Nat → Nat → Option Nat) (n : Nat) (ops : Array Oper) : List Nat → (Nat → Option Value) → Option (Nat → Option Value)
 | [], f => some f
 |i :: r, f => match ops[i]? with
  |some o => match rZ ft n ops o f with
   | some f' => uM ft n ops r f'
   | none => none
  | none => none
theorem Bk {l : Array Bool} {i m : Nat} (h : Nat.beq i m = false) (hm : l.getD m false = true) : (l.setIfInBounds i true).getD m false = true := by
 have hne : i ≠ m := Nat.ne_of_beq_eq_false h
 rw [Array.getD_eq_getD_getElem?] at hm ⊢
 rw [Array.getElem?_setIfInBounds, if_neg hne]; exact hm
theorem Bz {P : Program} {Q : Exit → Act → World → Prop} {w : World} {n : Nat} {f' : Nat → Option Value} {ops : Array Oper} {S : World → Prop} {m : Nat} {ft : Nat → Nat → Option Nat} (hft : ∀ t i k, ft t i = some k → ek P t i = some k) (hs : Region.noSelect ops = true) : ∀ (is : List Nat) (fuel : Nat) (listed : Array Bool) (f : Nat → Option Value) (a : Act), xa ops m is listed = true → Fr a n f → uM ft n ops is f = some f' → (S w ∨ listed.getD m false = true) → (∀ a', Fr a' n f' → wpAnyL P .any ops (NoPanic Q) S m fuel (Ap is listed) a' w) → wpAnyL P .any ops (NoPanic Q) S m (fuel + is.length) listed a w
 | [], fuel, listed, f, a, hc, h, hr, hS, k => by
  simp only [uM, Option.some.injEq] at hr
  subst hr; exact k a h
 | i :: r, fuel, listed, f, a, hc, h, hr, hS, k => by
  simp only [xa, Bool.and_eq_true, Bool.not_eq_true'] at hc
  obtain ⟨⟨⟨h1, h2⟩, h3⟩, h4⟩ := hc
  unfold uM at hr
  split at hr
  ·rename_i o ho
   obtain ⟨d, op, ty, ps, af, g⟩ := o
   split at hr
   ·rename_i f1 hf1
    have hS' : S w ∨ (listed.setIfInBounds i true).getD m false = true := hS.imp id (Bk h1)
    have go : ∀ a', Fr a' n f1 → wpAnyL P .any ops (NoPanic Q) S m (fuel + r.length) (listed.setIfInBounds i true) a' w := fun a' h' => Bz hft hs r fuel _ f1 a' h4 h' hr hS' k
    show wpAnyL P .any ops (NoPanic Q) S m (fuel + r.length + 1) listed a w
    unfold rZ at hf1
    dsimp only at hf1
    split at hf1
    ·split at hf1
     ·rename_i v hv
      split at hf1
      ·injection hf1 with e; subst e
       exact dl_v i h1 ho hs h2 h3 h ‹_› ‹_› hS (fun w' => vn hft h hv) go
      ·cases hf1
     ·cases hf1
    ·split at hf1
     ·split at hf1
      ·injection hf1 with e; subst e
       exact EN i h1 ho hs h2 h3 h ‹_› ‹_› hS go
      ·cases hf1
     ·cases hf1
   ·cases hr
  ·cases hr
theorem dR {Q : Exit → Act → World → Prop} {a : Act} {w : World} {n fuel c : Nat} {f f' : Nat → Option Value} {ops : Array Oper} {S : World → Prop} {m : Nat} {listed : Array Bool} (is : List Nat) (hs : Region.noSelect ops = true) (hc : xa ops m is listed = true) (h : Fr a n f) (hl : is.length = c) (hr : uM ftT n ops is f = some f') (hS : S w ∨ listed.getD m false = true) (k : ∀ a', Fr a' n f' → wpAnyL Tryz.prog .any ops (NoPanic Q) S m fuel (Ap is listed) a' w) : wpAnyL Tryz.prog .any ops (NoPanic Q) S m (fuel + c) listed a w := by
 subst hl; exact Bz Ab hs is fuel listed f a hc h hr hS k
abbrev zT : List Value := [.int .i64 0, .string ⟨([] : List UInt8).toArray⟩, .slice none 0 0, .slice none 0 0]
theorem Chg.t0 {X : List Nat} {w w1 w2 : World} (h : Chg X w w1) (k : Chg [] w1 w2) : Chg X w w2 := h.trans k ny
theorem Chg.n1 {X : List Nat} {w w1 w2 : World} {c : Nat} (h : Chg X w w1) (k : Chg [c] w1 w2) (g : w.heap.size ≤ c) : Chg X w w2 := h.trans k (allc (.inr g) ny)
section
variable {w w1 : World} {b c : Nat} {t : TypeId} {cs : List Value}
theorem Blk.c0 (h : Blk w b t cs) (hx : Chg [] w w1) : Blk w1 b t cs := h.chg hx nm0
theorem Blk.c1 (h : Blk w b t cs) (hx : Chg [c] w w1) (hn : b ≠ c) : Blk w1 b t cs := h.chg hx (nmc hn nm0)
theorem Blk.d1 (h : Blk w b t cs) (hx : Chg [c] w w1) (hn : c ≠ b) : Blk w1 b t cs := h.chg hx (nmc (Ne.symm hn) nm0)
theorem Blk.same {w0 : World} {t0 : TypeId} {cs0 : List Value} (h : Blk w b t cs) (h0 : Blk w0 b t0 cs0) (i : Nat) (e : cs[i]? = cs0[i]? := by rfl) : w.cell? ⟨b, i, none⟩ = w0.cell? ⟨b, i, none⟩ := (h.cell i).trans (e.trans (h0.cell i).symm)
end
theorem eT (a : Act) (w : World) (ty : TypeId) : ∃ w' b, Runs Tryz.prog a ty (.alloc 34) w (.value (.pointer (some ⟨b, 0, none⟩))) w' ∧ Blk w' b 34 zT ∧ Chg [] w w' ∧ b = w.heap.size ∧ b < w'.heap.size := rh zT (by kernel_rfl) a w ty
section
variable {a : Act} {w : World} {n : Nat} {f : Nat → Option Value} {tb : TypeId} {b o : Nat} {v : Value} {vs cs : List Value}
theorem eN (x y : Operand) (h : Fr a n f) (hx : au f x = some (.pointer (some ⟨b, 0, none⟩))) (hy : au f y = some (.agg vs.toArray)) (hv : vs.length = 4) (hone : vs.all (·.oneCell') = true) (hb : Blk w b tb cs) (hm : cs.length = 4) (ty : TypeId) :
 ∃ w', Runs Tryz.prog a ty (.store 34 x y) w .skip w' ∧ Blk w' b tb vs ∧ Chg [b] w w' := yD (m := 4) h hx hy (by kernel_rfl) hv hone hb hm ty
theorem eS (t : TypeId) (x y : Operand) (h : Fr a n f) (hx : au f x = some (.pointer (some ⟨b, o, none⟩))) (hy : au f y = some v) (hz : df Tryz.prog t = some 1) (h1 : v.oneCell' = true) (hb : Blk w b tb cs) (ho : Nat.ble (o + 1) cs.length = true) (ty : TypeId) :
 ∃ w', Runs Tryz.prog a ty (.store t x y) w .skip w' ∧ Blk w' b tb (cs.set o v) ∧ Chg [b] w w' := Aw h hx hy hz h1 hb (Nat.le_of_ble_eq_true ho) ty
end
theorem dL {Q : Exit → Act → World → Prop} {a : Act} {w : World} {n : Nat} {f : Nat → Option Value} {ops : Array Oper} {d : Option Tmp} {op : Op} {ty : TypeId} {ps : String} {af : Array Edge} {g : Option (Nat × Bool)} {v : Value} {P : Program} {S : World → Prop} {m fuel : Nat} {listed : Array Bool} (i : Nat) (him : Nat.beq i m = false) (hi : ops[i]? = some ⟨d, op, ty, ps, af, g⟩) (hs : Region.noSelect ops = true) (hf : (lU .any ops m i && !listed.getD m false && Region.free .any ops listed i && (Region.ready .any ops listed).contains i) = true)
  (h : Fr a n f) (hw : (ds f ops g && dl d n) = true) (hS : S w) (he : ∀ w', S w' → Runs P a ty op w' (.value v) w')
  (k : ∀ a', Fr a' n (upo f d v) → wpAnyL P .any ops (NoPanic Q) S m fuel (listed.setIfInBounds i true) a' w) : wpAnyL P .any ops (NoPanic Q) S m (fuel + 1) listed a w := by
 simp only [Bool.and_eq_true, Bool.not_eq_true'] at hf
 exact Fb i him hf.1.1.1 hf.1.1.2 hi hs hf.1.2 hf.2 h (Bool.and_eq_true_iff.1 hw).1 (Bool.and_eq_true_iff.1 hw).2 hS he k
end Go.Proofs.YtgpcdfbmbcognaaGreat
namespace Go.Proofs.YtgpcdfbmbcognaaGreat
open Go.RowKit
abbrev wR := @wp_region_lit
abbrev wS := @wp_seq_k
abbrev sN := @yW
abbrev cdT := @qJ
abbrev cdF := @ra
abbrev nlt := @Nat.le_trans
theorem qA {α : Type} [BEq α] [LawfulBEq α] {a b : α} : (a == b) = false ↔ a ≠ b := beq_eq_false_iff_ne
theorem qB {α : Type} [BEq α] [LawfulBEq α] {a b : α} : (a == b) = true ↔ a = b := beq_iff_eq
theorem qC {α : Type} [BEq α] [LawfulBEq α] {a b : α} : (a != b) = true ↔ a ≠ b := bne_iff_ne
theorem qD {α : Type} [BEq α] [LawfulBEq α] {a b : α} : (a != b) = false ↔ a = b := bne_eq_false_iff_eq
theorem qE {p : Prop} [Decidable p] : (decide p = true) ↔ p := decide_eq_true_iff
theorem qF {p : Prop} [Decidable p] : (decide p = false) ↔ ¬ p := decide_eq_false_iff_not
section
variable {P : Program} {ops : Array Oper} {Q : Exit → Act → World → Prop} {a : Act} {w w' : World} {rest : List Oper} {n : Nat} {f : Nat → Option Value} {ty : TypeId} {d : Option Tmp} {op : Op} {ps : String} {af : Array Edge} {g : Option (Nat × Bool)} {v : Value} {x : Operand}
theorem sV (h : Fr a n f) (hw : (ds f ops g && dl d n) = true) (he : Runs P a ty op w (.value v) w') (k : ∀ a', Fr a' n (upo f d v) → wpList P ops Q rest a' w') : wpList P ops Q (⟨d, op, ty, ps, af, g⟩ :: rest) a w := uW h (Bool.and_eq_true_iff.1 hw).1 (Bool.and_eq_true_iff.1 hw).2 he k
theorem sA (h : Fr a n f) (hw : (ds f ops g && dl d n) = true) (hx : au f x = some v) (k : ∀ a', Fr a' n (upo f d v) → wpList P ops Q rest a' w) : wpList P ops Q (⟨d, .assign x, ty, ps, af, g⟩ :: rest) a w := sV h hw (px h hx) k
theorem sM (h : Fr a n f) (hw : (ds f ops g && dl d n) = true) (hx : au f x = some v) (k : ∀ a', Fr a' n (upo f d v) → wpList P ops Q rest a' w) : wpList P ops Q (⟨d, .move x, ty, ps, af, g⟩ :: rest) a w := sV h hw (pV h hx) k
variable {S : World → Prop} {m fuel : Nat} {listed : Array Bool}
theorem dV (i : Nat) (him : Nat.beq i m = false) (hi : ops[i]? = some ⟨d, op, ty, ps, af, g⟩) (hs : Region.noSelect ops = true) (hf : (Region.free .any ops listed i && (Region.ready .any ops listed).contains i) = true)
    (h : Fr a n f) (hw : (ds f ops g && dl d n) = true) (hS : S w ∨ listed.getD m false = true) (he : ∀ w', Runs P a ty op w' (.value v) w')
    (k : ∀ a', Fr a' n (upo f d v) → wpAnyL P .any ops (NoPanic Q) S m fuel (listed.setIfInBounds i true) a' w) : wpAnyL P .any ops (NoPanic Q) S m (fuel + 1) listed a w :=
  dl_v i him hi hs (Bool.and_eq_true_iff.1 hf).1 (Bool.and_eq_true_iff.1 hf).2 h (Bool.and_eq_true_iff.1 hw).1 (Bool.and_eq_true_iff.1 hw).2 hS he k
theorem dM (i : Nat) (him : Nat.beq i m = false) (hi : ops[i]? = some ⟨d, .move x, ty, ps, af, g⟩) (hs : Region.noSelect ops = true) (hf : (Region.free .any ops listed i && (Region.ready .any ops listed).contains i) = true)
    (h : Fr a n f) (hw : (ds f ops g && dl d n) = true) (hS : S w) (hx : au f x = some v)
    (k : ∀ a', Fr a' n (upo f d v) → wpAnyL P .any ops (NoPanic Q) S m fuel (listed.setIfInBounds i true) a' w) : wpAnyL P .any ops (NoPanic Q) S m (fuel + 1) listed a w :=
  dV i him hi hs hf h hw (.inl hS) (fun _ => pV h hx) k
end
end Go.Proofs.YtgpcdfbmbcognaaGreat
namespace Go.Proofs.YtgpcdfbmbcognaaGreat
open Go.RowKit
set_option maxRecDepth 100000
set_option maxHeartbeats 4000000
def qd (k : Int) : Bool := decide (5 ≤ k) && decide (k ≤ 9)
def nZ (k : Int) : Bool := decide (10 ≤ k) && decide (k ≤ 22) && (k != 17)
def sQ (k : Int) : Bool := nZ k && (k != 19) && (k != 20) && (k != 21)
def bC (k n : Int) : Int :=
 if k = 1 then (if n < 0 then -1 else 3)
 else if k = 2 then (if n < 2 then -1 else if 2 < n then 6 + (n - 3) else 6)
 else if k = 16 then (if n < 0 then -1 else if 0 < n then 3 + (n - 1) else 3)
 else if k = 18 then (if n < 1 then -1 else 2 + (n - 1))
 else if k = 3 then (if n = 1 then 3 else -1)
 else if k = 4 ∨ k = 8 ∨ k = 22 then (if n = 1 then 2 else -1)
 else if k = 17 then (if n = 1 then 0 else -1)
 else if k = 19 then (if n = 3 then 3 else -1)
 else if k = 20 then (if n = 2 then 4 else -1)
 else if k = 21 then (if n = 2 then 1 else -1)
 else if k = 5 ∨ k = 6 ∨ k = 7 ∨ k = 9 ∨ k = 10 ∨ k = 11 ∨ k = 12 ∨ k = 13 ∨ k = 14 ∨ k = 15 then (if n = 0 then 1 else -1)
 else -1
theorem wD {P : Program} {f : FuncId} {args : Array Value} {w : World} {b c : Bool} {Q : World → Prop} (h : Calls P f args w fun e w' => e = .returned (.bool b) ∧ Q w') (hb : b = c) : Calls P f args w fun e w' => e = .returned (.bool c) ∧ Q w' := hb ▸ h
end Go.Proofs.YtgpcdfbmbcognaaGreat
namespace Go.Proofs.YtgpcdfbmbcognaaGreat
open Go.RowKit Lx Sx
def tP (S : Nat → Prop) (w : World) (v : Value) (l : List TokZ) : Prop := ∃ A c, v = .slice A l.length c ∧ l.length ≤ c ∧ c ≤ maxLen ∧ RowIn S w 3 A l.length (bj l)
theorem TreeIs.t0 {S : Nat → Prop} {w w' : World} {t : Tree} {c : List Value} (h : TreeIs S w t c) (hx : Chg [] w w') : TreeIs S w' t c := h.keep (fun _ h => h) (fun b _ hlt => hx.block b hlt nm0)
theorem KidsAre.t0 {S : Nat → Prop} {w w' : World} {t : List Tree} {c : List Value} (h : KidsAre S w t c) (hx : Chg [] w w') : KidsAre S w' t c := h.keep (fun _ h => h) (fun b _ hlt => hx.block b hlt nm0)
theorem tP.keep {S S' : Nat → Prop} {w w' : World} {v : Value} {l : List TokZ} (h : tP S w v l) (hS : ∀ b, S b → S' b) (hk : ∀ b, S b → b < w.heap.size → w'.heap[b]? = w.heap[b]?) : tP S' w' v l := by
 obtain ⟨A, c, e, h1, h2, h3⟩ := h
 exact ⟨A, c, e, h1, h2, h3.keep hS hk⟩
def zI : List TokZ → Nat
 | [] => 0
 | t :: r => t.lead.length + t.text.length + zI r
def BW : List TokZ → Nat
 | [] => 0
 | t :: r => t.text.length + zI r
def EQ (s : PS) : Prop := s.off + BW s.toks ≤ 1099511627776 ∧ s.size ≤ 1099511627776 ∧ s.failed ≤ 1000 ∧ s.toks.length ≤ 1000000
def PAt (H : Nat) (w : World) (p : Nat) (s : PS) : Prop :=
 H ≤ p ∧ EQ s ∧ ∃ v, Blk w p 51 [v, .int .i64 (s.off : Nat), .int .i64 (s.size : Nat), .int .i64 (s.failed : Nat), .int .i64 (s.place : Nat)] ∧ tP (fun b => b < H) w v s.toks
section
variable {H p : Nat} {w w' : World} {s : PS} {X : List Nat}
theorem PAt.lt (h : PAt H w p s) : p < w.heap.size := by obtain ⟨_, _, _, hB, _⟩ := h; exact hB.lt
theorem PAt.le (h : PAt H w p s) : H ≤ p := h.1
theorem PAt.chg (h : PAt H w p s) (hx : Chg X w w') (hX : ∀ b, b ∈ X → H ≤ b ∧ p ≠ b) : PAt H w' p s := by
 obtain ⟨h1, h2, v, hB, hT⟩ := h
 refine ⟨h1, h2, v, hB.chg hx (fun hp => (hX p hp).2 rfl), hT.keep (fun _ h => h) (fun b hb hlt => hx.block b hlt (fun hc => ?_))⟩
 have := (hX b hc).1
 omega
theorem PAt.t0 (h : PAt H w p s) (hx : Chg [] w w') : PAt H w' p s := h.chg hx ny
theorem PAt.n1 {c : Nat} (h : PAt H w p s) (hx : Chg [c] w w') (h1 : H ≤ c) (h2 : p ≠ c) : PAt H w' p s := h.chg hx (allc ⟨h1, h2⟩ ny)
end
section
variable {toks r : List TokZ} {t u : TokZ} {off size failed place e pl : Nat}
end
end Go.Proofs.YtgpcdfbmbcognaaGreat
namespace Go.Proofs.YtgpcdfbmbcognaaGreat
open Go.RowKit Lx Sx
set_option maxRecDepth 100000
section
variable {S S' : Nat → Prop} {w w' : World} {X : List Nat}
theorem TreeIs.chg {t : Tree} {c : List Value} (h : TreeIs S w t c) (hx : Chg X w w') (hX : ∀ b, S b → b < w.heap.size → b ∉ X) : TreeIs S w' t c := h.keepB (fun _ h _ => h) (fun b hb hlt => hx.block b hlt (hX b hb hlt))
theorem TreeIs.mono {t : Tree} {c : List Value} (h : TreeIs S w t c) (hS : ∀ b, S b → S' b) : TreeIs S' w t c := h.keepB (fun b hb _ => hS b hb) (fun _ _ _ => rfl)
theorem KidsAre.chg {t : List Tree} {c : List Value} (h : KidsAre S w t c) (hx : Chg X w w') (hX : ∀ b, S b → b < w.heap.size → b ∉ X) : KidsAre S w' t c := h.keepB (fun _ h _ => h) (fun b hb hlt => hx.block b hlt (hX b hb hlt))
theorem KidsAre.mono {t : List Tree} {c : List Value} (h : KidsAre S w t c) (hS : ∀ b, S b → S' b) : KidsAre S' w t c := h.keepB (fun b hb _ => hS b hb) (fun _ _ _ => rfl)
end
end Go.Proofs.YtgpcdfbmbcognaaGreat
namespace Go.Proofs.YtgpcdfbmbcognaaGreat
open Go.RowKit Lx Sx
set_option maxRecDepth 100000
set_option maxHeartbeats 4000000
section
variable {n m : Nat} {ks : List Tree} {s : PS}
variable (h : ¬ s.toks = [])
include h
variable (h0 : (bA s).text = xP ∨ (bA s).text = xe)
include h0
end
def py (w0 : World) (b2 bt lg : Nat) (kv : Value) (ks : List Tree) (w : World) : Prop :=
 (kv = .slice none 0 0 ∧ ks = []) ∨ ∃ kg kcap cc, kv = .slice (some ⟨kg, 0, none⟩) ks.length kcap ∧ w.ownsRow w0.heap.size 34 4 (.slice (some ⟨kg, 0, none⟩) ks.length kcap) ks.length cc ∧
  KidsAre (fun b => w0.heap.size ≤ b ∧ b ≠ b2 ∧ b ≠ bt ∧ b ≠ lg ∧ b ≠ kg) w ks cc ∧ b2 ≠ kg ∧ bt ≠ kg ∧ lg ≠ kg
theorem py.chg {w0 w w' : World} {b2 bt lg p : Nat} {kv : Value} {ks : List Tree} (h : py w0 b2 bt lg kv ks w) {X : List Nat} (hx : Chg X w w') (hp : ∀ b, b ∈ X → b < w0.heap.size ∨ b = b2 ∨ b = bt ∨ b = lg) : py w0 b2 bt lg kv ks w' := by
 rcases h with h | ⟨kg, kcap, cc, h1, h2, h3, h4, h5, h6⟩
 ·exact .inl h
 ·refine .inr ⟨kg, kcap, cc, h1, AV h2 hx (fun hc => ?_), h3.chg hx (fun b hb _ hc => ?_), h4, h5, h6⟩
  ·have := hp kg hc; have := BP h2; omega
  ·have := hp b hc; omega
theorem py.one {w0 w : World} {b2 bt lg : Nat} {kv : Value} {ks : List Tree} (h : py w0 b2 bt lg kv ks w) : kv.oneCell' = true := by
 rcases h with ⟨rfl, _⟩ | ⟨kg, kcap, cc, rfl, _⟩ <;> rfl
end Go.Proofs.YtgpcdfbmbcognaaGreat
namespace Go.Proofs.YtgpcdfbmbcognaaGreat
open Go.RowKit Lx Sx
set_option maxRecDepth 100000
set_option maxHeartbeats 4000000
mutual
def tsize : Tree → Nat
 | .node _ _ _ ks => tsizes ks + 1
def tsizes : List Tree → Nat
 | [] => 0
 | t :: r => tsize t + tsizes r
end
end Go.Proofs.YtgpcdfbmbcognaaGreat
namespace Go.Proofs.YtgpcdfbmbcognaaGreat
open Go.RowKit Lx
set_option maxRecDepth 100000
set_option maxHeartbeats 2000000 in
theorem zH (a b : List UInt8) (w : World) (ha : a.length ≤ 140737488355328) (hb : b.length ≤ 140737488355328) : Calls Tryz.prog 88 #[.string ⟨a.toArray⟩, .string ⟨b.toArray⟩] w fun e w' => e = .returned (.bool (fusesT a b)) ∧ Ext w w' := by
 have hx := uC
 obtain ⟨ka, hka⟩ : ∃ k, ar a = k := ⟨_, rfl⟩
 obtain ⟨kb, hkb⟩ : ∃ k, ar b = k := ⟨_, rfl⟩
 have HKa := Lib.hid hka
 have HKb := Lib.hid hkb
 clear hka hkb
 go_enter Tryz.func88, Tryz.ntmps88
 go_wp2_with fail
 refine (uf _ _ (by omega)).mono ?_
 rintro e1 w1 ⟨rfl, rfl⟩
 rw [HKa.out]
 by_cases h1 : ka = 0
 ·subst h1
  go_wp2_with fail
  go_ret
  exact ⟨aO (nh (.inl HKa.out)).symm, Ext.refl _⟩
 have h1b : ((ka : Int) == 0) = false := by simp; omega
 go_wp2_with fail
 refine (uf _ _ (by omega)).mono ?_
 rintro e2 w2 ⟨rfl, rfl⟩
 rw [HKb.out]
 by_cases h2 : kb = 0
 ·subst h2
  go_wp2_with fail
  go_ret
  exact ⟨aO (nh (.inr HKb.out)).symm, Ext.refl _⟩
 have h2b : ((kb : Int) == 0) = false := by simp; omega
 have HN := Lib.hid (show ¬ (ar a = 0 ∨ ar b = 0) from by rw [HKa.out, HKb.out]; omega)
 obtain ⟨Rs, hRs⟩ : ∃ Rs, scan (a ++ b) = Rs := ⟨_, rfl⟩
 have HRs := Lib.hid hRs
 clear hRs
 go_wp2_with fail
 refine (En _ _ (by simp; omega)).mono ?_
 rintro e3 w3 ⟨v, rfl, htr, hx3⟩
 rw [HRs.out] at htr ⊢
 obtain ⟨A, c, rfl, hc1, hc2, hrow⟩ := htr
 unfold maxLen at hc2
 have HX3 := Lib.hid (hx3); clear hx3
 have HRow := Lib.hid hrow; clear hrow
 obtain ⟨toks, tail, place, er⟩ := Rs
 simp only at HRow hc1 hc2 ⊢
 by_cases h3 : er = 0
 rotate_left
 ·have h3b : ((er : Int) != 0) = true := by simp; omega
  have HF := Lib.hid (gf HN.out (fun h => h3 (by rw [HRs.out] at h; exact h.1)))
  go_wp2_with fail
  go_ret
  exact ⟨aO HF.out.symm, HX3.out⟩
 subst h3
 by_cases h4 : toks.length = 2
 rotate_left
 ·have h4b : ((toks.length : Int) != 2) = true := by simp; omega
  have HF := Lib.hid (gf HN.out (fun h => h4 (by rw [HRs.out] at h; exact h.2.1)))
  go_wp2_with fail
  go_ret
  exact ⟨aO HF.out.symm, HX3.out⟩
 by_cases h5 : tail = []
 rotate_left
 ·have h5b : (tail == []) = false := by simpa using h5
  have h5c : tail.isEmpty = false := by simpa using h5
  obtain ⟨t0, t1, rfl⟩ := oG h4
  have HF := Lib.hid (gf HN.out (fun h => h5 (by rw [HRs.out] at h; exact h.2.2)))
  clear h5 h4
  go_wp2_with fail
  go_ret
  exact ⟨aO HF.out.symm, HX3.out⟩
 subst h5
 obtain ⟨t0, t1, rfl⟩ := oG h4
 clear h4
 obtain ⟨b0, off, rfl, hb0, p0, p1, p2⟩ := mV HRow.out (k := 0) (by simp)
 obtain ⟨b0', off', heq, _, q0, q1, q2⟩ := mV HRow.out (k := 1) (by simp)
 obtain ⟨rfl, rfl⟩ : b0 = b0' ∧ off = off' := by simpa using heq
 clear heq
 have HF := Lib.hid (rx HN.out (by rw [HRs.out]) (by rw [HRs.out]) (by rw [HRs.out]))
 simp only [Nat.zero_mul, Nat.one_mul, Nat.add_zero, List.getElem_cons_zero, List.getElem_cons_succ] at p0 p1 p2 q0 q1 q2
 cases g0 : (t0.lead == [])
 ·skip
  have g0' : t0.lead.isEmpty = false := by simpa using g0
  go_wp2_with fail
  go_ret
  exact ⟨aO (by rw [HF.out, g0]; rfl), HX3.out⟩
 have g0' : t0.lead.isEmpty = true := by simpa using g0
 cases g1 : (t0.text == a)
 ·skip
  go_wp2_with fail
  go_ret
  exact ⟨aO (by rw [HF.out, g0, g1]; rfl), HX3.out⟩
 cases g2 : (t1.lead == [])
 ·skip
  have g2' : t1.lead.isEmpty = false := by simpa using g2
  go_wp2_with fail
  go_ret
  exact ⟨aO (by rw [HF.out, g0, g1, g2]; rfl), HX3.out⟩
 have g2' : t1.lead.isEmpty = true := by simpa using g2
 cases g3 : (t1.text == b)
 all_goals
  go_wp2_with fail
  go_ret
  exact ⟨aO (by rw [HF.out, g0, g1, g2, g3]; rfl), HX3.out⟩
end Go.Proofs.YtgpcdfbmbcognaaGreat
namespace Go.Proofs.YtgpcdfbmbcognaaGreat
open Go.RowKit Lx Sx
set_option maxRecDepth 100000
set_option maxHeartbeats 4000000
def sy (k : Int) (s : List UInt8) : Bool :=
 if k = 1 ∨ k = 3 then ar s == 2
 else if k = 2 ∨ k = 4 ∨ k = 12 ∨ k = 20 then ar s == 1
 else if k = 9 then ar s == 2 || ar s == 4
 else if k = 16 then ar s == 1 || ar s == 3
 else if k = 10 then ar s == 5
 else if k = 11 then ar s == 6
 else if k = 21 then xO s
 else s == []
def uS (k : Int) (n i : Nat) (kk : Int) : Bool :=
 if k = 1 then kk == 2 || kk == 3
 else if k = 2 then (if (i : Int) = n - 1 then nZ kk else if (i : Int) = n - 2 then qd kk else kk == 4)
 else if k = 3 ∨ k = 4 ∨ k = 8 then qd kk
 else if k = 16 then kk == 17
 else if k = 21 then sQ kk || (decide ((i : Int) = 0) && kk == 21)
 else nZ kk
theorem tw {P : Program} {f : FuncId} {args : Array Value} {w : World} {v : Ending} (h : Calls P f args w fun e w' => e = v ∧ Ext w w') : Calls P f args w fun e w' => e = v ∧ Chg [] w w' := h.mono fun _ _ ⟨a, b⟩ => ⟨a, Chg.of_ext b []⟩
end Go.Proofs.YtgpcdfbmbcognaaGreat
namespace Go.Proofs.YtgpcdfbmbcognaaGreat
open Go.RowKit Lx Sx
set_option maxRecDepth 100000
set_option maxHeartbeats 4000000
mutual
def shapedT : Tree → Bool
 | .node k s _ ks => decide (0 ≤ bC k ks.length) && sy k s && kidsT k ks.length ks 0
def kidsT (k : Int) (n : Nat) : List Tree → Nat → Bool
 | [], _ => true
 | t :: r, i => uS k n i t.kind && shapedT t && kidsT k n r (i + 1)
end
end Go.Proofs.YtgpcdfbmbcognaaGreat
namespace Go.Proofs.YtgpcdfbmbcognaaGreat
open Go.RowKit Lx Sx
set_option maxRecDepth 100000
set_option maxHeartbeats 4000000
def cu (k : Int) : List (List UInt8) → Nat → Bool
 | [], _ => true
 | l :: r, i => aM false l (k == 1 && (i : Int) == 2) && cu k r (i + 1)
mutual
def leadedT : Tree → Bool
 | .node k _ ls ks => decide ((ls.length : Int) = bC k ks.length) && cu k ls 0 && leadedsT ks
def leadedsT : List Tree → Bool
 | [] => true
 | t :: r => leadedT t && leadedsT r
end
end Go.Proofs.YtgpcdfbmbcognaaGreat
namespace Go.Proofs.YtgpcdfbmbcognaaGreat
open Go.RowKit
set_option maxRecDepth 100000
def BdV (T Bs b : Nat) (p v : Value) (tl : List Value) (l : List UInt8) (w : World) : Prop :=
 Bs ≤ b ∧ w.heap[b]? = some (.cells (p :: v :: tl).toArray T (0, 0)) ∧ w.ownsRow Bs 5 1 v l.length (Lib.byteCells l)
def Bd (T Bs b : Nat) (tl : List Value) (l : List UInt8) (w : World) : Prop :=
 ∃ p v, (p = .pointer none ∨ p = .pointer (some ⟨b, 0, none⟩)) ∧ BdV T Bs b p v tl l w
def FrB (b : Nat) (w w' : World) : Prop :=
 w.heap.size ≤ w'.heap.size ∧ ∀ k, k < w.heap.size → k ≠ b → (∀ cs fr, w.heap[k]? ≠ some (.cells cs 5 fr)) → w'.heap[k]? = w.heap[k]?
theorem FrB.refl (b : Nat) (w : World) : FrB b w w := ⟨Nat.le_refl _, fun _ _ _ _ => rfl⟩
theorem FrB.trans {b : Nat} {w w1 w2 : World} (h : FrB b w w1) (k : FrB b w1 w2) : FrB b w w2 :=
 ⟨Nat.le_trans h.1 k.1, fun i hi hb hn => by
  have e := h.2 i hi hb hn
  rw [k.2 i (Nat.lt_of_lt_of_le hi h.1) hb (by rw [e]; exact hn), e]⟩
theorem FrB.keep {b : Nat} {w w' : World} (h : FrB b w w') {k : Nat} {cs : Array Value} {T : TypeId} {fr : Nat × Nat} (hk : w.heap[k]? = some (.cells cs T fr)) (hT : T ≠ 5) (hb : k ≠ b) : w'.heap[k]? = some (.cells cs T fr) := by
 have hlt : k < w.heap.size := by
  rcases Nat.lt_or_ge k w.heap.size with h' | h'
  ·exact h'
  ·simp [Array.getElem?_eq_none h'] at hk
 rw [h.2 k hlt hb (fun cs' fr' e => hT (by rw [hk] at e; simp at e; exact e.2.1)), hk]
theorem wC {w : World} {b : Nat} {o : Obj} (h : w.heap[b]? = some o) : b < w.heap.size := by
 rcases Nat.lt_or_ge b w.heap.size with h' | h'
 ·exact h'
 ·simp [Array.getElem?_eq_none h'] at h
theorem yY : (Tryz.prog.info? 68).map (·.size) = some 2 := by kernel_rfl
theorem AD : (Tryz.prog.info? 5).map (fun i => (i.zero, i.size, i.bytes)) = some (some (.int .u8 0), 1, 1) := by kernel_rfl
theorem yQ : Tryz.prog.cellsOf 5 = 1 := by kernel_rfl
def tL (T : TypeId) (n : Nat) : Prop := T ≠ 5 ∧ liesAt Tryz.prog Tryz.prog.depth T ((n + 2) / Tryz.prog.cellsOf T) 0 68 1 = true
set_option maxHeartbeats 1000000 in
set_option maxRecDepth 100000 in
theorem sG (b : Nat) (w : World) (h0 : w.cell? ⟨b, 0, none⟩ = some (.pointer (some ⟨b, 0, none⟩))) :
  Calls Tryz.prog 101 #[.pointer (some ⟨b, 0, none⟩)] w fun e w' => e = .returned (.tuple #[]) ∧ w = w' := by
 obtain ⟨j, hj, _⟩ := Option.map_eq_some_iff.1 yY
 go_enter Tryz.func101, Tryz.ntmps101
 go_wp2
 rw [Lib.run_neq_ptr_same w _ Tryz.underlying65 hj]
 go_wp2
 go_end0
 exact ⟨rfl, rfl⟩
set_option maxHeartbeats 1000000 in
set_option maxRecDepth 100000 in
theorem si (T n b : Nat) (w : World) (hT : tL T n) (h0 : w.cell? ⟨b, 0, none⟩ = some (.pointer none)) (hsh : w.shape? b = some (T, n + 2)) (hfz : w.frozen? ⟨b, 0, none⟩ = false) :
  Calls Tryz.prog 101 #[.pointer (some ⟨b, 0, none⟩)] w fun e w' => e = .returned (.tuple #[]) ∧ w' = w.setCell ⟨b, 0, none⟩ (.pointer (some ⟨b, 0, none⟩)) := by
 obtain ⟨j, hj, hjs⟩ := Option.map_eq_some_iff.1 yY
 have HT := Lib.hid hT; clear hT
 go_enter Tryz.func101, Tryz.ntmps101
 go_wp2
 rw [Lib.run_to_unsafe w ⟨b, 0, none⟩ Tryz.underlying65 Tryz.underlying109 hj (by rw [hjs]; decide) hsh (Nat.succ_pos _)]
 simp only [Result.andThen]
 rw [Oper.upon_value]
 go_wp2
 rw [run_callFunc_extern Tryz.func111 (by kernel_rfl) (by kernel_rfl) (by kernel_rfl) (e := Extern.AbiNoEscape.same) (by kernel_rfl)]
 rw [Lib.run_noEscape]
 simp only [Result.andThen]
 rw [Oper.upon_value]
 go_wp2
 rw [Lib.run_from_unsafe w ⟨b, 0, none⟩ Tryz.underlying109 Tryz.underlying65 hj hsh HT.out.2]
 simp only [Result.andThen]
 rw [Oper.upon_value]
 go_wp2
 go_end0
 exact ⟨rfl, rfl⟩
theorem yV (T Bs b : Nat) (tl : List Value) (l : List UInt8) (w : World) (hT : tL T tl.length) (h : Bd T Bs b tl l w) :
  Calls Tryz.prog 101 #[.pointer (some ⟨b, 0, none⟩)] w fun e w' => e = .returned (.tuple #[]) ∧ ((∃ v, BdV T Bs b (.pointer (some ⟨b, 0, none⟩)) v tl l w') ∧ FrB b w w' ∧ Below Bs w w') := by
 obtain ⟨p, v, hp, hB, hbk, hown⟩ := h
 have hc0 : w.cell? ⟨b, 0, none⟩ = some p := by rw [Lib.cell_of_heap hbk]; rfl
 have hne : v.ownBlock ≠ some b := Lib.ownBlock_ne hown hbk hT.1
 rcases hp with rfl | rfl
 ·refine (si T tl.length b w hT hc0 (by simp [World.shape?, hbk]) (Lib.frozen_of_heap hbk 0)).mono ?_
  rintro e w' ⟨rfl, rfl⟩
  refine ⟨rfl, ⟨v, hB, ?_, ?_⟩, ⟨by simp [World.setCell], fun k _ hk _ => Below.heap_setCell _ _ _ _ hk⟩, (Below.refl Bs w).setCell (p := ⟨b, 0, none⟩) hB _⟩
  ·simp [World.setCell, Array.getElem?_modify, hbk]
  ·exact hown.kept (row := some b) ⟨rfl, rfl, rfl, by simp [World.setCell], fun k _ hk => Below.heap_setCell _ _ _ _ (fun e => hk (by simp [e]))⟩ (Or.inr hne)
 ·refine (sG b w hc0).mono ?_
  rintro e w' ⟨rfl, rfl⟩
  exact ⟨rfl, ⟨v, hB, hbk, hown⟩, FrB.refl _ _, Below.refl _ _⟩
set_option maxHeartbeats 2000000 in
set_option maxRecDepth 100000 in
theorem vQ (T Bs b : Nat) (tl : List Value) (l s : List UInt8) (w : World) (hT : tL T tl.length) (h : Bd T Bs b tl l w) (hlen : l.length + s.length ≤ 140737488355328) (hBw : Bs ≤ w.heap.size) :
  Calls Tryz.prog 87 #[.pointer (some ⟨b, 0, none⟩), .string ⟨s.toArray⟩] w fun e w' => e = .returned (.tuple #[.int .i64 s.length, .nilIface]) ∧ (Bd T Bs b tl (l ++ s) w' ∧ FrB b w w' ∧ Below Bs w w') := by
 obtain ⟨i0, hi, hz0, hz1, hz2⟩ := np AD
 have HT := Lib.hid hT; clear hT
 go_enter Tryz.func87, Tryz.ntmps87
 go_wp2_with (go_at_call 101; refine (yV T Bs b tl l _ HT.out h).mono ?_)
 rintro e w1 ⟨rfl, ⟨v, hB, hbk, hown⟩, hfr, hb1⟩
 have hne : v.ownBlock ≠ some b := Lib.ownBlock_ne hown hbk HT.out.1
 have HBk := Lib.hid hbk
 have HFr := Lib.hid hfr; clear hfr h
 have c1 : w1.cell? ⟨b, 1, none⟩ = some v := by rw [Lib.cell_of_heap hbk]; rfl
 have hs1 := hb1.size
 have HB1 := Lib.hid hb1; clear hb1 hbk
 go_wp2_with (at_builtin; refine Lib.wpList_append_own_string _ rfl _ _ 66 9 rfl Bs 5 i0 Tryz.underlying66 Tryz.underlying9 hi hz0 hz1 hz2 _ _ _ rfl hown ⟨s.toArray⟩ rfl ?c3 ?c4 ?c5 ?_)
 case c3 => unfold maxLen; simp only [List.size_toArray, ByteArray.size]; omega
 case c4 => simp only [List.size_toArray, ByteArray.size]; omega
 case c5 => omega
 intro v' w2 hown' hgrow _
 have hlt : b < w1.heap.size := wC HBk.out
 have hb2 : w2.heap[b]? = some (.cells (.pointer (some ⟨b, 0, none⟩) :: v :: tl).toArray T (0, 0)) := by
  rw [hgrow.block b hlt (fun e => hne e.symm)]
  exact HBk.out
 have d1 : w2.cell? ⟨b, 1, none⟩ = some v := by rw [Lib.cell_of_heap hb2]; rfl
 have f1 : w2.frozen? ⟨b, 1, none⟩ = false := Lib.frozen_of_heap hb2 1
 have hown2 : w2.ownsRow Bs 5 1 v' (l ++ s).length (Lib.byteCells (l ++ s)) := by
  have e1 : Lib.byteCells (l ++ s) = Lib.byteCells l ++ Lib.strCells ⟨s.toArray⟩ := by simp [Lib.byteCells, Lib.strCells]
  rw [e1, List.length_append]; exact hown'
 obtain ⟨ao, n', cap, hv'⟩ : ∃ ao n' cap, v' = .slice ao n' cap := by
  rcases hown'.2 with ⟨hv, _⟩ | ⟨g, cap, cur, hv, _⟩
  ·exact ⟨_, _, _, hv⟩
  ·exact ⟨_, _, _, hv⟩
 subst hv'
 have hne2 := Lib.ownBlock_ne hown2 hb2 HT.out.1
 have HG := Lib.hid hgrow
 have HO := Lib.hid hown
 have HO2 := Lib.hid hown2
 have HB2 := Lib.hid hb2
 clear hgrow hown hown' hown2 hb2
 go_wp2
 go_ret2
 refine ⟨by simp, ⟨_, .slice ao n' cap, .inr rfl, hB, ?_, ?_⟩, ?_, ?_⟩
 ·simp [World.setCell, Array.getElem?_modify, HB2.out]
 ·exact HO2.out.kept (row := some b) ⟨rfl, rfl, rfl, by simp [World.setCell], fun k _ hk => Below.heap_setCell _ _ _ _ (fun e => hk (by simp [e]))⟩ (Or.inr hne2)
 ·refine HFr.out.trans ⟨by simp [World.setCell]; exact HG.out.size, fun k hk hkb hn => ?_⟩
  rw [Below.heap_setCell _ _ _ _ hkb, HG.out.block k hk (fun e => ?_)]
  rcases HO.out.2 with ⟨hv, _⟩ | ⟨g, cap, cur, hv, _, hg, _⟩
  ·rw [hv] at e; simp [Value.ownBlock] at e
  ·rw [hv] at e
   simp only [Value.ownBlock, Option.some.injEq] at e
   subst e
   exact hn _ _ hg
 ·exact (HB1.out.grown HG.out (by omega) (fun k hk => (HO.out.lt k hk).1)).setCell (p := ⟨b, 1, none⟩) hB _
theorem qm (W : World) (q : Option Addr) : (Builtin.unsafeString_ #[92, 3] 9 #[.pointer q, .int .i64 0]).run Tryz.prog W = .ok (.string .empty) W :=
 Lib.run_unsafeString_none W _ _ _ q
set_option maxHeartbeats 2000000 in
set_option maxRecDepth 100000 in
theorem tE (T Bs b : Nat) (tl : List Value) (l : List UInt8) (w : World) (h : Bd T Bs b tl l w) (hBw : Bs ≤ w.heap.size) :
  Calls Tryz.prog 43 #[.pointer (some ⟨b, 0, none⟩)] w fun e w' => e = .returned (.string ⟨l.toArray⟩) ∧ Below Bs w w' := by
 obtain ⟨p, v, hp, hB, hbk, hown⟩ := h
 have hlt : b < w.heap.size := wC hbk
 clear hp
 by_cases h0 : l = []
 ·subst h0
  have hUS := qm
  rcases hown.2 with ⟨rfl, _⟩ | ⟨g, cap, cur, rfl, hbg, hg, _⟩
  ·have c1 : w.drew.cell? ⟨b, 1, none⟩ = some (.slice none 0 0) := by
    have : w.drew.heap[b]? = some (.cells (p :: .slice none 0 0 :: tl).toArray T (0, 0)) := hbk
    rw [Lib.cell_of_heap this]; rfl
   have hSD : (Builtin.unsafeSliceData_ #[66] 92 #[.slice none 0 0]).run Tryz.prog w.drew = .ok (.pointer none) w.drew := rfl
   clear hbk hown
   go_enter Tryz.func43, Tryz.ntmps43
   go_wp2
   go_region
   all_goals (go_wp2; go_ret; exact ⟨rfl, Below.drew (Below.refl Bs w)⟩)
  ·by_cases hc0 : cap = 0
   ·subst hc0
    have c1 : w.drew.cell? ⟨b, 1, none⟩ = some (.slice (some ⟨g, 0, none⟩) 0 0) := by
     have : w.drew.heap[b]? = some (.cells (p :: .slice (some ⟨g, 0, none⟩) 0 0 :: tl).toArray T (0, 0)) := hbk
     rw [Lib.cell_of_heap this]; rfl
    have hSD : (Builtin.unsafeSliceData_ #[66] 92 #[.slice (some ⟨g, 0, none⟩) 0 0]).run Tryz.prog w.drew = .ok (.pointer (some ⟨w.drew.heap.size, 0, none⟩)) (w.drew.alloc (.view ⟨g, 0, none⟩ 5)) :=
     Lib.run_unsafeSliceData_zero w.drew _ _ 5 Tryz.underlying92 ⟨g, 0, none⟩ 0 (5, cur.size) (by have hg' : w.drew.heap[g]? = some (.cells cur 5 (0, 0)) := hg; simp [World.shape?, hg'])
    have c2 : (w.drew.alloc (.view ⟨g, 0, none⟩ 5)).cell? ⟨b, 1, none⟩ = some (.slice (some ⟨g, 0, none⟩) 0 0) := by
     have : (w.drew.alloc (.view ⟨g, 0, none⟩ 5)).heap[b]? = _ := (Below.heap_alloc w.drew _ b hlt).trans hbk
     rw [Lib.cell_of_heap this]; rfl
    have c3 : (w.alloc (.view ⟨g, 0, none⟩ 5)).drew.cell? ⟨b, 1, none⟩ = some (.slice (some ⟨g, 0, none⟩) 0 0) := c2
    have c0 : w.cell? ⟨b, 1, none⟩ = some (.slice (some ⟨g, 0, none⟩) 0 0) := c1
    clear hbk hown hg
    go_enter Tryz.func43, Tryz.ntmps43
    go_wp2
    go_region
    all_goals (go_wp2; go_ret; exact ⟨rfl, (Below.drew (Below.refl Bs w)).alloc hBw _⟩)
   ·have c1 : w.drew.cell? ⟨b, 1, none⟩ = some (.slice (some ⟨g, 0, none⟩) 0 cap) := by
     have : w.drew.heap[b]? = some (.cells (p :: .slice (some ⟨g, 0, none⟩) 0 cap :: tl).toArray T (0, 0)) := hbk
     rw [Lib.cell_of_heap this]; rfl
    have hSD : (Builtin.unsafeSliceData_ #[66] 92 #[.slice (some ⟨g, 0, none⟩) 0 cap]).run Tryz.prog w.drew = .ok (.pointer (some ⟨g, 0, none⟩)) w.drew :=
     Lib.run_unsafeSliceData_row _ _ _ _ _ _ hc0
    clear hbk hown hg hc0
    go_enter Tryz.func43, Tryz.ntmps43
    go_wp2
    go_region
    all_goals (go_wp2; go_ret; exact ⟨rfl, Below.drew (Below.refl Bs w)⟩)
 ·have hl0 : l.length ≠ 0 := by simpa using h0
  obtain ⟨g, cap, cur, rfl, hbg, hg, hnc, hcm, hcs, htake⟩ : ∃ g cap cur, v = .slice (some ⟨g, 0, none⟩) l.length cap ∧ Bs ≤ g ∧ w.heap[g]? = some (.cells cur 5 (0, 0)) ∧ l.length ≤ cap ∧ cap ≤ maxLen ∧ cur.size = cap * 1 ∧ cur.toList.take (l.length * 1) = Lib.byteCells l := by
   rcases hown.2 with ⟨_, hz⟩ | ⟨g, cap, cur, hv, r⟩
   ·exact absurd hz hl0
   ·exact ⟨g, cap, cur, hv, r⟩
  have c1 : w.drew.cell? ⟨b, 1, none⟩ = some (.slice (some ⟨g, 0, none⟩) l.length cap) := by
   have : w.drew.heap[b]? = some (.cells (p :: .slice (some ⟨g, 0, none⟩) l.length cap :: tl).toArray T (0, 0)) := hbk
   rw [Lib.cell_of_heap this]; rfl
  have hSD : (Builtin.unsafeSliceData_ #[66] 92 #[.slice (some ⟨g, 0, none⟩) l.length cap]).run Tryz.prog w.drew = .ok (.pointer (some ⟨g, 0, none⟩)) w.drew :=
   Lib.run_unsafeSliceData_row _ _ _ _ _ _ (by omega)
  have hUS : (Builtin.unsafeString_ #[92, 3] 9 #[.pointer (some ⟨g, 0, none⟩), .int .i64 l.length]).run Tryz.prog w.drew = .ok (.string ⟨l.toArray⟩) (w.drew.freeze ⟨g, 0, none⟩ l.length) := by
   refine Lib.run_unsafeString_row w.drew 92 3 9 5 Tryz.underlying92 yQ g cur.size (by have hg' : w.drew.heap[g]? = some (.cells cur 5 (0, 0)) := hg; simp [World.shape?, hg']) l h0 (by omega) (by unfold maxLen at hcm; omega) ?_
   intro j x hx
   have := hown.cells (g := g) rfl j (.int .u8 x.toNat) (by simp [Lib.byteCells, hx])
   exact this
  clear hbk hown hg htake hcs
  go_enter Tryz.func43, Tryz.ntmps43
  go_wp2
  go_region
  all_goals (go_wp2; go_ret; exact ⟨rfl, Lib.below_freeze (Below.drew (Below.refl Bs w)) (p := ⟨g, 0, none⟩) hbg _⟩)
end Go.Proofs.YtgpcdfbmbcognaaGreat
namespace Go.Proofs.YtgpcdfbmbcognaaGreat
open Go.RowKit Lx Sx
set_option maxRecDepth 100000
set_option maxHeartbeats 4000000
def iM (w : World) (k : Nat) : Bool := match w.heap[k]? with | some (.cells _ t _) => t == 5 | _ => false
def prX (Bs b : Nat) (w : World) : List Nat := (List.range w.heap.size).filter fun k => decide (Bs ≤ k) && (k == b || iM w k)
structure Prn (Bs b : Nat) (w w' : World) : Prop where
 base : Bs ≤ w.heap.size
 below : Below Bs w w'
 fr : FrB b w w'
theorem wN {w : World} {k : Nat} (h : iM w k = false) (cs : Array Value) (fr : Nat × Nat) : w.heap[k]? ≠ some (.cells cs 5 fr) := by
 intro e; simp [iM, e] at h
theorem yc {w : World} {k : Nat} (h : ∀ cs fr, w.heap[k]? ≠ some (.cells cs 5 fr)) : iM w k = false := by
 unfold iM
 split
 ·rename_i cs t fr e
  rw [beq_eq_false_iff_ne]; rintro rfl; exact h _ _ e
 ·rfl
theorem dY {Bs b : Nat} {w : World} {k : Nat} : k ∈ prX Bs b w ↔ k < w.heap.size ∧ Bs ≤ k ∧ (k = b ∨ iM w k = true) := by
 simp [prX]
theorem Prn.chg {Bs b : Nat} {w w' : World} (h : Prn Bs b w w') : Chg (prX Bs b w) w w' :=
 ⟨h.below.os, h.below.tape, h.below.output, h.below.size, fun k hk hX => by
  rcases Nat.lt_or_ge k Bs with hB | hB
  ·exact h.below.block k hB
  ·have hn : ¬ (k = b ∨ iM w k = true) := fun hc => hX (dY.2 ⟨hk, hB, hc⟩)
   refine h.fr.2 k hk (fun e => hn (.inl e)) (wN ?_)
   cases hb : iM w k
   ·rfl
   ·exact absurd (.inr hb) hn⟩
theorem Prn.refl {Bs b : Nat} {w : World} (h : Bs ≤ w.heap.size) : Prn Bs b w w := ⟨h, Below.refl _ _, FrB.refl _ _⟩
theorem Prn.trans {Bs b : Nat} {w w1 w2 : World} {X : List Nat} (h : Prn Bs b w w1) (k : Chg X w1 w2) (hX : ∀ x, x ∈ X → x ∈ prX Bs b w1 ∨ w.heap.size ≤ x) : Prn Bs b w w2 :=
 ⟨h.base, ⟨k.os.trans h.below.os, k.tape.trans h.below.tape, k.output.trans h.below.output, Nat.le_trans h.below.size k.size, fun i hi => by
  have hlt : i < w.heap.size := Nat.lt_of_lt_of_le hi h.base
  rw [k.block i (Nat.lt_of_lt_of_le hlt h.below.size) (fun hc => ?_), h.below.block i hi]
  rcases hX i hc with h1 | h1
  ·have := (dY.1 h1).2.1; omega
  ·omega⟩, ⟨Nat.le_trans h.fr.1 k.size, fun i hi hb hn => by
  have e := h.fr.2 i hi hb hn
  rw [k.block i (Nat.lt_of_lt_of_le hi h.fr.1) (fun hc => ?_), e]
  rcases hX i hc with h1 | h1
  ·rcases (dY.1 h1).2.2 with h2 | h2
   ·exact hb h2
   ·rw [yc (by rw [e]; exact hn)] at h2; cases h2
  ·omega⟩⟩
theorem Prn.t0 {Bs b : Nat} {w w1 w2 : World} (h : Prn Bs b w w1) (k : Chg [] w1 w2) : Prn Bs b w w2 := h.trans k ny
theorem Prn.n1 {Bs b : Nat} {w w1 w2 : World} {c : Nat} (h : Prn Bs b w w1) (k : Chg [c] w1 w2) (g : w.heap.size ≤ c) : Prn Bs b w w2 := h.trans k (allc (.inr g) ny)
theorem Prn.ge_new {Bs b : Nat} {w w1 : World} {c : Nat} (h : Prn Bs b w w1) (e : c = w1.heap.size) : w.heap.size ≤ c := e ▸ h.below.size
theorem mi {Bs b : Nat} {w : World} {k : Nat} (h : k < Bs) : k ∉ prX Bs b w := fun hc => by have := (dY.1 hc).2.1; omega
theorem aF {Bs b : Nat} {w : World} {k : Nat} {t : TypeId} {cs : List Value} (h : Blk w k t cs) (ht : (t == 5) = false) (hk : k ≠ b) : k ∉ prX Bs b w := fun hc => by
 rcases (dY.1 hc).2.2 with h2 | h2
 ·exact hk h2
 ·unfold Blk at h; rw [iM, h] at h2; simp only [ht] at h2; cases h2
end Go.Proofs.YtgpcdfbmbcognaaGreat
namespace Go.Proofs.YtgpcdfbmbcognaaGreat
open Go.RowKit Lx Sx
set_option maxRecDepth 100000
set_option maxHeartbeats 4000000
theorem Bu : tL 70 1 := ⟨by decide, by kernel_rfl⟩
abbrev Pr (Bs b : Nat) (x l : List UInt8) (w : World) : Prop := Bd 70 Bs b [aQ x] l w
theorem Pr.chg0 {Bs b : Nat} {x l : List UInt8} {w w' : World} (h : Pr Bs b x l w) (hx : Chg [] w w') : Pr Bs b x l w' := by
 obtain ⟨p, v, hp, hB, hbk, hown⟩ := h
 exact ⟨p, v, hp, hB, (show Blk w b _ [p, v, aQ x] from hbk).chg hx nm0, own_chg hown hx (fun _ _ => nm0)⟩
theorem Pr.open_ {Bs b : Nat} {x l : List UInt8} {w : World} (h : Pr Bs b x l w) : ∃ p v, Blk w b 70 [p, v, aQ x] ∧ Bs ≤ b ∧ ∀ y w', Blk w' b 70 [p, v, aQ y] → Chg [b] w w' → Pr Bs b y l w' := by
 obtain ⟨p, v, hp, hB, hbk, hown⟩ := h
 have hne : v.ownBlock ≠ some b := Lib.ownBlock_ne hown hbk Bu.1
 exact ⟨p, v, hbk, hB, fun y w' hb hx => ⟨p, v, hp, hB, hb, own_chg hown hx (fun g hg => nmc (fun e => hne (e ▸ hg)) nm0)⟩⟩
theorem wsL {Bs b : Nat} {x l s : List UInt8} {w : World} (h : Pr Bs b x l w) (hlen : l.length + s.length ≤ 140737488355328) (hBw : Bs ≤ w.heap.size) :
  Calls Tryz.prog 87 [.pointer (some ⟨b, 0, none⟩), aQ s].toArray w fun e w' => e = .returned (.tuple #[.int .i64 s.length, .nilIface]) ∧ Pr Bs b x (l ++ s) w' ∧ Chg (prX Bs b w) w w' ∧ Bs ≤ w'.heap.size :=
 (vQ _ Bs b [aQ x] l s w Bu h hlen hBw).mono fun _ _ ⟨e, h1, h2, h3⟩ => ⟨e, h1, (Prn.mk hBw h3 h2).chg, nlt hBw h3.size⟩
def ca (last lead tok : List UInt8) : List UInt8 := if lead = [] ∧ last ≠ [] ∧ fusesT last tok = true then [32] else lead
theorem cD {Bs b : Nat} {last l lead tok : List UInt8} {w : World} (hP : Pr Bs b last l w) (hl : l.length + lead.length + tok.length + 1 ≤ 1000000000000) (hl2 : last.length ≤ 1000000000000) (hBw : Bs ≤ w.heap.size) :
    Calls Tryz.prog 69 [.pointer (some ⟨b, 0, none⟩), aQ lead, aQ tok].toArray w fun e w' => e = .returned (.tuple #[]) ∧ Pr Bs b tok (l ++ ca last lead tok ++ tok) w' ∧ Prn Bs b w w' := by
  obtain ⟨p, v, hB, hBs, hcl⟩ := hP.open_
  have hE := Prn.refl (b := b) hBw
  refine rE 37 Tryz.func69 rfl rfl rfl ?_
  intro a hf
  refine rR 4 hf rfl fun a hf => rB hf rfl (fun c hc => yC hf rfl rfl hc) ?_ ?_
  clear hf a; intro h7 a hf
  refine rR 4 hf rfl fun a hf => rV hf rfl (an hf rfl (by kernel_rfl) hB rfl) fun a hf => rB hf rfl (fun c hc => zL hf rfl rfl hc) ?_ ?_
  clear hf a; intro h13 a hf
  refine rR 5 hf rfl fun a hf => rV hf rfl (an hf rfl (by kernel_rfl) hB rfl) fun a hf => rR 1 hf rfl fun a hf => ?_
  rcases Bool.eq_false_or_eq_true (fusesT last tok) with hbf | hbf
  refine rC hf rfl rfl (by kernel_rfl) (wD (tw (zH last tok _ (by omega) (by omega))) hbf) ?_
  rintro _ w2 ⟨rfl, hx1⟩
  refine ⟨_, rfl, fun a hf => ?_⟩
  replace hB := hB.c0 hx1
  replace hP := hP.chg0 hx1
  replace hBw := nlt hBw hx1.size
  replace hE := hE.t0 hx1
  refine rR 14 hf rfl fun a hf => rC hf rfl rfl (by kernel_rfl) (wsL (s := [32]) hP (by (try simp only [List.length_append, List.length_cons, List.length_nil]); omega) hBw) ?_
  rintro _ w4 ⟨rfl, hPn, hx3, _⟩
  refine ⟨_, rfl, fun a hf => ?_⟩
  replace hE := hE.trans hx3 (fun _ h => .inl h)
  clear hP hB hBw hcl p v; rename_i hBw; have hP := hPn; clear hPn
  obtain ⟨p, v, hB, _, hcl⟩ := hP.open_
  have hPm : b ∈ prX Bs b w4 := dY.2 ⟨hB.lt, hBs, .inl rfl⟩
  refine rR 8 hf rfl fun a hf => rC hf rfl rfl (by kernel_rfl) (wsL (s := tok) hP (by (try simp only [List.length_append, List.length_cons, List.length_nil]); omega) hBw) ?_
  rintro _ w6 ⟨rfl, hPn, hx5, _⟩
  refine ⟨_, rfl, fun a hf => ?_⟩
  replace hE := hE.trans hx5 (fun _ h => .inl h)
  clear hP hB hBw hcl p v; rename_i hBw; have hP := hPn; clear hPn
  obtain ⟨p, v, hB, _, hcl⟩ := hP.open_
  have hPm : b ∈ prX Bs b w6 := dY.2 ⟨hB.lt, hBs, .inl rfl⟩
  refine rR 7 hf rfl fun a hf => ?_
  obtain ⟨w7, he, hB8, hx9⟩ := eS 9 (.tmp 36) (.tmp 34) hf rfl rfl (by kernel_rfl) rfl hB rfl 0
  refine rS hf rfl he fun a hf => ?_
  replace hE := hE.trans hx9 (allc (.inl hPm) ny)
  clear hB
  refine rR 1 hf rfl fun a hf => ?_
  have eg : ca last lead tok = [32] := by simp at h7 h13 hbf; simp [ca, h7, h13, hbf]
  rw [eg]
  exact rF (rs := []) hf rfl rfl ⟨rfl, hcl _ _ hB8 hx9, hE⟩
  refine rC hf rfl rfl (by kernel_rfl) (wD (tw (zH last tok _ (by omega) (by omega))) hbf) ?_
  rintro _ w10 ⟨rfl, hx1⟩
  refine ⟨_, rfl, fun a hf => ?_⟩
  replace hB := hB.c0 hx1
  replace hP := hP.chg0 hx1
  replace hBw := nlt hBw hx1.size
  replace hE := hE.t0 hx1
  refine rR 12 hf rfl fun a hf => rC hf rfl rfl (by kernel_rfl) (wsL (s := lead) hP (by (try simp only [List.length_append, List.length_cons, List.length_nil]); omega) hBw) ?_
  rintro _ w12 ⟨rfl, hPn, hx11, _⟩
  refine ⟨_, rfl, fun a hf => ?_⟩
  replace hE := hE.trans hx11 (fun _ h => .inl h)
  clear hP hB hBw hcl p v; rename_i hBw; have hP := hPn; clear hPn
  obtain ⟨p, v, hB, _, hcl⟩ := hP.open_
  have hPm : b ∈ prX Bs b w12 := dY.2 ⟨hB.lt, hBs, .inl rfl⟩
  refine rR 8 hf rfl fun a hf => rC hf rfl rfl (by kernel_rfl) (wsL (s := tok) hP (by (try simp only [List.length_append, List.length_cons, List.length_nil]); omega) hBw) ?_
  rintro _ w14 ⟨rfl, hPn, hx13, _⟩
  refine ⟨_, rfl, fun a hf => ?_⟩
  replace hE := hE.trans hx13 (fun _ h => .inl h)
  clear hP hB hBw hcl p v; rename_i hBw; have hP := hPn; clear hPn
  obtain ⟨p, v, hB, _, hcl⟩ := hP.open_
  have hPm : b ∈ prX Bs b w14 := dY.2 ⟨hB.lt, hBs, .inl rfl⟩
  refine rR 7 hf rfl fun a hf => ?_
  obtain ⟨w15, he, hB16, hx17⟩ := eS 9 (.tmp 36) (.tmp 34) hf rfl rfl (by kernel_rfl) rfl hB rfl 0
  refine rS hf rfl he fun a hf => ?_
  replace hE := hE.trans hx17 (allc (.inl hPm) ny)
  clear hB
  refine rR 1 hf rfl fun a hf => ?_
  have eg : ca last lead tok = lead := by simp at h7 h13 hbf; simp [ca, h7, h13, hbf]
  rw [eg]
  exact rF (rs := []) hf rfl rfl ⟨rfl, hcl _ _ hB16 hx17, hE⟩
  clear hf a; intro h13 a hf
  refine rR 20 hf rfl fun a hf => rC hf rfl rfl (by kernel_rfl) (wsL (s := lead) hP (by (try simp only [List.length_append, List.length_cons, List.length_nil]); omega) hBw) ?_
  rintro _ w19 ⟨rfl, hPn, hx18, _⟩
  refine ⟨_, rfl, fun a hf => ?_⟩
  replace hE := hE.trans hx18 (fun _ h => .inl h)
  clear hP hB hBw hcl p v; rename_i hBw; have hP := hPn; clear hPn
  obtain ⟨p, v, hB, _, hcl⟩ := hP.open_
  have hPm : b ∈ prX Bs b w19 := dY.2 ⟨hB.lt, hBs, .inl rfl⟩
  refine rR 8 hf rfl fun a hf => rC hf rfl rfl (by kernel_rfl) (wsL (s := tok) hP (by (try simp only [List.length_append, List.length_cons, List.length_nil]); omega) hBw) ?_
  rintro _ w21 ⟨rfl, hPn, hx20, _⟩
  refine ⟨_, rfl, fun a hf => ?_⟩
  replace hE := hE.trans hx20 (fun _ h => .inl h)
  clear hP hB hBw hcl p v; rename_i hBw; have hP := hPn; clear hPn
  obtain ⟨p, v, hB, _, hcl⟩ := hP.open_
  have hPm : b ∈ prX Bs b w21 := dY.2 ⟨hB.lt, hBs, .inl rfl⟩
  refine rR 7 hf rfl fun a hf => ?_
  obtain ⟨w22, he, hB23, hx24⟩ := eS 9 (.tmp 36) (.tmp 34) hf rfl rfl (by kernel_rfl) rfl hB rfl 0
  refine rS hf rfl he fun a hf => ?_
  replace hE := hE.trans hx24 (allc (.inl hPm) ny)
  clear hB
  refine rR 1 hf rfl fun a hf => ?_
  have eg : ca last lead tok = lead := by simp at h7 h13; simp [ca, h7, h13]
  rw [eg]
  exact rF (rs := []) hf rfl rfl ⟨rfl, hcl _ _ hB23 hx24, hE⟩
  clear hf a; intro h7 a hf
  refine rR 26 hf rfl fun a hf => rC hf rfl rfl (by kernel_rfl) (wsL (s := lead) hP (by (try simp only [List.length_append, List.length_cons, List.length_nil]); omega) hBw) ?_
  rintro _ w26 ⟨rfl, hPn, hx25, _⟩
  refine ⟨_, rfl, fun a hf => ?_⟩
  replace hE := hE.trans hx25 (fun _ h => .inl h)
  clear hP hB hBw hcl p v; rename_i hBw; have hP := hPn; clear hPn
  obtain ⟨p, v, hB, _, hcl⟩ := hP.open_
  have hPm : b ∈ prX Bs b w26 := dY.2 ⟨hB.lt, hBs, .inl rfl⟩
  refine rR 8 hf rfl fun a hf => rC hf rfl rfl (by kernel_rfl) (wsL (s := tok) hP (by (try simp only [List.length_append, List.length_cons, List.length_nil]); omega) hBw) ?_
  rintro _ w28 ⟨rfl, hPn, hx27, _⟩
  refine ⟨_, rfl, fun a hf => ?_⟩
  replace hE := hE.trans hx27 (fun _ h => .inl h)
  clear hP hB hBw hcl p v; rename_i hBw; have hP := hPn; clear hPn
  obtain ⟨p, v, hB, _, hcl⟩ := hP.open_
  have hPm : b ∈ prX Bs b w28 := dY.2 ⟨hB.lt, hBs, .inl rfl⟩
  refine rR 7 hf rfl fun a hf => ?_
  obtain ⟨w29, he, hB30, hx31⟩ := eS 9 (.tmp 36) (.tmp 34) hf rfl rfl (by kernel_rfl) rfl hB rfl 0
  refine rS hf rfl he fun a hf => ?_
  replace hE := hE.trans hx31 (allc (.inl hPm) ny)
  clear hB
  refine rR 1 hf rfl fun a hf => ?_
  have eg : ca last lead tok = lead := by simp at h7; simp [ca, h7]
  rw [eg]
  exact rF (rs := []) hf rfl rfl ⟨rfl, hcl _ _ hB30 hx31, hE⟩
end Go.Proofs.YtgpcdfbmbcognaaGreat
namespace Go.Proofs.YtgpcdfbmbcognaaGreat
open Go.RowKit Lx Sx
set_option maxRecDepth 100000
set_option maxHeartbeats 4000000
def cz (k : Int) (s : List UInt8) : List UInt8 :=
 if k = 5 then [73, 110, 116] else if k = 6 then [84, 101, 120, 116] else if k = 7 then [66, 111, 111, 108] else if k = 13 then [116, 114, 117, 101] else if k = 14 then [102, 97, 108, 115, 101] else if k = 15 then [63] else s
theorem oI {x y : List UInt8} (h : x = y) : (Ending.returned (aQ y)) = .returned (aQ x) := by rw [h]
theorem Ci {k : Int} {tx : List UInt8} {A B : Option Addr} {n1 m1 n2 m2 : Nat} {w : World} : Calls Tryz.prog 71 [.agg #[.int .i64 k, aQ tx, .slice A n1 m1, .slice B n2 m2]].toArray w fun e w' => e = .returned (aQ (cz k tx)) ∧ Chg [] w w' := by
  refine rE 19 Tryz.func71 rfl rfl rfl ?_
  intro a hf
  have hE := Chg.refl [] w
  refine rR 2 hf rfl fun a hf => ?_
  obtain ⟨w1, b2, he, hB3, hx4, eb5, lb6⟩ := cC (P := Tryz.prog) (t := 34) (x := (.tmp 0)) hf rfl rfl w 0
  refine rV hf rfl he fun a hf => ?_
  have ge_b2 := vr hE eb5
  replace hE := hE.t0 hx4
  clear eb5 lb6
  refine rR 7 hf rfl fun a hf => rV hf rfl (an hf rfl (by kernel_rfl) hB3 rfl) fun a hf => rR 5 hf rfl fun a hf => rB hf rfl (fun c hc => cW hf rfl rfl hc) ?_ ?_
  clear hf a; intro h6 a hf
  refine rR 12 hf rfl fun a hf => ?_
  exact rT (rs := [.tmp 2]) hf rfl ⟨_, _, rfl, rfl, rfl⟩ ⟨oI (by simp only [qA, qB, qC, qD, qE, qF, ne_eq, Int.not_lt, Int.not_le, Decidable.not_not] at h6; simp [cz, h6]), hE⟩
  clear hf a; intro h6 a hf
  refine rR 6 hf rfl fun a hf => rB hf rfl (fun c hc => cW hf rfl rfl hc) ?_ ?_
  clear hf a; intro h8 a hf
  refine rR 12 hf rfl fun a hf => ?_
  exact rT (rs := [.tmp 2]) hf rfl ⟨_, _, rfl, rfl, rfl⟩ ⟨oI (by simp only [qA, qB, qC, qD, qE, qF, ne_eq, Int.not_lt, Int.not_le, Decidable.not_not] at h6 h8; simp [cz, h6, h8]), hE⟩
  clear hf a; intro h8 a hf
  refine rR 6 hf rfl fun a hf => rB hf rfl (fun c hc => cW hf rfl rfl hc) ?_ ?_
  clear hf a; intro h10 a hf
  refine rR 12 hf rfl fun a hf => ?_
  exact rT (rs := [.tmp 2]) hf rfl ⟨_, _, rfl, rfl, rfl⟩ ⟨oI (by simp only [qA, qB, qC, qD, qE, qF, ne_eq, Int.not_lt, Int.not_le, Decidable.not_not] at h6 h8 h10; simp [cz, h6, h8, h10]), hE⟩
  clear hf a; intro h10 a hf
  refine rR 6 hf rfl fun a hf => rB hf rfl (fun c hc => cW hf rfl rfl hc) ?_ ?_
  clear hf a; intro h12 a hf
  refine rR 12 hf rfl fun a hf => ?_
  exact rT (rs := [.tmp 2]) hf rfl ⟨_, _, rfl, rfl, rfl⟩ ⟨oI (by simp only [qA, qB, qC, qD, qE, qF, ne_eq, Int.not_lt, Int.not_le, Decidable.not_not] at h6 h8 h10 h12; simp [cz, h6, h8, h10, h12]), hE⟩
  clear hf a; intro h12 a hf
  refine rR 6 hf rfl fun a hf => rB hf rfl (fun c hc => cW hf rfl rfl hc) ?_ ?_
  clear hf a; intro h14 a hf
  refine rR 12 hf rfl fun a hf => ?_
  exact rT (rs := [.tmp 2]) hf rfl ⟨_, _, rfl, rfl, rfl⟩ ⟨oI (by simp only [qA, qB, qC, qD, qE, qF, ne_eq, Int.not_lt, Int.not_le, Decidable.not_not] at h6 h8 h10 h12 h14; simp [cz, h6, h8, h10, h12, h14]), hE⟩
  clear hf a; intro h14 a hf
  refine rR 6 hf rfl fun a hf => rB hf rfl (fun c hc => cW hf rfl rfl hc) ?_ ?_
  clear hf a; intro h16 a hf
  refine rR 12 hf rfl fun a hf => ?_
  exact rT (rs := [.tmp 2]) hf rfl ⟨_, _, rfl, rfl, rfl⟩ ⟨oI (by simp only [qA, qB, qC, qD, qE, qF, ne_eq, Int.not_lt, Int.not_le, Decidable.not_not] at h6 h8 h10 h12 h14 h16; simp [cz, h6, h8, h10, h12, h14, h16]), hE⟩
  clear hf a; intro h16 a hf
  refine rR 10 hf rfl fun a hf => rV hf rfl (an hf rfl (by kernel_rfl) hB3 rfl) fun a hf => rR 4 hf rfl fun a hf => ?_
  exact rT (rs := [.tmp 2]) hf rfl ⟨_, _, rfl, rfl, rfl⟩ ⟨oI (by simp only [qA, qB, qC, qD, qE, qF, ne_eq, Int.not_lt, Int.not_le, Decidable.not_not] at h6 h8 h10 h12 h14 h16; simp [cz, h6, h8, h10, h12, h14, h16]), hE⟩
end Go.Proofs.YtgpcdfbmbcognaaGreat
namespace Go.Proofs.YtgpcdfbmbcognaaGreat
open Go.RowKit Lx Sx
abbrev WS := List UInt8 × List UInt8
def ac (lead tok : List UInt8) (s : WS) : WS := (tok, s.2 ++ ca s.1 lead tok ++ tok)
def aZ (ls : List (List UInt8)) (c : Nat) : List (WS → WS) → Nat → WS → WS
 | [], _, s => s
 | f :: r, i, s => aZ ls c r (i + 1) (f (if 0 < i then ac (ls.getD (c + i - 1) []) [44] s else s))
def tR (k : Int) (x : List UInt8) (ls : List (List UInt8)) (fs : List (WS → WS)) (s : WS) : WS :=
 let L := fun i => ls.getD i []
 let F := fun (i : Nat) => fs.getD i id
 if k = 1 then
  let s := fs.foldl (fun s f => f s) (ac (L 1) x (ac (L 0) [109, 111, 100, 117, 108, 101] s)); (s.1, s.2 ++ L 2)
 else if k = 2 then
  let n := fs.length
  F (n - 1) (ac (L 5) [61] (F (n - 2) (ac (L 4) [58] (ac (L 3) [41] (aZ ls 6 (fs.take (n - 2)) 0 (ac (L 2) [40] (ac (L 1) x (ac (L 0) [100, 101, 102] s))))))))
 else if k = 3 then F 0 (ac (L 2) [61] (ac (L 1) x (ac (L 0) [116, 121, 112, 101] s)))
 else F 0 (ac (L 1) [58] (ac (L 0) x s))
def dH (k : Int) (x : List UInt8) (ls : List (List UInt8)) (fs : List (WS → WS)) (s : WS) : WS :=
 let L := fun i => ls.getD i []
 let F := fun (i : Nat) => fs.getD i id
 if k = 1 ∨ k = 2 ∨ k = 3 ∨ k = 4 then tR k x ls fs s
 else if k = 17 then F 0 s
 else if k = 8 then ac (L 1) [93] (F 0 (ac (L 0) [91] s))
 else if k = 16 then ac (L 2) [41] (aZ ls 3 fs 0 (ac (L 1) [40] (ac (L 0) x s)))
 else if k = 18 then ac (L 1) [93] (aZ ls 2 fs 0 (ac (L 0) [91] s))
 else if k = 19 then F 2 (ac (L 2) [101, 108, 115, 101] (F 1 (ac (L 1) [116, 104, 101, 110] (F 0 (ac (L 0) [105, 102] s)))))
 else if k = 20 then F 1 (ac (L 3) [105, 110] (F 0 (ac (L 2) [61] (ac (L 1) x (ac (L 0) [108, 101, 116] s)))))
 else if k = 21 then F 1 (ac (L 0) x (F 0 s))
 else if k = 22 then ac (L 1) [41] (F 0 (ac (L 0) [40] s))
 else ac (L 0) (cz k x) s
mutual
def treeP : Tree → WS → WS
 | .node k x ls ks => dH k x ls (treesP ks)
def treesP : List Tree → List (WS → WS)
 | [] => []
 | t :: r => treeP t :: treesP r
end
def eD (t : Tree) : List UInt8 := (treeP t ([], [])).2
theorem ej : ∀ ks : List Tree, (treesP ks).length = ks.length
 | [] => rfl
 | t :: r => by simp [treesP, ej r]
theorem pw : ∀ {ks : List Tree} {i : Nat} (h : i < ks.length), (treesP ks).getD i id = treeP ks[i]
 | t :: r, 0, _ => rfl
 | t :: r, i + 1, h => by have := pw (ks := r) (i := i) (by simpa using h); simpa [treesP] using this
end Go.Proofs.YtgpcdfbmbcognaaGreat
namespace Go.Proofs.YtgpcdfbmbcognaaGreat
open Go.RowKit Lx Sx
def Gw (n : Nat) (s s' : WS) : Prop := s'.2.length ≤ s.2.length + n ∧ s'.1.length ≤ s.1.length + n
theorem Gw.refl (s : WS) : Gw 0 s s := ⟨Nat.le_refl _, Nat.le_refl _⟩
theorem Gw.le {n m : Nat} {s s' : WS} (h : Gw n s s') (hm : n ≤ m) : Gw m s s' := ⟨by have := h.1; omega, by have := h.2; omega⟩
theorem yS (a b c : List UInt8) : (ca a b c).length ≤ b.length + 1 := by unfold ca; split <;> simp
theorem Gw.put {n : Nat} {s s' : WS} {a b : List UInt8} (h : Gw n s s') : Gw (n + (a.length + 1 + b.length)) s (ac a b s') := by
 have := yS s'.1 a b
 refine ⟨?_, ?_⟩
 ·have := h.1; simp only [ac, List.length_append]; omega
 ·simp only [ac]; omega
theorem Gw.app {n m : Nat} {s s' : WS} {f : WS → WS} (h : Gw n s s') (hf : ∀ s, Gw m s (f s)) : Gw (n + m) s (f s') := by
 have h1 := h.1; have h2 := h.2; have h3 := (hf s').1; have h4 := (hf s').2
 exact ⟨by omega, by omega⟩
theorem pz : ∀ (ls : List (List UInt8)) (i : Nat), (ls.getD i []).length + lsum (ls.drop (i + 1)) ≤ lsum (ls.drop i)
 | [], i => by simp [lsum]
 | l :: r, 0 => by simp [lsum]
 | l :: r, i + 1 => by have := pz r i; simpa using this
theorem iE : ∀ (ls : List (List UInt8)) (i : Nat), lsum (ls.drop i) ≤ lsum ls
 | [], i => by simp [lsum]
 | l :: r, 0 => by simp
 | l :: r, i + 1 => by have := iE r i; simp only [List.drop_succ_cons, lsum]; omega
theorem eQ (ls : List (List UInt8)) (i : Nat) : (ls.getD i []).length ≤ lsum ls := by have := pz ls i; have := iE ls i; omega
theorem qy : ∀ (ks : List Tree) (n : Nat), treesP (ks.take n) = (treesP ks).take n
 | [], n => by simp [treesP]
 | t :: r, 0 => by simp [treesP]
 | t :: r, n + 1 => by simp [treesP, qy r n]
theorem oP : ∀ (ks : List Tree) (n : Nat), kbulk (ks.take n) ≤ kbulk ks
 | [], n => by simp [kbulk]
 | t :: r, 0 => by simp [kbulk]
 | t :: r, n + 1 => by have := oP r n; simp only [List.take_succ_cons, kbulk]; omega
theorem Gw.list {ls : List (List UInt8)} {c : Nat} (hc : 1 ≤ c) : ∀ (ks : List Tree) (i : Nat), (∀ t, t ∈ ks → ∀ s, Gw (100 * tbulk t) s (treeP t s)) → ∀ s, Gw (lsum (ls.drop (c + i - 1)) + 2 * ks.length + 100 * kbulk ks) s (aZ ls c (treesP ks) i s)
 | [], i, _, s => by simp only [treesP, aZ]; exact (Gw.refl s).le (Nat.zero_le _)
 | t :: r, i, h, s => by
  have ht := h t (by simp)
  have hr := Gw.list (ls := ls) hc r (i + 1) (fun u hu => h u (by simp [hu]))
  have e := pz ls (c + i - 1)
  rw [show c + i - 1 + 1 = c + (i + 1) - 1 from by omega] at e
  simp only [treesP, aZ, kbulk, List.length_cons]
  split
  ·refine ((((Gw.refl s).put).app ht).app hr).le ?_
   simp only [List.length_cons, List.length_nil]; omega
  ·exact (((Gw.refl s).app ht).app hr).le (by omega)
theorem Gw.fold : ∀ (ks : List Tree), (∀ t, t ∈ ks → ∀ s, Gw (100 * tbulk t) s (treeP t s)) → ∀ s, Gw (100 * kbulk ks) s ((treesP ks).foldl (fun s f => f s) s)
 | [], _, s => (Gw.refl s)
 | t :: r, h, s => by
  have ht := h t (by simp)
  have hr := Gw.fold r (fun u hu => h u (by simp [hu]))
  simp only [treesP, List.foldl_cons, kbulk]
  exact (((Gw.refl s).app ht).app hr).le (by omega)
def qb (ks : List Tree) (i : Nat) : Nat := if h : i < ks.length then tbulk ks[i] else 0
theorem Gw.kid {ks : List Tree} (h : ∀ t, t ∈ ks → ∀ s, Gw (100 * tbulk t) s (treeP t s)) (i : Nat) (s : WS) : Gw (100 * qb ks i) s ((treesP ks).getD i id s) := by
 by_cases hi : i < ks.length
 ·rw [pw hi, qb, dif_pos hi]; exact h _ (List.getElem_mem hi) s
 ·rw [qb, dif_neg hi, show (treesP ks).getD i id = id from by simp [List.getD_eq_getElem?_getD, List.getElem?_eq_none (show (treesP ks).length ≤ i from by rw [ej]; omega)]]; exact Gw.refl s
theorem kQ : ∀ (ks : List Tree) (i : Nat), kbulk (ks.take i) + qb ks i ≤ kbulk (ks.take (i + 1))
 | [], i => by simp [kbulk, qb]
 | t :: r, 0 => by simp [kbulk, qb]
 | t :: r, i + 1 => by
  have := kQ r i
  simp only [List.take_succ_cons, kbulk]
  have e : qb (t :: r) (i + 1) = qb r i := by simp [qb]
  omega
theorem qb3 (ks : List Tree) : qb ks 0 + qb ks 1 + qb ks 2 ≤ kbulk ks := by
 have a0 : kbulk (ks.take 0) + qb ks 0 ≤ kbulk (ks.take 1) := kQ ks 0
 have a1 : kbulk (ks.take 1) + qb ks 1 ≤ kbulk (ks.take 2) := kQ ks 1
 have a2 : kbulk (ks.take 2) + qb ks 2 ≤ kbulk (ks.take 3) := kQ ks 2
 have a3 := oP ks 3
 omega
theorem Gw.defn {k : Int} {x : List UInt8} {ls : List (List UInt8)} {ks : List Tree} (hs : (ls.length : Int) = bC k ks.length) (h : ∀ t, t ∈ ks → ∀ s, Gw (100 * tbulk t) s (treeP t s)) (s : WS) : Gw (100 * (x.length + lsum ls + kbulk ks + 1)) s (tR k x ls (treesP ks) s) := by
 have L0 := eQ ls 0; have L1 := eQ ls 1; have L2 := eQ ls 2; have L3 := eQ ls 3; have L4 := eQ ls 4; have L5 := eQ ls 5
 have Q0 := qb3 ks
 have LL := gN ls
 unfold tR
 dsimp only
 split
 ·have g := (((Gw.refl s).put (a := ls.getD 0 []) (b := [109, 111, 100, 117, 108, 101])).put (a := ls.getD 1 []) (b := x)).app (Gw.fold ks h)
  have g1 := g.1; have g2 := g.2
  simp only [List.length_cons, List.length_nil] at g1 g2
  exact ⟨by simp only [List.length_append]; omega, by dsimp only; omega⟩
 ·split
  ·rename_i hk
   have hn : 2 ≤ ks.length := by
    subst hk; unfold bC at hs
    rcases Nat.lt_or_ge ks.length 2 with h2 | h2
    ·rw [if_neg (by decide), if_pos rfl, if_pos (by omega)] at hs; omega
    ·exact h2
   have hn2 : ks.length ≤ ls.length := by
    subst hk; unfold bC at hs
    rw [if_neg (by decide), if_pos rfl, if_neg (by omega)] at hs
    split at hs <;> omega
   have hl := Gw.list (ls := ls) (c := 6) (by decide) (ks.take (ks.length - 2)) 0 (fun t ht => h t (List.mem_of_mem_take ht))
   rw [qy] at hl
   have A1 := kQ ks (ks.length - 2); have A2 := kQ ks (ks.length - 1)
   rw [show ks.length - 2 + 1 = ks.length - 1 from by omega] at A1
   rw [show ks.length - 1 + 1 = ks.length from by omega, List.take_length] at A2
   have A3 := iE ls (6 + 0 - 1)
   have A4 := fq ks
   rw [ej]
   refine ((((((((((Gw.refl s).put).put).put).app hl).put).put).app (Gw.kid h _)).put).app (Gw.kid h _)).le ?_
   simp only [List.length_cons, List.length_nil, List.length_take]
   omega
  ·split
   ·refine (((((Gw.refl s).put).put).put).app (Gw.kid h _)).le ?_
    simp only [List.length_cons, List.length_nil]; omega
   ·refine ((((Gw.refl s).put).put).app (Gw.kid h _)).le ?_
    simp only [List.length_cons, List.length_nil]; omega
theorem qz (k : Int) (x : List UInt8) : (cz k x).length ≤ x.length + 5 := by
 unfold cz
 repeat' split
 all_goals simp
theorem Gw.node {k : Int} {x : List UInt8} {ls : List (List UInt8)} {ks : List Tree} (hs : (ls.length : Int) = bC k ks.length) (h : ∀ t, t ∈ ks → ∀ s, Gw (100 * tbulk t) s (treeP t s)) (s : WS) : Gw (100 * (x.length + lsum ls + kbulk ks + 1)) s (dH k x ls (treesP ks) s) := by
 have L0 := eQ ls 0; have L1 := eQ ls 1; have L2 := eQ ls 2; have L3 := eQ ls 3
 have Q0 := qb3 ks
 have LL := gN ls
 have SL := qz k x
 unfold dH
 dsimp only
 split
 ·exact Gw.defn hs h s
 ·split
  ·exact ((Gw.refl s).app (Gw.kid h _)).le (by omega)
  ·split
   ·refine ((((Gw.refl s).put).app (Gw.kid h _)).put).le ?_
    simp only [List.length_cons, List.length_nil]; omega
   ·split
    ·rename_i hk
     have hl := Gw.list (ls := ls) (c := 3) (by decide) ks 0 h
     have A3 := iE ls (3 + 0 - 1)
     have hn2 : ks.length ≤ ls.length := by
      subst hk; unfold bC at hs
      rw [if_neg (by decide), if_neg (by decide), if_pos rfl] at hs
      split at hs
      ·omega
      ·split at hs <;> omega
     refine (((((Gw.refl s).put).put).app hl).put).le ?_
     simp only [List.length_cons, List.length_nil]; omega
    ·split
     ·rename_i hk
      have hl := Gw.list (ls := ls) (c := 2) (by decide) ks 0 h
      have A3 := iE ls (2 + 0 - 1)
      have hn2 : ks.length ≤ ls.length := by
       subst hk; unfold bC at hs
       rw [if_neg (by decide), if_neg (by decide), if_neg (by decide), if_pos rfl] at hs
       split at hs <;> omega
      refine ((((Gw.refl s).put).app hl).put).le ?_
      simp only [List.length_cons, List.length_nil]; omega
     ·split
      ·refine (((((((Gw.refl s).put).app (Gw.kid h _)).put).app (Gw.kid h _)).put).app (Gw.kid h _)).le ?_
       simp only [List.length_cons, List.length_nil]; omega
      ·split
       ·refine (((((((Gw.refl s).put).put).put).app (Gw.kid h _)).put).app (Gw.kid h _)).le ?_
        simp only [List.length_cons, List.length_nil]; omega
       ·split
        ·refine ((((Gw.refl s).app (Gw.kid h _)).put).app (Gw.kid h _)).le ?_
         omega
        ·split
         ·refine ((((Gw.refl s).put).app (Gw.kid h _)).put).le ?_
          simp only [List.length_cons, List.length_nil]; omega
         ·refine ((Gw.refl s).put).le ?_
          omega
theorem pD : ∀ {ks : List Tree} {t : Tree}, leadedsT ks = true → t ∈ ks → leadedT t = true
 | u :: r, t, h, ht => by
  simp only [leadedsT, Bool.and_eq_true] at h
  rcases List.mem_cons.1 ht with e | e
  ·exact e ▸ h.1
  ·exact pD h.2 e
theorem pn : ∀ {ks : List Tree} {t : Tree}, t ∈ ks → tsize t ≤ tsizes ks
 | u :: r, t, ht => by
  simp only [tsizes]
  rcases List.mem_cons.1 ht with e | e
  ·subst e; omega
  ·have := pn e; omega
theorem Gw.tree : ∀ (N : Nat) (t : Tree), tsize t ≤ N → leadedT t = true → ∀ s, Gw (100 * tbulk t) s (treeP t s)
 | 0, t, hN, _, s => by cases t; simp only [tsize] at hN; omega
 | N + 1, .node k x ls ks, hN, hl, s => by
  simp only [leadedT, Bool.and_eq_true, decide_eq_true_eq] at hl
  simp only [tsize] at hN
  simp only [treeP, tbulk]
  exact Gw.node hl.1.1 (fun t ht s => Gw.tree N t (by have := pn ht; omega) (pD hl.2 ht) s) s
end Go.Proofs.YtgpcdfbmbcognaaGreat
namespace Go.Proofs.YtgpcdfbmbcognaaGreat
open Go.RowKit Lx Sx
set_option maxRecDepth 100000
set_option maxHeartbeats 4000000
def cF (N : Nat) : Prop := ∀ (t : Tree) (w : World) (Bs b : Nat) (s : WS) (c0 c1 c2 c3 : Value), tsize t ≤ N → shapedT t = true → leadedT t = true → s.2.length + 100 * tbulk t ≤ 1000000000000 → s.1.length + 100 * tbulk t ≤ 1000000000000 → Pr Bs b s.1 s.2 w → TreeIs (fun b => b < Bs) w t [c0, c1, c2, c3] → Bs ≤ w.heap.size →
 Calls Tryz.prog 42 [.pointer (some ⟨b, 0, none⟩), .agg #[c0, c1, c2, c3]].toArray w fun e w' => e = .returned (.tuple #[]) ∧ Pr Bs b (treeP t s).1 (treeP t s).2 w' ∧ Prn Bs b w w'
theorem sf (ls : List (List UInt8)) (c : Nat) : ∀ (fs : List (WS → WS)) (g : WS → WS) (i : Nat) (s : WS), aZ ls c (fs ++ [g]) i s = g (if 0 < i + fs.length then ac (ls.getD (c + (i + fs.length) - 1) []) [44] (aZ ls c fs i s) else aZ ls c fs i s)
 | [], g, i, s => by simp only [List.nil_append, aZ, List.length_nil, Nat.add_zero]
 | f :: r, g, i, s => by
  simp only [List.cons_append, aZ, List.length_cons]
  rw [sf ls c r g (i + 1), show i + 1 + r.length = i + (r.length + 1) from by omega]
theorem ma : ∀ (a b : List Tree), treesP (a ++ b) = treesP a ++ treesP b
 | [], b => rfl
 | t :: r, b => by simp only [List.cons_append, treesP, ma r b]
theorem Az {ls : List (List UInt8)} {c : Nat} {ks : List Tree} {i : Nat} (s : WS) (h : i < ks.length) : aZ ls c (treesP (ks.take (i + 1))) 0 s = treeP ks[i] (if 0 < i then ac (ls.getD (c + i - 1) []) [44] (aZ ls c (treesP (ks.take i)) 0 s) else aZ ls c (treesP (ks.take i)) 0 s) := by
 rw [List.take_succ_eq_append_getElem h, ma, treesP, treesP, sf, ej, List.length_take, Nat.min_eq_left (Nat.le_of_lt h), Nat.zero_add]
theorem Pr.lt {Bs b : Nat} {x l : List UInt8} {w : World} (h : Pr Bs b x l w) : b < w.heap.size := by
 obtain ⟨p, v, hp, hB, hbk, hown⟩ := h
 exact Blk.lt (show Blk w b _ [p, v, aQ x] from hbk)
theorem Pr.chgN {Bs b : Nat} {x l : List UInt8} {w w' : World} {c : Nat} {t : TypeId} {cs : List Value} (h : Pr Bs b x l w) (hc : Blk w c t cs) (ht : t ≠ 5) (hne : b ≠ c) (hx : Chg [c] w w') : Pr Bs b x l w' := by
 obtain ⟨p, v, hp, hB, hbk, hown⟩ := h
 have hv : v.ownBlock ≠ some c := Lib.ownBlock_ne hown hc ht
 exact ⟨p, v, hp, hB, (show Blk w b _ [p, v, aQ x] from hbk).chg hx (nmc hne nm0), own_chg hown hx (fun g hg => nmc (fun e => hv (e ▸ hg)) nm0)⟩
theorem Prn.now {Bs b : Nat} {w w' : World} (h : Prn Bs b w w') : Bs ≤ w'.heap.size := nlt h.base h.below.size
theorem ax {Bs b : Nat} {w w' : World} {lb lo n : Nat} {ls : List (List UInt8)} {x : List UInt8} {j : Nat} (hL : RowIn (fun b => b < Bs) w 1 (some ⟨lb, lo, none⟩) n (ls.map aQ)) (hE : Prn Bs b w w') (hj : ls[j]? = some x) : w'.cell? ⟨lb, lo + j, none⟩ = some (aQ x) := by
 have hl := hL.1
 simp only [List.length_map, Nat.mul_one] at hl
 have hjl : j < ls.length := by rw [List.getElem?_eq_some_iff] at hj; exact hj.1
 obtain ⟨b', off, e, hS, hlt, hc⟩ := hL.2 (by omega)
 injection e with e
 injection e with e1 e2
 subst e1 e2
 rw [hE.chg.cell hlt (mi hS), hc j (by omega)]
 simp [hj]
theorem dp {Bs b : Nat} {w w' : World} {ks : List Tree} {cs : List Value} {kb ko n : Nat} {t : Tree} {i : Nat} (hK : KidsAre (fun b => b < Bs) w ks cs) (hR : RowIn (fun b => b < Bs) w 4 (some ⟨kb, ko, none⟩) n cs) (hE : Prn Bs b w w') (hi : ks[i]? = some t) :
  ∃ c0 c1 c2 c3, TreeIs (fun b => b < Bs) w' t [c0, c1, c2, c3] ∧ ∀ j, j < 4 → w'.cell? ⟨kb, ko + i * 4 + j, none⟩ = ([c0, c1, c2, c3] : List Value)[j]? := by
 obtain ⟨hil, rfl⟩ := List.getElem?_eq_some_iff.1 hi
 have hcl := hK.length
 have hl := hR.1
 obtain ⟨b', off, e, hS, hlt, hc⟩ := hR.2 (by omega)
 injection e with e
 injection e with e1 e2
 subst e1 e2
 obtain ⟨c0, c1, c2, c3, hT, h0, h1, h2, h3⟩ := hK.at_ hil
 refine ⟨c0, c1, c2, c3, hT.chg hE.chg (fun _ hb _ => mi hb), fun j hj => ?_⟩
 rw [hE.chg.cell hlt (mi hS), Nat.add_assoc, hc _ (by omega)]
 rcases (by omega : j = 0 ∨ j = 1 ∨ j = 2 ∨ j = 3) with rfl | rfl | rfl | rfl
 ·exact h0
 ·exact h1
 ·exact h2
 ·exact h3
theorem bg (a b : List UInt8) (s : WS) : (ac a b s).2.length ≤ s.2.length + (a.length + 1 + b.length) ∧ (ac a b s).1.length ≤ s.1.length + (a.length + 1 + b.length) := by
 have := (Gw.refl s).put (a := a) (b := b); exact ⟨by have := this.1; omega, by have := this.2; omega⟩
theorem sa {ks : List Tree} {i : Nat} (h : i < ks.length) : kbulk (ks.take i) + tbulk ks[i] ≤ kbulk ks := by
 have a := kQ ks i
 have b := oP ks (i + 1)
 rw [qb, dif_pos h] at a
 omega
theorem CP {N : Nat} (ih : cF N) {w : World} {Bs b c : Nat} {s : WS} {ls : List (List UInt8)} {ks : List Tree} {cs : List Value} {k : Int} {x : List UInt8} {A B B2 : Option Addr} {m n n2 m2 : Nat} (h1c : 1 ≤ c) (hc6 : c ≤ 6) (hcl : c + ks.length ≤ ls.length + 1) (hks : ∀ t, t ∈ ks → tsize t ≤ N ∧ shapedT t = true ∧ leadedT t = true) (hl1 : s.2.length + 10 * lsum ls + 100 * kbulk ks + 10 ≤ 1000000000000) (hl2 : s.1.length + 10 * lsum ls + 100 * kbulk ks + 10 ≤ 1000000000000)
    (hP : Pr Bs b s.1 s.2 w) (hL : RowIn (fun b => b < Bs) w 1 A ls.length (ls.map aQ)) (hK : KidsAre (fun b => b < Bs) w ks cs) (hR : RowIn (fun b => b < Bs) w 4 B ks.length cs) (hBw : Bs ≤ w.heap.size) :
    Calls Tryz.prog 70 [.pointer (some ⟨b, 0, none⟩), .agg #[.int .i64 k, aQ x, .slice A ls.length m, .slice B2 n2 m2], .slice B ks.length n, .int .i64 (c : Nat)].toArray w fun e w' => e = .returned (.tuple #[]) ∧ Pr Bs b (aZ ls c (treesP ks) 0 s).1 (aZ ls c (treesP ks) 0 s).2 w' ∧ Prn Bs b w w' := by
  have hgk : ∀ t, t ∈ ks → ∀ s, Gw (100 * tbulk t) s (treeP t s) := fun t ht s => Gw.tree _ t (Nat.le_refl _) (hks t ht).2.2 s
  have hE := Prn.refl (b := b) hBw
  refine rE 33 Tryz.func70 rfl rfl rfl ?_
  intro a hf
  refine rR 2 hf rfl ?_
  clear hf a; intro a hf
  obtain ⟨w1, b2, he, hB3, hx4, eb5, lb6⟩ := cC (P := Tryz.prog) (t := 34) (x := (.tmp 1)) hf rfl rfl w 0
  refine rV hf rfl he ?_
  clear he hf a; intro a hf
  have ge_b2 := Prn.ge_new hE eb5
  have ne_b_b2 : b ≠ b2 := cm hP.lt eb5
  replace hP := hP.chg0 hx4
  replace hE := hE.t0 hx4
  clear eb5 lb6
  refine rR 5 hf rfl ?_
  clear hf a; intro a hf
  refine rV hf rfl (nU hf Tryz.underlying25 rfl) ?_
  clear hf a; intro a hf
  refine rR 4 hf rfl ?_
  clear hf a; intro a hf
  refine rL (fun g a w' => ∃ i, Fr a 33 (fm [(0, .pointer (some ⟨b, 0, none⟩)), (3, .int .i64 (c : Nat)), (5, .pointer (some ⟨b2, 0, none⟩)), (10, .slice B ks.length n), (11, .int .i64 (ks.length : Nat)), (12, .int .i64 (i : Nat))]) ∧ Prn Bs b w w' ∧ Blk w' b2 34 [.int .i64 k, aQ x, .slice A ls.length m, .slice B2 n2 m2] ∧ Pr Bs b (aZ ls c (treesP (ks.take i)) 0 s).1 (aZ ls c (treesP (ks.take i)) 0 s).2 w' ∧ i ≤ ks.length ∧ g = ks.length - i) _ ⟨0, hf.pick ⟨rfl, rfl, rfl, rfl, rfl, rfl, trivial⟩, hE, hB3, by simpa [treesP, aZ] using hP, Nat.zero_le _, rfl⟩ ?_
  obtain ⟨b5, eb5⟩ : ∃ x, b2 = x := ⟨_, rfl⟩
  rw [eb5]
  have ge_b5 : w.heap.size ≤ b5 := eb5 ▸ ge_b2
  have ne_b_b5 : b ≠ b5 := eb5 ▸ ne_b_b2
  clear eb5 hf a hP
  intro g0 a w' hI
  obtain ⟨i, hf, hE, hB5, hP, hi, rfl⟩ := hI
  by_cases hlt : i < ks.length
  obtain ⟨kb, ko, rfl, _, hkb, _⟩ := hR.2 (by omega)
  have hki : ks[i]? = some ks[i] := List.getElem?_eq_getElem hlt
  obtain ⟨d0, d1, d2, d3, hT, hK4⟩ := dp hK hR hE hki
  have on_T := hT.one
  have hmem : ks[i] ∈ ks := List.getElem_mem hlt
  have htt := sa hlt
  have hst := Az (ls := ls) (c := c) s hlt
  have hG := Gw.list (ls := ls) (c := c) h1c (ks.take i) 0 (fun t ht => hgk t (List.mem_of_mem_take ht)) s
  have hG1 := hG.1
  have hG2 := hG.2
  simp only [List.length_take] at hG1 hG2
  have hd0 := iE ls (c + 0 - 1)
  have hmin : min i ks.length = i := Nat.min_eq_left hi
  have hLL := gN ls
  have hKL := fq ks
  refine rR 2 hf rfl ?_
  clear hf a; intro a hf
  refine rV hf rfl (pr (c := true) hf rfl rfl (by simp; omega)) ?_
  clear hf a; intro a hf
  refine rR 11 hf rfl ?_
  clear hf a; intro a hf
  refine rV hf rfl (aB (sz := 4) (k := i) (r := ko + i * 4) hf Tryz.underlying25 (by kernel_rfl) rfl rfl rfl hlt rfl) ?_
  clear hf a; intro a hf
  refine rV hf rfl (ex_loadN (cs := [d0, d1, d2, d3]) (m := 4) hf rfl (by kernel_rfl) rfl hK4) ?_
  clear hf a; intro a hf
  obtain ⟨w7, b8, he, hB9, hx10, eb11, lb12⟩ := eT a w' 0
  refine rV hf rfl he ?_
  clear he hf a; intro a hf
  have ne_b5_b8 : b5 ≠ b8 := cm hB5.lt eb11
  have ge_b8 := Prn.ge_new hE eb11
  have ne_b_b8 : b ≠ b8 := cm hP.lt eb11
  replace hB5 := hB5.c0 hx10
  replace hP := hP.chg0 hx10
  replace hT := hT.t0 hx10
  replace hE := hE.t0 hx10
  clear eb11 lb12
  refine rR 1 hf rfl ?_
  clear hf a; intro a hf
  obtain ⟨w13, he, hB14, hx15⟩ := eN (.tmp 9) (.tmp 16) hf rfl rfl rfl on_T hB9 rfl 0
  refine rS hf rfl he ?_
  clear he hf a; intro a hf
  replace hB5 := hB5.c1 hx15 ne_b5_b8
  replace hP := hP.chgN hB9 (by decide) ne_b_b8 hx15
  replace hT := hT.chg hx15 (fun k hb hlt2 => (nmc (by have := hE.base; omega) nm0))
  replace hE := hE.n1 hx15 ge_b8
  clear hB9
  refine rR 6 hf rfl ?_
  clear hf a; intro a hf
  refine rB hf rfl (fun c hc => zX hf rfl rfl hc) ?_ ?_
  clear hf a; intro h18 a hf
  have hip : 0 < i := by simp at h18; omega
  refine rR 6 hf rfl ?_
  clear hf a; intro a hf
  obtain ⟨lb, lo, rfl, _, hlb, _⟩ := hL.2 (by omega)
  have hlj : ls[c + i - 1]? = some (ls.getD (c + i - 1) []) := by rw [List.getD_eq_getElem?_getD, List.getElem?_eq_getElem (by omega)]; rfl
  have hlg := eQ ls (c + i - 1)
  refine rV hf rfl (an hf rfl (by kernel_rfl) hB5 rfl) ?_
  clear hf a; intro a hf
  refine rR 2 hf rfl ?_
  clear hf a; intro a hf
  refine rV hf rfl (qh hf rfl rfl rfl (by omega)) ?_
  clear hf a; intro a hf
  refine rV hf rfl (qa hf rfl rfl rfl (by omega)) ?_
  clear hf a; intro a hf
  refine rV hf rfl (aB (sz := 1) (k := (c + i - 1)) (r := lo + (c + i - 1) * 1) hf Tryz.underlying32 (by kernel_rfl) rfl rfl (by omega) (by omega) rfl) ?_
  clear hf a; intro a hf
  refine rV hf rfl (ex_load hf rfl (by kernel_rfl) (by rw [Nat.mul_one]; exact ax hL hE hlj)) ?_
  clear hf a; intro a hf
  refine rC hf rfl rfl (by kernel_rfl) (cD (lead := (ls.getD (c + i - 1) [])) (tok := [44]) hP (by (try simp only [ac, List.length_append, List.length_cons, List.length_nil]); omega) (by (try simp only [ac, List.length_append, List.length_cons, List.length_nil]); omega) hE.now) ?_
  rintro _ w17 ⟨rfl, hPn, hEn⟩
  refine ⟨_, rfl, ?_⟩
  clear hf a; intro a hf
  have hx16 := hEn.chg
  replace hB5 := hB5.chg hx16 (aF hB5 rfl (Ne.symm ne_b_b5))
  replace hB14 := hB14.chg hx16 (aF hB14 rfl (Ne.symm ne_b_b8))
  replace hT := hT.chg hx16 (fun k hb hlt2 => (mi hb))
  replace hE := hE.trans hx16 (fun _ h => .inl h)
  clear hP; have hP : Pr Bs b (ac (ls.getD (c + i - 1) []) [44] (aZ ls c (treesP (ks.take i)) 0 s)).1 (ac (ls.getD (c + i - 1) []) [44] (aZ ls c (treesP (ks.take i)) 0 s)).2 w17 := hPn; clear hPn hEn
  refine rR 4 hf rfl ?_
  clear hf a; intro a hf
  refine rV hf rfl (eK (m := 4) hf rfl (by kernel_rfl) hB14 rfl) ?_
  clear hf a; intro a hf
  rw [if_pos hip] at hst
  obtain ⟨hp1, hp2⟩ := bg (ls.getD (c + i - 1) []) [44] (aZ ls c (treesP (ks.take i)) 0 s)
  simp only [List.length_cons, List.length_nil] at hp1 hp2
  refine rC hf rfl rfl (by kernel_rfl) (ih ks[i] _ Bs b (ac (ls.getD (c + i - 1) []) [44] (aZ ls c (treesP (ks.take i)) 0 s)) d0 d1 d2 d3 (hks _ hmem).1 (hks _ hmem).2.1 (hks _ hmem).2.2 (by omega) (by omega) hP hT hE.now) ?_
  rintro _ w19 ⟨rfl, hPn, hEn⟩
  refine ⟨_, rfl, ?_⟩
  clear hf a; intro a hf
  have hx18 := hEn.chg
  replace hB5 := hB5.chg hx18 (aF hB5 rfl (Ne.symm ne_b_b5))
  replace hB14 := hB14.chg hx18 (aF hB14 rfl (Ne.symm ne_b_b8))
  replace hT := hT.chg hx18 (fun k hb hlt2 => (mi hb))
  replace hE := hE.trans hx18 (fun _ h => .inl h)
  clear hP; have hP : Pr Bs b (treeP ks[i] (ac (ls.getD (c + i - 1) []) [44] (aZ ls c (treesP (ks.take i)) 0 s))).1 (treeP ks[i] (ac (ls.getD (c + i - 1) []) [44] (aZ ls c (treesP (ks.take i)) 0 s))).2 w19 := hPn; clear hPn hEn
  refine rR 4 hf rfl ?_
  clear hf a; intro a hf
  refine rV hf rfl (qh hf rfl rfl rfl (by omega)) ?_
  clear hf a; intro a hf
  refine rR 2 hf rfl ?_
  clear hf a; intro a hf
  rw [← hst] at hP
  exact rX ⟨_, (by omega : ks.length - (i + 1) < ks.length - i), i + 1, hf.pick ⟨rfl, rfl, rfl, rfl, rfl, rfl, trivial⟩, hE, hB5, hP, by omega, rfl⟩
  clear hf a; intro h18 a hf
  have hip : i = 0 := by simp at h18; omega
  refine rR 7 hf rfl ?_
  clear hf a; intro a hf
  refine rV hf rfl (eK (m := 4) hf rfl (by kernel_rfl) hB14 rfl) ?_
  clear hf a; intro a hf
  rw [if_neg (by omega)] at hst
  refine rC hf rfl rfl (by kernel_rfl) (ih ks[i] _ Bs b (aZ ls c (treesP (ks.take i)) 0 s) d0 d1 d2 d3 (hks _ hmem).1 (hks _ hmem).2.1 (hks _ hmem).2.2 (by omega) (by omega) hP hT hE.now) ?_
  rintro _ w21 ⟨rfl, hPn, hEn⟩
  refine ⟨_, rfl, ?_⟩
  clear hf a; intro a hf
  have hx20 := hEn.chg
  replace hB5 := hB5.chg hx20 (aF hB5 rfl (Ne.symm ne_b_b5))
  replace hB14 := hB14.chg hx20 (aF hB14 rfl (Ne.symm ne_b_b8))
  replace hT := hT.chg hx20 (fun k hb hlt2 => (mi hb))
  replace hE := hE.trans hx20 (fun _ h => .inl h)
  clear hP; have hP : Pr Bs b (treeP ks[i] (aZ ls c (treesP (ks.take i)) 0 s)).1 (treeP ks[i] (aZ ls c (treesP (ks.take i)) 0 s)).2 w21 := hPn; clear hPn hEn
  refine rR 4 hf rfl ?_
  clear hf a; intro a hf
  refine rV hf rfl (qh hf rfl rfl rfl (by omega)) ?_
  clear hf a; intro a hf
  refine rR 2 hf rfl ?_
  clear hf a; intro a hf
  rw [← hst] at hP
  exact rX ⟨_, (by omega : ks.length - (i + 1) < ks.length - i), i + 1, hf.pick ⟨rfl, rfl, rfl, rfl, rfl, rfl, trivial⟩, hE, hB5, hP, by omega, rfl⟩
  refine rR 2 hf rfl ?_
  clear hf a; intro a hf
  refine rV hf rfl (pr (c := false) hf rfl rfl (by simp; omega)) ?_
  clear hf a; intro a hf
  refine rR 6 hf rfl ?_
  clear hf a; intro a hf
  refine rO ?_
  refine rR 1 hf rfl ?_
  clear hf a; intro a hf
  have hz : ks.take i = ks := List.take_of_length_le (by omega)
  rw [hz] at hP
  exact rF (rs := []) hf rfl rfl ⟨rfl, hP, hE⟩
theorem ug {N : Nat} (ih : cF N) {w : World} {Bs b c : Nat} {s : WS} {ls : List (List UInt8)} {ks : List Tree} {cs : List Value} {k : Int} {x : List UInt8} {A B B2 : Option Addr} {m n n2 m2 : Nat} {ci : Int} (hci : ci = c) (h1c : 1 ≤ c) (hc6 : c ≤ 6) (hcl : c + ks.length ≤ ls.length + 1) (hks : ∀ t, t ∈ ks → tsize t ≤ N ∧ shapedT t = true ∧ leadedT t = true) (hl1 : s.2.length + 10 * lsum ls + 100 * kbulk ks + 10 ≤ 1000000000000) (hl2 : s.1.length + 10 * lsum ls + 100 * kbulk ks + 10 ≤ 1000000000000)
  (hP : Pr Bs b s.1 s.2 w) (hL : RowIn (fun b => b < Bs) w 1 A ls.length (ls.map aQ)) (hK : KidsAre (fun b => b < Bs) w ks cs) (hR : RowIn (fun b => b < Bs) w 4 B ks.length cs) (hBw : Bs ≤ w.heap.size) :
  Calls Tryz.prog 70 [.pointer (some ⟨b, 0, none⟩), .agg #[.int .i64 k, aQ x, .slice A ls.length m, .slice B2 n2 m2], .slice B ks.length n, .int .i64 ci].toArray w fun e w' => e = .returned (.tuple #[]) ∧ Pr Bs b (aZ ls c (treesP ks) 0 s).1 (aZ ls c (treesP ks) 0 s).2 w' ∧ Prn Bs b w w' := by
 subst hci; exact CP ih h1c hc6 hcl hks hl1 hl2 hP hL hK hR hBw
end Go.Proofs.YtgpcdfbmbcognaaGreat
