/- Contracts of the functions that the law reaches, part 4. -/
import Derived.Test.YthnohcipianijaaGreatDoorAb3
set_option linter.unusedVariables false
set_option linter.unusedSimpArgs false
namespace Go.Proofs.YthnohcipianijaaGreatDoor
open Go.RowKit Lx
set_option maxRecDepth 100000
def lu (at0 : Nat) (t : Nat × Nat × Nat) : Value :=
 if t.2.2 = 0 then .agg #[.int .i64 (t.2.1 : Nat), .int .i64 (t.1 : Nat), .int .i64 0, .int .i64 0] else .agg #[.int .i64 0, .int .i64 0, .int .i64 (t.2.2 : Nat), .int .i64 ((at0 + t.2.1 : Nat) : Int)]
def nm (at0 : Nat) (t : Nat × Nat × Nat) (w : World) (e : Ending) (w' : World) : Prop := e = .returned (lu at0 t) ∧ Ext w w'
theorem dy {at0 n k : Nat} {t : Nat × Nat × Nat} {w w' : World} {x y : Int} (h : t = (k, n, 0)) (hx : x = n) (hy : y = k) (he : Ext w w') : nm at0 t w (.returned (.agg #[.int .i64 x, .int .i64 y, .int .i64 0, .int .i64 0])) w' := by
 subst h; subst hx; subst hy; exact ⟨rfl, he⟩
theorem bz {at0 n k e : Nat} {t : Nat × Nat × Nat} {w w' : World} {x y : Int} (h : t = (k, n, e)) (h0 : ¬ e = 0) (hx : x = e) (hy : y = ((at0 + n : Nat) : Int)) (he : Ext w w') : nm at0 t w (.returned (.agg #[.int .i64 0, .int .i64 0, .int .i64 x, .int .i64 y])) w' := by
 subst h; subst hx; subst hy; exact ⟨by simp only [lu, if_neg h0], he⟩
set_option maxHeartbeats 4000000 in
theorem BE (l : List UInt8) (x : Int) (k : Nat) (hxk : x = k) (w : World) (hlt : k < l.length) (hle : aL (l[k]'hlt) = true) (hl : l.length ≤ 281474976710656) : Calls Tryz.prog 201 #[.string ⟨l.toArray⟩, .int .i64 x] w (nm k (bn (l.drop k)) w) := by
 subst hxk
 obtain ⟨T, hT⟩ : ∃ T, bn (l.drop k) = T := ⟨_, rfl⟩
 rw [hT]
 have h0 : 0 < (l.drop k).length := by simp; omega
 obtain ⟨c0, hc0⟩ : ∃ c, ({ data := l.toArray } : ByteArray)[k]'hlt = c := ⟨_, rfl⟩
 have HCk := Lib.hid (show l[k] = c0 from hc0)
 have HC0 := Lib.hid (show (l.drop k)[0] = c0 from by rw [List.getElem_drop]; exact hc0)
 have HL0 := Lib.hid (show aL c0 = true from hc0 ▸ hle)
 obtain ⟨n, hn⟩ : ∃ n, spanN aU (l.drop k) = n := ⟨_, rfl⟩
 have hnl : k + n ≤ l.length := by have := kD aU (l.drop k); simp at this; omega
 have HN := Lib.hid hn
 have HW0 := Lib.hid (show dW (l.drop k) = n from by rw [dW, ar h0 HC0.out, if_pos HL0.out]; exact hn)
 clear hn hle
 obtain ⟨E, hE⟩ : ∃ E, k + n = E := ⟨_, rfl⟩
 have hE1 : (k : Int) + n = (E : Nat) := by omega
 have hE2 : E - k = n := by omega
 have hE3 : E ≤ l.length := by omega
 have hkE : k ≤ E := by omega
 have HE := Lib.hid hE
 clear hE
 have hx := sw; have hx2 := nq
 go_enter Tryz.func201, Tryz.ntmps201
 go_wp2_with fail
 refine (eu _ _ k rfl _ (by omega) hl).mono ?_
 rintro e w' ⟨rfl, rfl⟩
 rw [HW0.out]
 cases hr : fv ((l.drop k).take n)
 rotate_left
 ·cases hu : upperB c0
  all_goals
   have HQ := Lib.hid (ep HN.out (wY HN.out hr))
   by_cases h24 : 24 < n
   ·skip
    have HW := Lib.hid (show T = (0, 0, 3) from by rw [← hT, HQ.out, aY, if_pos h24])
    go_wp2_with (first | (go_at_call 200; refine qmm (aF _ _) ?_) | (go_at_call 213; refine qmm (bB _ _) ?_) | (go_at_call 212; refine qmm (eu _ _ (E + 1) (by omega) _ (by omega) hl) ?_))
    exact bodyPost_ret (v := .agg #[.int .i64 0, .int .i64 0, .int .i64 3, .int .i64 k]) (by simp [results, Tryz.results201, go_sem]) rfl (bz HW.out (by omega) (by omega) (by omega) (by repeat (first | exact Ext.refl _ | apply Ext.alloc | (refine Ext.setCell ?_ (Nat.le_refl _) _))))
   ·skip
    have HW := Lib.hid (show T = (7, n, 0) from by rw [← hT, HQ.out, aY, if_neg h24, if_pos hr])
    go_wp2_with (first | (go_at_call 200; refine qmm (aF _ _) ?_) | (go_at_call 213; refine qmm (bB _ _) ?_) | (go_at_call 212; refine qmm (eu _ _ (E + 1) (by omega) _ (by omega) hl) ?_))
    exact bodyPost_ret (v := .agg #[.int .i64 n, .int .i64 7, .int .i64 0, .int .i64 0]) (by simp [results, Tryz.results201, go_sem]) rfl (dy HW.out (by omega) (by omega) (by repeat (first | exact Ext.refl _ | apply Ext.alloc | (refine Ext.setCell ?_ (Nat.le_refl _) _))))
 cases hu : upperB c0
 ·skip
  have HQ := Lib.hid (ep HN.out (wP h0 HC0.out hu))
  by_cases h24 : 24 < n
  ·skip
   have HW := Lib.hid (show T = (0, 0, 3) from by rw [← hT, HQ.out, aY, if_pos h24])
   go_wp2_with (first | (go_at_call 200; refine qmm (aF _ _) ?_) | (go_at_call 213; refine qmm (bB _ _) ?_) | (go_at_call 212; refine qmm (eu _ _ (E + 1) (by omega) _ (by omega) hl) ?_))
   exact bodyPost_ret (v := .agg #[.int .i64 0, .int .i64 0, .int .i64 3, .int .i64 k]) (by simp [results, Tryz.results201, go_sem]) rfl (bz HW.out (by omega) (by omega) (by omega) (by repeat (first | exact Ext.refl _ | apply Ext.alloc | (refine Ext.setCell ?_ (Nat.le_refl _) _))))
  ·skip
   have HW := Lib.hid (show T = (1, n, 0) from by rw [← hT, HQ.out, aY, if_neg h24, if_neg (by simp [hr]), if_pos (by rw [ar h0 HC0.out]; exact tp HL0.out hu)])
   go_wp2_with (first | (go_at_call 200; refine qmm (aF _ _) ?_) | (go_at_call 213; refine qmm (bB _ _) ?_) | (go_at_call 212; refine qmm (eu _ _ (E + 1) (by omega) _ (by omega) hl) ?_))
   exact bodyPost_ret (v := .agg #[.int .i64 n, .int .i64 1, .int .i64 0, .int .i64 0]) (by simp [results, Tryz.results201, go_sem]) rfl (dy HW.out (by omega) (by omega) (by repeat (first | exact Ext.refl _ | apply Ext.alloc | (refine Ext.setCell ?_ (Nat.le_refl _) _))))
 by_cases h2 : E + 1 < l.length
 rotate_left
 ·have h2' : ¬ ((E : Int) + 1 < l.length) := by omega
  have HQ := Lib.hid (ep HN.out (wH HN.out (by have := HE.out; simp; omega)))
  by_cases h24 : 24 < n
  ·skip
   have HW := Lib.hid (show T = (0, 0, 3) from by rw [← hT, HQ.out, aY, if_pos h24])
   go_wp2_with (first | (go_at_call 200; refine qmm (aF _ _) ?_) | (go_at_call 213; refine qmm (bB _ _) ?_) | (go_at_call 212; refine qmm (eu _ _ (E + 1) (by omega) _ (by omega) hl) ?_))
   exact bodyPost_ret (v := .agg #[.int .i64 0, .int .i64 0, .int .i64 3, .int .i64 k]) (by simp [results, Tryz.results201, go_sem]) rfl (bz HW.out (by omega) (by omega) (by omega) (by repeat (first | exact Ext.refl _ | apply Ext.alloc | (refine Ext.setCell ?_ (Nat.le_refl _) _))))
  ·skip
   have HW := Lib.hid (show T = (2, n, 0) from by rw [← hT, HQ.out, aY, if_neg h24, if_neg (by simp [hr]), if_neg (by rw [ar h0 HC0.out]; simp [lx hu])])
   go_wp2_with (first | (go_at_call 200; refine qmm (aF _ _) ?_) | (go_at_call 213; refine qmm (bB _ _) ?_) | (go_at_call 212; refine qmm (eu _ _ (E + 1) (by omega) _ (by omega) hl) ?_))
   exact bodyPost_ret (v := .agg #[.int .i64 n, .int .i64 2, .int .i64 0, .int .i64 0]) (by simp [results, Tryz.results201, go_sem]) rfl (dy HW.out (by omega) (by omega) (by repeat (first | exact Ext.refl _ | apply Ext.alloc | (refine Ext.setCell ?_ (Nat.le_refl _) _))))
 have hn1 : E < l.length := by omega
 obtain ⟨c1, hc1⟩ : ∃ c, ({ data := l.toArray } : ByteArray)[E]'hn1 = c := ⟨_, rfl⟩
 have HC1a := Lib.hid (show l[E] = c1 from hc1)
 obtain ⟨c2, hc2⟩ : ∃ c, ({ data := l.toArray } : ByteArray)[E + 1]'h2 = c := ⟨_, rfl⟩
 have HC2a := Lib.hid (show l[E + 1] = c2 from hc2)
 have hnl1 : n < (l.drop k).length := by have := HE.out; simp; omega
 have hnl2 : n + 1 < (l.drop k).length := by have := HE.out; simp; omega
 have HC1 := Lib.hid (show (l.drop k)[n] = c1 from by rw [List.getElem_drop]; simp only [HE.out]; exact hc1)
 have HC2 := Lib.hid (show (l.drop k)[n + 1] = c2 from by rw [List.getElem_drop]; simp only [← Nat.add_assoc, HE.out]; exact hc2)
 have HGE := Lib.hid (show (l.drop (E + 1)).getD 0 0 = c2 from by rw [oh]; exact ar h2 HC2a.out)
 cases h46 : ((c1.toNat : Int) == 46)
 ·skip
  have HQ := Lib.hid (ep HN.out (xa HN.out hnl1 HC1.out h46))
  by_cases h24 : 24 < n
  ·skip
   have HW := Lib.hid (show T = (0, 0, 3) from by rw [← hT, HQ.out, aY, if_pos h24])
   go_wp2_with (first | (go_at_call 200; refine qmm (aF _ _) ?_) | (go_at_call 213; refine qmm (bB _ _) ?_) | (go_at_call 212; refine qmm (eu _ _ (E + 1) (by omega) _ (by omega) hl) ?_))
   exact bodyPost_ret (v := .agg #[.int .i64 0, .int .i64 0, .int .i64 3, .int .i64 k]) (by simp [results, Tryz.results201, go_sem]) rfl (bz HW.out (by omega) (by omega) (by omega) (by repeat (first | exact Ext.refl _ | apply Ext.alloc | (refine Ext.setCell ?_ (Nat.le_refl _) _))))
  ·skip
   have HW := Lib.hid (show T = (2, n, 0) from by rw [← hT, HQ.out, aY, if_neg h24, if_neg (by simp [hr]), if_neg (by rw [ar h0 HC0.out]; simp [lx hu])])
   go_wp2_with (first | (go_at_call 200; refine qmm (aF _ _) ?_) | (go_at_call 213; refine qmm (bB _ _) ?_) | (go_at_call 212; refine qmm (eu _ _ (E + 1) (by omega) _ (by omega) hl) ?_))
   exact bodyPost_ret (v := .agg #[.int .i64 n, .int .i64 2, .int .i64 0, .int .i64 0]) (by simp [results, Tryz.results201, go_sem]) rfl (dy HW.out (by omega) (by omega) (by repeat (first | exact Ext.refl _ | apply Ext.alloc | (refine Ext.setCell ?_ (Nat.le_refl _) _))))
 cases h3 : aL c2
 ·have hm : dW (l.drop (E + 1)) = 0 := by rw [dW, HGE.out]; simp [h3]
  have HQ := Lib.hid (ep HN.out (xk HN.out hnl2 HC2.out h3))
  by_cases h24 : 24 < n
  ·skip
   have HW := Lib.hid (show T = (0, 0, 3) from by rw [← hT, HQ.out, aY, if_pos h24])
   go_wp2_with (first | (go_at_call 200; refine qmm (aF _ _) ?_) | (go_at_call 213; refine qmm (bB _ _) ?_) | (go_at_call 212; refine qmm (eu _ _ (E + 1) (by omega) _ (by omega) hl) ?_))
   exact bodyPost_ret (v := .agg #[.int .i64 0, .int .i64 0, .int .i64 3, .int .i64 k]) (by simp [results, Tryz.results201, go_sem]) rfl (bz HW.out (by omega) (by omega) (by omega) (by repeat (first | exact Ext.refl _ | apply Ext.alloc | (refine Ext.setCell ?_ (Nat.le_refl _) _))))
  ·skip
   have HW := Lib.hid (show T = (2, n, 0) from by rw [← hT, HQ.out, aY, if_neg h24, if_neg (by simp [hr]), if_neg (by rw [ar h0 HC0.out]; simp [lx hu])])
   go_wp2_with (first | (go_at_call 200; refine qmm (aF _ _) ?_) | (go_at_call 213; refine qmm (bB _ _) ?_) | (go_at_call 212; refine qmm (eu _ _ (E + 1) (by omega) _ (by omega) hl) ?_))
   exact bodyPost_ret (v := .agg #[.int .i64 n, .int .i64 2, .int .i64 0, .int .i64 0]) (by simp [results, Tryz.results201, go_sem]) rfl (dy HW.out (by omega) (by omega) (by repeat (first | exact Ext.refl _ | apply Ext.alloc | (refine Ext.setCell ?_ (Nat.le_refl _) _))))
 obtain ⟨m, hm⟩ : ∃ m, dW (l.drop (E + 1)) = m := ⟨_, rfl⟩
 have HM := Lib.hid (show spanN aU (l.drop (E + 1)) = m from by rw [← hm, dW, HGE.out, if_pos h3])
 have hm0 : 0 < m := by have h := wj (p := aU) (l := l.drop (E + 1)) (by simp; omega) (by rw [HGE.out]; simp [aU, h3]); rw [HM.out] at h; exact h
 have hml : E + 1 + m ≤ l.length := by have h := kD aU (l.drop (E + 1)); rw [HM.out] at h; simp at h; omega
 have he : E + 1 + m - (E + 1) = m := by omega
 have hsl : 0 < ((l.drop (E + 1)).take m).length := by simp; omega
 have hs0 : ({ data := ((l.drop (E + 1)).take m).toArray } : ByteArray)[0]'hsl = c2 := by
  show ((l.drop (E + 1)).take m)[0] = c2
  rw [List.getElem_take, List.getElem_drop]; exact hc2
 have HQ := Lib.hid (rc (m := m) HN.out (by have h := HM.out; rw [← HE.out] at h; rw [List.drop_drop]; exact h) (sq HN.out h0 HC0.out hu hr hnl2 hnl1 HC1.out h46 HC2.out h3))
 have HDD := Lib.hid (show ((l.drop k).drop (n + 1)).take m = (l.drop (E + 1)).take m from by rw [List.drop_drop, ← HE.out, Nat.add_assoc])
 cases hu2 : upperB c2
 all_goals
  by_cases h24 : 24 < n
  ·skip
   have HW := Lib.hid (show T = (0, 0, 3) from by rw [← hT, HQ.out, cp, if_pos (.inl h24)])
   go_wp2_with (first | (go_at_call 200; refine qmm (aF _ _) ?_) | (go_at_call 213; refine qmm (bB _ _) ?_) | (go_at_call 212; refine qmm (eu _ _ (E + 1) (by omega) _ (by omega) hl) ?_))
   exact bodyPost_ret (v := .agg #[.int .i64 0, .int .i64 0, .int .i64 3, .int .i64 k]) (by simp [results, Tryz.results201, go_sem]) rfl (bz HW.out (by omega) (by omega) (by omega) (by repeat (first | exact Ext.refl _ | apply Ext.alloc | (refine Ext.setCell ?_ (Nat.le_refl _) _))))
  by_cases h24m : 24 < m
  ·skip
   have HW := Lib.hid (show T = (0, 0, 3) from by rw [← hT, HQ.out, cp, if_pos (.inr h24m)])
   go_wp2_with (first | (go_at_call 200; refine qmm (aF _ _) ?_) | (go_at_call 213; refine qmm (bB _ _) ?_) | (go_at_call 212; refine qmm (eu _ _ (E + 1) (by omega) _ (by omega) hl) ?_))
   exact bodyPost_ret (v := .agg #[.int .i64 0, .int .i64 0, .int .i64 3, .int .i64 k]) (by simp [results, Tryz.results201, go_sem]) rfl (bz HW.out (by omega) (by omega) (by omega) (by repeat (first | exact Ext.refl _ | apply Ext.alloc | (refine Ext.setCell ?_ (Nat.le_refl _) _))))
  cases hr2 : fv ((l.drop (E + 1)).take m)
  rotate_left
  ·skip
   have HW := Lib.hid (show T = (0, 0, 2) from by rw [← hT, HQ.out, cp, if_neg (by omega), if_pos (by rw [HDD.out]; exact hr2)])
   go_wp2_with (first | (go_at_call 200; refine qmm (aF _ _) ?_) | (go_at_call 213; refine qmm (bB _ _) ?_) | (go_at_call 212; refine qmm (eu _ _ (E + 1) (by omega) _ (by omega) hl) ?_))
   exact bodyPost_ret (v := .agg #[.int .i64 0, .int .i64 0, .int .i64 2, .int .i64 k]) (by simp [results, Tryz.results201, go_sem]) rfl (bz HW.out (by omega) (by omega) (by omega) (by repeat (first | exact Ext.refl _ | apply Ext.alloc | (refine Ext.setCell ?_ (Nat.le_refl _) _))))
  first
  |have HW := Lib.hid (show T = (3, n + 1 + m, 0) from by rw [← hT, HQ.out, cp, if_neg (by omega), if_neg (by rw [HDD.out]; simp [hr2]), if_pos (by rw [ar hnl2 HC2.out]; exact tp h3 hu2)])
   go_wp2_with (first | (go_at_call 200; refine qmm (aF _ _) ?_) | (go_at_call 213; refine qmm (bB _ _) ?_) | (go_at_call 212; refine qmm (eu _ _ (E + 1) (by omega) _ (by omega) hl) ?_))
   exact bodyPost_ret (v := .agg #[.int .i64 (n + 1 + m), .int .i64 3, .int .i64 0, .int .i64 0]) (by simp [results, Tryz.results201, go_sem]) rfl (dy HW.out (by omega) (by omega) (by repeat (first | exact Ext.refl _ | apply Ext.alloc | (refine Ext.setCell ?_ (Nat.le_refl _) _))))
  |have HW := Lib.hid (show T = (4, n + 1 + m, 0) from by rw [← hT, HQ.out, cp, if_neg (by omega), if_neg (by rw [HDD.out]; simp [hr2]), if_neg (by rw [ar hnl2 HC2.out]; simp [lx hu2])])
   go_wp2_with (first | (go_at_call 200; refine qmm (aF _ _) ?_) | (go_at_call 213; refine qmm (bB _ _) ?_) | (go_at_call 212; refine qmm (eu _ _ (E + 1) (by omega) _ (by omega) hl) ?_))
   exact bodyPost_ret (v := .agg #[.int .i64 (n + 1 + m), .int .i64 4, .int .i64 0, .int .i64 0]) (by simp [results, Tryz.results201, go_sem]) rfl (dy HW.out (by omega) (by omega) (by repeat (first | exact Ext.refl _ | apply Ext.alloc | (refine Ext.setCell ?_ (Nat.le_refl _) _))))
end Go.Proofs.YthnohcipianijaaGreatDoor
namespace Go.Proofs.YthnohcipianijaaGreatDoor
open Go.RowKit Lx
set_option maxRecDepth 100000
theorem uU (at0 : Nat) (t : Nat × Nat × Nat) : ∃ a b c d : Int, lu at0 t = .agg #[.int .i64 a, .int .i64 b, .int .i64 c, .int .i64 d] := by
 unfold lu; split <;> exact ⟨_, _, _, _, rfl⟩
abbrev qW : Obj := .cells #[.int .i64 0, .int .i64 0, .int .i64 0, .int .i64 0] 218
set_option maxHeartbeats 4000000 in
theorem Cl (l : List UInt8) (x : Int) (k : Nat) (hxk : x = k) (w : World) (hlt : k < l.length) (hl : l.length ≤ 281474976710656) : Calls Tryz.prog 175 #[.string ⟨l.toArray⟩, .int .i64 x] w (nm k (tokenT (l.drop k)) w) := by
 subst hxk
 obtain ⟨T, hT⟩ : ∃ T, tokenT (l.drop k) = T := ⟨_, rfl⟩
 rw [hT]
 have h0 : 0 < (l.drop k).length := by simp; omega
 obtain ⟨c, hc⟩ : ∃ c, ({ data := l.toArray } : ByteArray)[k]'hlt = c := ⟨_, rfl⟩
 have HC := Lib.hid (show l[k] = c from hc)
 have HC0 := Lib.hid (show (l.drop k)[0] = c from by rw [List.getElem_drop]; exact hc)
 have HT := Lib.hid ((og h0 HC0.out).symm.trans hT)
 clear hT
 go_enter Tryz.func175, Tryz.ntmps175
 cases ha : aT c
 ·skip
  have HW := Lib.hid (show T = (0, 0, 1) from by rw [← HT.out, if_pos ha])
  go_wp2_with (first | (go_at_call 196; refine qmm (bg _ _) ?_) | (go_at_call 197; refine qmm (bb _ _) ?_) | (go_at_call 198; refine qmm (bH _ _) ?_) | (go_at_call 199; refine qmm (bm _ _) ?_) | (go_at_call 200; refine qmm (aF _ _) ?_) | (go_at_call 202; refine qmm (cy _ _ k rfl _ hlt hl) ?_))
  exact bodyPost_ret (v := .agg #[.int .i64 0, .int .i64 0, .int .i64 1, .int .i64 k]) (by simp [results, Tryz.results175, go_sem]) rfl (bz HW.out (by omega) (by omega) (by omega) (by repeat (first | exact Ext.refl _ | apply Ext.alloc | (refine Ext.setCell ?_ (Nat.le_refl _) _))))
 have HA := Lib.hid (show ¬ aT c = false from by simp [ha])
 cases h34 : ((c.toNat : Int) == 34)
 rotate_left
 ·have h34' := cN (m := 34) h34
  have HT2 := Lib.hid (show T = (6, quotedT (l.drop (k + 1)) 1) from by
   rw [← HT.out, if_neg HA.out, if_neg (by simp [aL, br, upperB, h34']), if_neg (by simp [aH, h34']), if_pos h34', List.tail_drop])
  clear h34'
  go_wp2_with (first | (go_at_call 196; refine qmm (bg _ _) ?_) | (go_at_call 197; refine qmm (bb _ _) ?_) | (go_at_call 198; refine qmm (bH _ _) ?_) | (go_at_call 199; refine qmm (bm _ _) ?_) | (go_at_call 200; refine qmm (aF _ _) ?_) | (go_at_call 202; refine qmm (cy _ _ k rfl _ hlt hl) ?_))
  go_loopg [6] (l.length - (k + 1)) (fun g n wx => ∃ i : Nat, g = l.length - i ∧ wx = w.alloc qW ∧ k + 1 ≤ i ∧ i ≤ l.length ∧ n = .int .i64 i ∧ Hid (quotedT (l.drop (k + 1)) 1 = quotedT (l.drop i) (i - k)))
  case atStart => exact ⟨k + 1, rfl, rfl, Nat.le_refl _, by omega, by go_num, Lib.hid (by congr 1; omega)⟩
  case round =>
   obtain ⟨i, rfl, rfl, hki, hil, rfl, hrel⟩ := hrel
   by_cases hit : i < l.length
   ·skip
    obtain ⟨d, hd⟩ : ∃ c, ({ data := l.toArray } : ByteArray)[i]'hit = c := ⟨_, rfl⟩
    have HD := Lib.hid (show l[i] = d from hd)
    have HS := Lib.hid (wc (j := i - k) hit HD.out)
    cases hq : ((d.toNat : Int) == 34)
    rotate_left
    ·have HW := Lib.hid (show T = (6, i - k + 1, 0) from by rw [HT2.out, hrel.out, HS.out, if_neg (by simp [rz (cN (m := 34) hq)]), if_pos (cN (m := 34) hq)])
     go_wp2_with (first | (go_at_call 196; refine qmm (bg _ _) ?_) | (go_at_call 197; refine qmm (bb _ _) ?_) | (go_at_call 198; refine qmm (bH _ _) ?_) | (go_at_call 199; refine qmm (bm _ _) ?_) | (go_at_call 200; refine qmm (aF _ _) ?_) | (go_at_call 202; refine qmm (cy _ _ k rfl _ hlt hl) ?_))
     exact bodyPost_ret (v := .agg #[.int .i64 ((i : Int) + 1 - k), .int .i64 6, .int .i64 0, .int .i64 0]) (by simp [results, Tryz.results175, go_sem]) rfl (dy HW.out (by omega) (by omega) (by repeat (first | exact Ext.refl _ | apply Ext.alloc | (refine Ext.setCell ?_ (Nat.le_refl _) _))))
    cases had : aT d
    ·have HW := Lib.hid (show T = (6, i - k, 1) from by rw [HT2.out, hrel.out, HS.out, if_pos had])
     go_wp2_with (first | (go_at_call 196; refine qmm (bg _ _) ?_) | (go_at_call 197; refine qmm (bb _ _) ?_) | (go_at_call 198; refine qmm (bH _ _) ?_) | (go_at_call 199; refine qmm (bm _ _) ?_) | (go_at_call 200; refine qmm (aF _ _) ?_) | (go_at_call 202; refine qmm (cy _ _ k rfl _ hlt hl) ?_))
     exact bodyPost_ret (v := .agg #[.int .i64 0, .int .i64 0, .int .i64 1, .int .i64 i]) (by simp [results, Tryz.results175, go_sem]) rfl (bz HW.out (by omega) (by omega) (by omega) (by repeat (first | exact Ext.refl _ | apply Ext.alloc | (refine Ext.setCell ?_ (Nat.le_refl _) _))))
    cases hpr : cH d
    ·have HW := Lib.hid (show T = (6, 0, 2) from by rw [HT2.out, hrel.out, HS.out, if_neg (by simp [had]), if_neg (bp (m := 34) hq), if_pos (.inr (vH had hpr))])
     go_wp2_with (first | (go_at_call 196; refine qmm (bg _ _) ?_) | (go_at_call 197; refine qmm (bb _ _) ?_) | (go_at_call 198; refine qmm (bH _ _) ?_) | (go_at_call 199; refine qmm (bm _ _) ?_) | (go_at_call 200; refine qmm (aF _ _) ?_) | (go_at_call 202; refine qmm (cy _ _ k rfl _ hlt hl) ?_))
     exact bodyPost_ret (v := .agg #[.int .i64 0, .int .i64 0, .int .i64 2, .int .i64 k]) (by simp [results, Tryz.results175, go_sem]) rfl (bz HW.out (by omega) (by omega) (by omega) (by repeat (first | exact Ext.refl _ | apply Ext.alloc | (refine Ext.setCell ?_ (Nat.le_refl _) _))))
    cases h92 : ((d.toNat : Int) == 92)
    rotate_left
    ·have HW := Lib.hid (show T = (6, 0, 2) from by rw [HT2.out, hrel.out, HS.out, if_neg (by simp [had]), if_neg (bp (m := 34) hq), if_pos (.inl (cN (m := 92) h92))])
     go_wp2_with (first | (go_at_call 196; refine qmm (bg _ _) ?_) | (go_at_call 197; refine qmm (bb _ _) ?_) | (go_at_call 198; refine qmm (bH _ _) ?_) | (go_at_call 199; refine qmm (bm _ _) ?_) | (go_at_call 200; refine qmm (aF _ _) ?_) | (go_at_call 202; refine qmm (cy _ _ k rfl _ hlt hl) ?_))
     exact bodyPost_ret (v := .agg #[.int .i64 0, .int .i64 0, .int .i64 2, .int .i64 k]) (by simp [results, Tryz.results175, go_sem]) rfl (bz HW.out (by omega) (by omega) (by omega) (by repeat (first | exact Ext.refl _ | apply Ext.alloc | (refine Ext.setCell ?_ (Nat.le_refl _) _))))
    ·go_wp2_with (first | (go_at_call 196; refine qmm (bg _ _) ?_) | (go_at_call 197; refine qmm (bb _ _) ?_) | (go_at_call 198; refine qmm (bH _ _) ?_) | (go_at_call 199; refine qmm (bm _ _) ?_) | (go_at_call 200; refine qmm (aF _ _) ?_) | (go_at_call 202; refine qmm (cy _ _ k rfl _ hlt hl) ?_))
     go_roundg (l.length - (i + 1))
     case measure => omega
     case rel => exact ⟨i + 1, rfl, rfl, by omega, by omega, by go_num, Lib.hid (by rw [hrel.out, HS.out, if_neg (by simp [had]), if_neg (bp (m := 34) hq), if_neg (fun h => h.elim (bp (m := 92) h92) (vM hpr))]; congr 1; omega)⟩
   ·have HW := Lib.hid (show T = (6, 0, 2) from by rw [HT2.out, hrel.out, qy (by omega)])
    go_wp2_with (first | (go_at_call 196; refine qmm (bg _ _) ?_) | (go_at_call 197; refine qmm (bb _ _) ?_) | (go_at_call 198; refine qmm (bH _ _) ?_) | (go_at_call 199; refine qmm (bm _ _) ?_) | (go_at_call 200; refine qmm (aF _ _) ?_) | (go_at_call 202; refine qmm (cy _ _ k rfl _ hlt hl) ?_))
    exact bodyPost_ret (v := .agg #[.int .i64 0, .int .i64 0, .int .i64 2, .int .i64 k]) (by simp [results, Tryz.results175, go_sem]) rfl (bz HW.out (by omega) (by omega) (by omega) (by repeat (first | exact Ext.refl _ | apply Ext.alloc | (refine Ext.setCell ?_ (Nat.le_refl _) _))))
 cases hdg : aH c
 rotate_left
 ·have HT2 := Lib.hid (show T = (5, dz (l.drop k)) from by
   rw [← HT.out, if_neg HA.out, if_neg (by simp [aL, br, upperB, aH] at hdg ⊢; omega), if_pos hdg])
  go_wp2_with (first | (go_at_call 196; refine qmm (bg _ _) ?_) | (go_at_call 197; refine qmm (bb _ _) ?_) | (go_at_call 198; refine qmm (bH _ _) ?_) | (go_at_call 199; refine qmm (bm _ _) ?_) | (go_at_call 200; refine qmm (aF _ _) ?_) | (go_at_call 202; refine qmm (cy _ _ k rfl _ hlt hl) ?_))
  go_loopg [7] (l.length - k) (fun g n wx => ∃ i : Nat, g = l.length - i ∧ wx = w.alloc qW ∧ k ≤ i ∧ i ≤ l.length ∧ n = .int .i64 i ∧ Hid (spanN aH (l.drop k) = i - k + spanN aH (l.drop i)))
  case atStart => exact ⟨k, rfl, rfl, Nat.le_refl _, by omega, rfl, Lib.hid (by omega)⟩
  case round =>
   obtain ⟨i, rfl, rfl, hki, hil, rfl, hrel⟩ := hrel
   by_cases hit : i < l.length
   ·skip
    obtain ⟨d, hd⟩ : ∃ c, ({ data := l.toArray } : ByteArray)[i]'hit = c := ⟨_, rfl⟩
    have HD := Lib.hid (show l[i] = d from hd)
    cases hdd : aH d
    ·skip
     have HN := Lib.hid (show spanN aH (l.drop k) = i - k from by rw [hrel.out, kp hit HD.out hdd]; omega)
     by_cases h1 : 1 < i - k
     ·have h1' : (1 : Int) < i - k := by omega
      cases h48 : ((c.toNat : Int) == 48)
      ·have HG := Lib.hid (show 1 < i - k → ¬ ((l.drop k).getD 0 0).toNat = 48 from fun _ => by rw [ar h0 HC0.out]; exact bp (m := 48) h48)
       by_cases h15 : 15 < i - k
       ·have h15' : (15 : Int) < i - k := by omega
        have HW := Lib.hid (show T = (5, 0, 3) from by rw [HT2.out, iF HN.out HG.out h15])
        go_wp2_with (first | (go_at_call 196; refine qmm (bg _ _) ?_) | (go_at_call 197; refine qmm (bb _ _) ?_) | (go_at_call 198; refine qmm (bH _ _) ?_) | (go_at_call 199; refine qmm (bm _ _) ?_) | (go_at_call 200; refine qmm (aF _ _) ?_) | (go_at_call 202; refine qmm (cy _ _ k rfl _ hlt hl) ?_))
        exact bodyPost_ret (v := .agg #[.int .i64 0, .int .i64 0, .int .i64 3, .int .i64 k]) (by simp [results, Tryz.results175, go_sem]) rfl (bz HW.out (by omega) (by omega) (by omega) (by repeat (first | exact Ext.refl _ | apply Ext.alloc | (refine Ext.setCell ?_ (Nat.le_refl _) _))))
       ·have h15' : ¬ ((15 : Int) < i - k) := by omega
        have HW := Lib.hid (show T = (5, i - k, 0) from by rw [HT2.out, dX HN.out HG.out h15])
        go_wp2_with (first | (go_at_call 196; refine qmm (bg _ _) ?_) | (go_at_call 197; refine qmm (bb _ _) ?_) | (go_at_call 198; refine qmm (bH _ _) ?_) | (go_at_call 199; refine qmm (bm _ _) ?_) | (go_at_call 200; refine qmm (aF _ _) ?_) | (go_at_call 202; refine qmm (cy _ _ k rfl _ hlt hl) ?_))
        exact bodyPost_ret (v := .agg #[.int .i64 ((i : Int) - k), .int .i64 5, .int .i64 0, .int .i64 0]) (by simp [results, Tryz.results175, go_sem]) rfl (dy HW.out (by omega) (by omega) (by repeat (first | exact Ext.refl _ | apply Ext.alloc | (refine Ext.setCell ?_ (Nat.le_refl _) _))))
      ·skip
       have HW := Lib.hid (show T = (5, 0, 2) from by rw [HT2.out, iK HN.out h1 h0 HC0.out h48])
       go_wp2_with (first | (go_at_call 196; refine qmm (bg _ _) ?_) | (go_at_call 197; refine qmm (bb _ _) ?_) | (go_at_call 198; refine qmm (bH _ _) ?_) | (go_at_call 199; refine qmm (bm _ _) ?_) | (go_at_call 200; refine qmm (aF _ _) ?_) | (go_at_call 202; refine qmm (cy _ _ k rfl _ hlt hl) ?_))
       exact bodyPost_ret (v := .agg #[.int .i64 0, .int .i64 0, .int .i64 2, .int .i64 k]) (by simp [results, Tryz.results175, go_sem]) rfl (bz HW.out (by omega) (by omega) (by omega) (by repeat (first | exact Ext.refl _ | apply Ext.alloc | (refine Ext.setCell ?_ (Nat.le_refl _) _))))
     ·have h1' : ¬ ((1 : Int) < i - k) := by omega
      have h15' : ¬ ((15 : Int) < i - k) := by omega
      have HW := Lib.hid (show T = (5, i - k, 0) from by rw [HT2.out, dX HN.out (fun h => absurd h h1) (by omega)])
      go_wp2_with (first | (go_at_call 196; refine qmm (bg _ _) ?_) | (go_at_call 197; refine qmm (bb _ _) ?_) | (go_at_call 198; refine qmm (bH _ _) ?_) | (go_at_call 199; refine qmm (bm _ _) ?_) | (go_at_call 200; refine qmm (aF _ _) ?_) | (go_at_call 202; refine qmm (cy _ _ k rfl _ hlt hl) ?_))
      exact bodyPost_ret (v := .agg #[.int .i64 ((i : Int) - k), .int .i64 5, .int .i64 0, .int .i64 0]) (by simp [results, Tryz.results175, go_sem]) rfl (dy HW.out (by omega) (by omega) (by repeat (first | exact Ext.refl _ | apply Ext.alloc | (refine Ext.setCell ?_ (Nat.le_refl _) _))))
    ·go_wp2_with (first | (go_at_call 196; refine qmm (bg _ _) ?_) | (go_at_call 197; refine qmm (bb _ _) ?_) | (go_at_call 198; refine qmm (bH _ _) ?_) | (go_at_call 199; refine qmm (bm _ _) ?_) | (go_at_call 200; refine qmm (aF _ _) ?_) | (go_at_call 202; refine qmm (cy _ _ k rfl _ hlt hl) ?_))
     go_roundg (l.length - (i + 1))
     case measure => omega
     case rel => exact ⟨i + 1, rfl, rfl, by omega, by omega, by go_num, Lib.hid (by rw [hrel.out, fY hit HD.out hdd]; omega)⟩
   ·skip
    have HN := Lib.hid (show spanN aH (l.drop k) = i - k from by rw [hrel.out, lq (by omega)]; omega)
    by_cases h1 : 1 < i - k
    ·have h1' : (1 : Int) < i - k := by omega
     cases h48 : ((c.toNat : Int) == 48)
     ·have HG := Lib.hid (show 1 < i - k → ¬ ((l.drop k).getD 0 0).toNat = 48 from fun _ => by rw [ar h0 HC0.out]; exact bp (m := 48) h48)
      by_cases h15 : 15 < i - k
      ·have h15' : (15 : Int) < i - k := by omega
       have HW := Lib.hid (show T = (5, 0, 3) from by rw [HT2.out, iF HN.out HG.out h15])
       go_wp2_with (first | (go_at_call 196; refine qmm (bg _ _) ?_) | (go_at_call 197; refine qmm (bb _ _) ?_) | (go_at_call 198; refine qmm (bH _ _) ?_) | (go_at_call 199; refine qmm (bm _ _) ?_) | (go_at_call 200; refine qmm (aF _ _) ?_) | (go_at_call 202; refine qmm (cy _ _ k rfl _ hlt hl) ?_))
       exact bodyPost_ret (v := .agg #[.int .i64 0, .int .i64 0, .int .i64 3, .int .i64 k]) (by simp [results, Tryz.results175, go_sem]) rfl (bz HW.out (by omega) (by omega) (by omega) (by repeat (first | exact Ext.refl _ | apply Ext.alloc | (refine Ext.setCell ?_ (Nat.le_refl _) _))))
      ·have h15' : ¬ ((15 : Int) < i - k) := by omega
       have HW := Lib.hid (show T = (5, i - k, 0) from by rw [HT2.out, dX HN.out HG.out h15])
       go_wp2_with (first | (go_at_call 196; refine qmm (bg _ _) ?_) | (go_at_call 197; refine qmm (bb _ _) ?_) | (go_at_call 198; refine qmm (bH _ _) ?_) | (go_at_call 199; refine qmm (bm _ _) ?_) | (go_at_call 200; refine qmm (aF _ _) ?_) | (go_at_call 202; refine qmm (cy _ _ k rfl _ hlt hl) ?_))
       exact bodyPost_ret (v := .agg #[.int .i64 ((i : Int) - k), .int .i64 5, .int .i64 0, .int .i64 0]) (by simp [results, Tryz.results175, go_sem]) rfl (dy HW.out (by omega) (by omega) (by repeat (first | exact Ext.refl _ | apply Ext.alloc | (refine Ext.setCell ?_ (Nat.le_refl _) _))))
     ·skip
      have HW := Lib.hid (show T = (5, 0, 2) from by rw [HT2.out, iK HN.out h1 h0 HC0.out h48])
      go_wp2_with (first | (go_at_call 196; refine qmm (bg _ _) ?_) | (go_at_call 197; refine qmm (bb _ _) ?_) | (go_at_call 198; refine qmm (bH _ _) ?_) | (go_at_call 199; refine qmm (bm _ _) ?_) | (go_at_call 200; refine qmm (aF _ _) ?_) | (go_at_call 202; refine qmm (cy _ _ k rfl _ hlt hl) ?_))
      exact bodyPost_ret (v := .agg #[.int .i64 0, .int .i64 0, .int .i64 2, .int .i64 k]) (by simp [results, Tryz.results175, go_sem]) rfl (bz HW.out (by omega) (by omega) (by omega) (by repeat (first | exact Ext.refl _ | apply Ext.alloc | (refine Ext.setCell ?_ (Nat.le_refl _) _))))
    ·have h1' : ¬ ((1 : Int) < i - k) := by omega
     have h15' : ¬ ((15 : Int) < i - k) := by omega
     have HW := Lib.hid (show T = (5, i - k, 0) from by rw [HT2.out, dX HN.out (fun h => absurd h h1) (by omega)])
     go_wp2_with (first | (go_at_call 196; refine qmm (bg _ _) ?_) | (go_at_call 197; refine qmm (bb _ _) ?_) | (go_at_call 198; refine qmm (bH _ _) ?_) | (go_at_call 199; refine qmm (bm _ _) ?_) | (go_at_call 200; refine qmm (aF _ _) ?_) | (go_at_call 202; refine qmm (cy _ _ k rfl _ hlt hl) ?_))
     exact bodyPost_ret (v := .agg #[.int .i64 ((i : Int) - k), .int .i64 5, .int .i64 0, .int .i64 0]) (by simp [results, Tryz.results175, go_sem]) rfl (dy HW.out (by omega) (by omega) (by repeat (first | exact Ext.refl _ | apply Ext.alloc | (refine Ext.setCell ?_ (Nat.le_refl _) _))))
 have HDg := Lib.hid (show ¬ aH c = true from by simp [hdg])
 have HQt := Lib.hid (bp (m := 34) h34)
 cases hle : aL c
 rotate_left
 ·have HT2 := Lib.hid (show bn (l.drop k) = T from by rw [← HT.out, if_neg HA.out, if_pos hle])
  obtain ⟨a0, a1, a2, a3, hform⟩ := uU k T
  have HF := Lib.hid hform
  have CW := Lib.hid (fun w => BE l k k rfl w hlt (by rw [HC.out]; exact hle) hl)
  clear hform
  have hbe : br c = true ∨ (br c = false ∧ upperB c = true) := by cases h : br c <;> simp_all [aL]
  rcases hbe with hlo | ⟨hlo, hup⟩
  all_goals
   go_wp2_with (first | (go_at_call 196; refine qmm (bg _ _) ?_) | (go_at_call 197; refine qmm (bb _ _) ?_) | (go_at_call 198; refine qmm (bH _ _) ?_) | (go_at_call 199; refine qmm (bm _ _) ?_) | (go_at_call 200; refine qmm (aF _ _) ?_) | (go_at_call 202; refine qmm (cy _ _ k rfl _ hlt hl) ?_))
   refine (CW.out _).mono ?_
   rintro e w1 ⟨rfl, hext⟩
   rw [HT2.out, HF.out]
   have hsz := hext.size
   have hc0 := hext.cell (p := ⟨w.heap.size, 0, none⟩) (by simp)
   have hc1 := hext.cell (p := ⟨w.heap.size, 1, none⟩) (by simp)
   have hc2 := hext.cell (p := ⟨w.heap.size, 2, none⟩) (by simp)
   have hc3 := hext.cell (p := ⟨w.heap.size, 3, none⟩) (by simp)
   have hf0 := hext.frozen (p := ⟨w.heap.size, 0, none⟩) (by simp)
   have hf1 := hext.frozen (p := ⟨w.heap.size, 1, none⟩) (by simp)
   have hf2 := hext.frozen (p := ⟨w.heap.size, 2, none⟩) (by simp)
   have hf3 := hext.frozen (p := ⟨w.heap.size, 3, none⟩) (by simp)
   have HX := Lib.hid hext
   clear hext
   simp at hsz hc0 hc1 hc2 hc3 hf0 hf1 hf2 hf3
   go_wp2_with (first | (go_at_call 196; refine qmm (bg _ _) ?_) | (go_at_call 197; refine qmm (bb _ _) ?_) | (go_at_call 198; refine qmm (bH _ _) ?_) | (go_at_call 199; refine qmm (bm _ _) ?_) | (go_at_call 200; refine qmm (aF _ _) ?_) | (go_at_call 202; refine qmm (cy _ _ k rfl _ hlt hl) ?_))
   exact bodyPost_ret (v := .agg #[.int .i64 a0, .int .i64 a1, .int .i64 a2, .int .i64 a3]) (by simp [results, Tryz.results175, go_sem, hc0, hc1, hc2, hc3]) rfl ⟨by rw [HF.out], (((((Ext.refl w).alloc _).trans HX.out).setCell (Nat.le_refl _) _).setCell (Nat.le_refl _) _).setCell (Nat.le_refl _) _ |>.setCell (Nat.le_refl _) _⟩
 have HLt := Lib.hid (show ¬ aL c = true from by simp [hle])
 have hlo : br c = false := by cases h : br c <;> simp_all [aL]
 have hup : upperB c = false := by cases h : upperB c <;> simp_all [aL]
 have HSg := Lib.hid (wL (l.drop k))
 have HG0 := Lib.hid (ar h0 HC0.out)
 have HT2 := Lib.hid (show T = if signLen (l.drop k) = 0 then (0, 0, 2) else (8, signLen (l.drop k), 0) from by
  rw [← HSg.out, HG0.out, ← HT.out, if_neg HA.out, if_neg HLt.out, if_neg HDg.out, if_neg HQt.out])
 obtain ⟨m, hm⟩ : ∃ m, signLen (l.drop k) = m := ⟨_, rfl⟩
 have HM := Lib.hid hm
 by_cases hm0 : m = 0
 ·have HW := Lib.hid (show T = (0, 0, 2) from by rw [HT2.out, HM.out, if_pos hm0])
  subst hm0
  go_wp2_with (first | (go_at_call 196; refine qmm (bg _ _) ?_) | (go_at_call 197; refine qmm (bb _ _) ?_) | (go_at_call 198; refine qmm (bH _ _) ?_) | (go_at_call 199; refine qmm (bm _ _) ?_) | (go_at_call 200; refine qmm (aF _ _) ?_) | (go_at_call 202; refine qmm (cy _ _ k rfl _ hlt hl) ?_))
  exact bodyPost_ret (v := .agg #[.int .i64 0, .int .i64 0, .int .i64 2, .int .i64 k]) (by simp [results, Tryz.results175, go_sem]) rfl (bz HW.out (by omega) (by omega) (by omega) (by repeat (first | exact Ext.refl _ | apply Ext.alloc | (refine Ext.setCell ?_ (Nat.le_refl _) _))))
 ·have HW := Lib.hid (show T = (8, m, 0) from by rw [HT2.out, HM.out, if_neg hm0])
  have hmb : ((m : Int) == 0) = false := by simp; omega
  go_wp2_with (first | (go_at_call 196; refine qmm (bg _ _) ?_) | (go_at_call 197; refine qmm (bb _ _) ?_) | (go_at_call 198; refine qmm (bH _ _) ?_) | (go_at_call 199; refine qmm (bm _ _) ?_) | (go_at_call 200; refine qmm (aF _ _) ?_) | (go_at_call 202; refine qmm (cy _ _ k rfl _ hlt hl) ?_))
  exact bodyPost_ret (v := .agg #[.int .i64 m, .int .i64 8, .int .i64 0, .int .i64 0]) (by simp [results, Tryz.results175, go_sem]) rfl (dy HW.out (by omega) (by omega) (by repeat (first | exact Ext.refl _ | apply Ext.alloc | (refine Ext.setCell ?_ (Nat.le_refl _) _))))
end Go.Proofs.YthnohcipianijaaGreatDoor
namespace Go.Proofs.YthnohcipianijaaGreatDoor
open Go.RowKit Lx
set_option maxRecDepth 100000
def tf (c : UInt8) : Int := Lib.indexByte signs c
theorem tY : ∀ (l : List UInt8) (c : UInt8), 0 ≤ Lib.indexByte l c ↔ l.contains c = true
 | [], c => by simp [Lib.indexByte]
 | b :: l, c => by
  have ih := tY l c
  have hg := Lib.indexByte_ge l c
  unfold Lib.indexByte
  by_cases h : b = c
  ·simp [h]
  ·have h' : ¬ c = b := fun e => h e.symm
   simp only [beq_iff_eq, h, if_false, List.contains_cons, h', Bool.or_eq_true, false_or]
   rw [← ih]
   split <;> omega
theorem jN (c : UInt8) : 0 ≤ tf c ↔ signs.contains c = true := tY _ _
theorem fS (c : UInt8) (w : World) : Calls Tryz.prog 121 #[.string ⟨#[40, 41, 91, 93, 58, 44, 61, 43, 45, 42, 60, 63]⟩, .int .u8 (c.toNat : Int)] w fun e w' => e = .returned (.int .i64 (tf c)) ∧ w = w' := by
 refine (vO _ _ w).mono ?_
 rintro e w' ⟨rfl, rfl⟩
 refine ⟨aS ?_, rfl⟩
 have : ((c.toNat : Int)).toNat.toUInt8 = c := by simp
 rw [this]; rfl
set_option maxHeartbeats 4000000 in
theorem Bx (l : List UInt8) (w : World) (h0 : 0 < l.length) (hl : l.length ≤ 281474976710656) : Calls Tryz.prog 74 #[.string ⟨l.toArray⟩] w fun e w' => e = .returned (.tuple #[.int .i64 ((tokenT l).1 : Nat), .int .i64 ((tokenT l).2.1 : Nat), .int .i64 ((tokenT l).2.2 : Nat)]) ∧ w = w' := by
 obtain ⟨c0, hc0⟩ : ∃ c, ({ data := l.toArray } : ByteArray)[0]'h0 = c := ⟨_, rfl⟩
 have HC0 := Lib.hid (show l[0] = c0 from hc0)
 have HT := Lib.hid (og h0 HC0.out)
 go_enter Tryz.func74, Tryz.ntmps74
 cases ha : aT c0
 ·skip
  have HW := Lib.hid (show tokenT l = (0, 0, 1) from by rw [HT.out, if_pos ha])
  go_wp2_with (first | (go_at_call 73; refine qmm (bE _ _) ?_) | (go_at_call 116; refine qmm (aR _ _) ?_) | (go_at_call 118; refine qmm (bT _ _) ?_) | (go_at_call 117; refine qmm (iI _ _ h0 hl) ?_) | (go_at_call 119; refine qmm (eE _ _ hl) ?_) | (go_at_call 120; refine qmm (eQ _ _ h0 hl) ?_) | (go_at_call 121; refine qmm (fS _ _) ?_))
  go_ret3
  exact ⟨by rw [HW.out]; rfl, rfl⟩
 have HA := Lib.hid (show ¬ aT c0 = false from by simp [ha])
 cases hle : aL c0
 rotate_left
 ·skip
  have HW := Lib.hid (show tokenT l = bn l from by rw [HT.out, if_neg HA.out, if_pos hle])
  go_wp2_with (first | (go_at_call 73; refine qmm (bE _ _) ?_) | (go_at_call 116; refine qmm (aR _ _) ?_) | (go_at_call 118; refine qmm (bT _ _) ?_) | (go_at_call 117; refine qmm (iI _ _ h0 hl) ?_) | (go_at_call 119; refine qmm (eE _ _ hl) ?_) | (go_at_call 120; refine qmm (eQ _ _ h0 hl) ?_) | (go_at_call 121; refine qmm (fS _ _) ?_))
  go_ret3
  exact ⟨by rw [HW.out]; rfl, rfl⟩
 have HL := Lib.hid (show ¬ aL c0 = true from by simp [hle])
 cases hd : aH c0
 rotate_left
 ·skip
  have HW := Lib.hid (show tokenT l = (5, dz l) from by rw [HT.out, if_neg HA.out, if_neg HL.out, if_pos hd])
  go_wp2_with (first | (go_at_call 73; refine qmm (bE _ _) ?_) | (go_at_call 116; refine qmm (aR _ _) ?_) | (go_at_call 118; refine qmm (bT _ _) ?_) | (go_at_call 117; refine qmm (iI _ _ h0 hl) ?_) | (go_at_call 119; refine qmm (eE _ _ hl) ?_) | (go_at_call 120; refine qmm (eQ _ _ h0 hl) ?_) | (go_at_call 121; refine qmm (fS _ _) ?_))
  go_ret3
  exact ⟨by rw [HW.out]; rfl, rfl⟩
 have HD := Lib.hid (show ¬ aH c0 = true from by simp [hd])
 cases h34 : ((c0.toNat : Int) == 34)
 rotate_left
 ·skip
  have HW := Lib.hid (show tokenT l = (6, quotedT l.tail 1) from by rw [HT.out, if_neg HA.out, if_neg HL.out, if_neg HD.out, if_pos (cN (m := 34) h34)])
  go_wp2_with (first | (go_at_call 73; refine qmm (bE _ _) ?_) | (go_at_call 116; refine qmm (aR _ _) ?_) | (go_at_call 118; refine qmm (bT _ _) ?_) | (go_at_call 117; refine qmm (iI _ _ h0 hl) ?_) | (go_at_call 119; refine qmm (eE _ _ hl) ?_) | (go_at_call 120; refine qmm (eQ _ _ h0 hl) ?_) | (go_at_call 121; refine qmm (fS _ _) ?_))
  go_ret3
  exact ⟨by rw [HW.out]; rfl, rfl⟩
 have HQ := Lib.hid (bp (m := 34) h34)
 cases h61 : ((c0.toNat : Int) == 61)
 ·skip
  have HE := Lib.hid (show ¬ (c0.toNat = 61 ∧ 1 < l.length ∧ (l.getD 1 0).toNat = 61) from fun h => bp (m := 61) h61 h.1)
  by_cases hs : 0 ≤ tf c0
  ·skip
   have HW := Lib.hid (show tokenT l = (8, 1, 0) from by rw [HT.out, if_neg HA.out, if_neg HL.out, if_neg HD.out, if_neg HQ.out, if_neg HE.out, if_pos ((jN c0).1 hs)])
   go_wp2_with (first | (go_at_call 73; refine qmm (bE _ _) ?_) | (go_at_call 116; refine qmm (aR _ _) ?_) | (go_at_call 118; refine qmm (bT _ _) ?_) | (go_at_call 117; refine qmm (iI _ _ h0 hl) ?_) | (go_at_call 119; refine qmm (eE _ _ hl) ?_) | (go_at_call 120; refine qmm (eQ _ _ h0 hl) ?_) | (go_at_call 121; refine qmm (fS _ _) ?_))
   go_ret3
   exact ⟨by rw [HW.out]; rfl, rfl⟩
  ·skip
   have HW := Lib.hid (show tokenT l = (0, 0, 2) from by rw [HT.out, if_neg HA.out, if_neg HL.out, if_neg HD.out, if_neg HQ.out, if_neg HE.out, if_neg (fun h => hs ((jN c0).2 h))])
   go_wp2_with (first | (go_at_call 73; refine qmm (bE _ _) ?_) | (go_at_call 116; refine qmm (aR _ _) ?_) | (go_at_call 118; refine qmm (bT _ _) ?_) | (go_at_call 117; refine qmm (iI _ _ h0 hl) ?_) | (go_at_call 119; refine qmm (eE _ _ hl) ?_) | (go_at_call 120; refine qmm (eQ _ _ h0 hl) ?_) | (go_at_call 121; refine qmm (fS _ _) ?_))
   go_ret3
   exact ⟨by rw [HW.out]; rfl, rfl⟩
 by_cases h1 : 1 < l.length
 rotate_left
 ·skip
  have HE := Lib.hid (show ¬ (c0.toNat = 61 ∧ 1 < l.length ∧ (l.getD 1 0).toNat = 61) from fun h => h1 h.2.1)
  by_cases hs : 0 ≤ tf c0
  ·skip
   have HW := Lib.hid (show tokenT l = (8, 1, 0) from by rw [HT.out, if_neg HA.out, if_neg HL.out, if_neg HD.out, if_neg HQ.out, if_neg HE.out, if_pos ((jN c0).1 hs)])
   go_wp2_with (first | (go_at_call 73; refine qmm (bE _ _) ?_) | (go_at_call 116; refine qmm (aR _ _) ?_) | (go_at_call 118; refine qmm (bT _ _) ?_) | (go_at_call 117; refine qmm (iI _ _ h0 hl) ?_) | (go_at_call 119; refine qmm (eE _ _ hl) ?_) | (go_at_call 120; refine qmm (eQ _ _ h0 hl) ?_) | (go_at_call 121; refine qmm (fS _ _) ?_))
   go_ret3
   exact ⟨by rw [HW.out]; rfl, rfl⟩
  ·skip
   have HW := Lib.hid (show tokenT l = (0, 0, 2) from by rw [HT.out, if_neg HA.out, if_neg HL.out, if_neg HD.out, if_neg HQ.out, if_neg HE.out, if_neg (fun h => hs ((jN c0).2 h))])
   go_wp2_with (first | (go_at_call 73; refine qmm (bE _ _) ?_) | (go_at_call 116; refine qmm (aR _ _) ?_) | (go_at_call 118; refine qmm (bT _ _) ?_) | (go_at_call 117; refine qmm (iI _ _ h0 hl) ?_) | (go_at_call 119; refine qmm (eE _ _ hl) ?_) | (go_at_call 120; refine qmm (eQ _ _ h0 hl) ?_) | (go_at_call 121; refine qmm (fS _ _) ?_))
   go_ret3
   exact ⟨by rw [HW.out]; rfl, rfl⟩
 obtain ⟨c1, hc1⟩ : ∃ c, ({ data := l.toArray } : ByteArray)[1]'h1 = c := ⟨_, rfl⟩
 have HC1 := Lib.hid (show l[1] = c1 from hc1)
 cases h62 : ((c1.toNat : Int) == 61)
 ·skip
  have HE := Lib.hid (show ¬ (c0.toNat = 61 ∧ 1 < l.length ∧ (l.getD 1 0).toNat = 61) from fun h => bp (m := 61) h62 (by rw [← ar h1 HC1.out]; exact h.2.2))
  by_cases hs : 0 ≤ tf c0
  ·skip
   have HW := Lib.hid (show tokenT l = (8, 1, 0) from by rw [HT.out, if_neg HA.out, if_neg HL.out, if_neg HD.out, if_neg HQ.out, if_neg HE.out, if_pos ((jN c0).1 hs)])
   go_wp2_with (first | (go_at_call 73; refine qmm (bE _ _) ?_) | (go_at_call 116; refine qmm (aR _ _) ?_) | (go_at_call 118; refine qmm (bT _ _) ?_) | (go_at_call 117; refine qmm (iI _ _ h0 hl) ?_) | (go_at_call 119; refine qmm (eE _ _ hl) ?_) | (go_at_call 120; refine qmm (eQ _ _ h0 hl) ?_) | (go_at_call 121; refine qmm (fS _ _) ?_))
   go_ret3
   exact ⟨by rw [HW.out]; rfl, rfl⟩
  ·skip
   have HW := Lib.hid (show tokenT l = (0, 0, 2) from by rw [HT.out, if_neg HA.out, if_neg HL.out, if_neg HD.out, if_neg HQ.out, if_neg HE.out, if_neg (fun h => hs ((jN c0).2 h))])
   go_wp2_with (first | (go_at_call 73; refine qmm (bE _ _) ?_) | (go_at_call 116; refine qmm (aR _ _) ?_) | (go_at_call 118; refine qmm (bT _ _) ?_) | (go_at_call 117; refine qmm (iI _ _ h0 hl) ?_) | (go_at_call 119; refine qmm (eE _ _ hl) ?_) | (go_at_call 120; refine qmm (eQ _ _ h0 hl) ?_) | (go_at_call 121; refine qmm (fS _ _) ?_))
   go_ret3
   exact ⟨by rw [HW.out]; rfl, rfl⟩
 ·skip
  have HW := Lib.hid (show tokenT l = (8, 2, 0) from by rw [HT.out, if_neg HA.out, if_neg HL.out, if_neg HD.out, if_neg HQ.out, if_pos ⟨cN (m := 61) h61, h1, by rw [ar h1 HC1.out]; exact cN (m := 61) h62⟩])
  go_wp2_with (first | (go_at_call 73; refine qmm (bE _ _) ?_) | (go_at_call 116; refine qmm (aR _ _) ?_) | (go_at_call 118; refine qmm (bT _ _) ?_) | (go_at_call 117; refine qmm (iI _ _ h0 hl) ?_) | (go_at_call 119; refine qmm (eE _ _ hl) ?_) | (go_at_call 120; refine qmm (eQ _ _ h0 hl) ?_) | (go_at_call 121; refine qmm (fS _ _) ?_))
  go_ret3
  exact ⟨by rw [HW.out]; rfl, rfl⟩
end Go.Proofs.YthnohcipianijaaGreatDoor
namespace Go.Proofs.YthnohcipianijaaGreatDoor
open Go.RowKit Lx
set_option maxRecDepth 100000
set_option maxHeartbeats 1000000 in
theorem Bu (l : List UInt8) (w : World) (hl : l.length ≤ 281474976710656) : Calls Tryz.prog 143 #[.string ⟨l.toArray⟩] w fun e w' => e = .returned (.int .i64 (be l : Nat)) ∧ w = w' := by
 by_cases h0 : l = []
 ·subst h0
  go_enter Tryz.func143, Tryz.ntmps143
  go_wp2
  go_ret
  exact ⟨rfl, rfl⟩
 ·have hb1 : (l == []) = false := by simpa using h0
  have hb2 : l.isEmpty = false := by simpa using h0
  have hpos : 0 < l.length := List.length_pos_iff.2 h0
  obtain ⟨k, n, e, hT⟩ : ∃ k n e, tokenT l = (k, n, e) := ⟨_, _, _, rfl⟩
  have HT := Lib.hid hT
  have HC := Lib.hid (show be l = if e = 0 ∧ n = l.length then k else 0 from by simp only [be, if_neg h0, hT])
  clear hT h0
  go_enter Tryz.func143, Tryz.ntmps143
  go_wp2_with fail
  refine (Bx _ _ hpos hl).mono ?_
  rintro e0 w' ⟨rfl, rfl⟩
  rw [HT.out]
  by_cases he : e = 0
  ·subst he
   by_cases hn : n = l.length
   ·have hnb : ((n : Int) != (l.length : Int)) = false := by simp; omega
    have HR := Lib.hid (HC.out.trans (if_pos ⟨rfl, hn⟩))
    clear hn
    go_wp2
    go_ret
    exact ⟨aS (by rw [HR.out]), rfl⟩
   ·have hnb : ((n : Int) != (l.length : Int)) = true := by simp; omega
    have HR := Lib.hid (HC.out.trans (if_neg (fun h => hn h.2)))
    clear hn
    go_wp2
    go_ret
    exact ⟨aS (by rw [HR.out]; rfl), rfl⟩
  ·have heb : ((e : Int) != 0) = true := by simp; omega
   have HR := Lib.hid (HC.out.trans (if_neg (fun h => he h.1)))
   go_wp2
   go_ret
   exact ⟨aS (by rw [HR.out]; rfl), rfl⟩
theorem om {l : List UInt8} {c : UInt8} (h0 : 0 < l.length) (hc : l[0] = c) (h : dK c = true ∨ c.toNat = 35) : tokenT l = (0, 0, 2) := by
 have hv : c.toNat = 9 ∨ c.toNat = 10 ∨ c.toNat = 13 ∨ c.toNat = 32 ∨ c.toNat = 35 := by
  rcases h with h | h
  ·simp [dK] at h; omega
  ·omega
 have ha : aT c = true := by
  rcases hv with h | h | h | h | h <;> simp [aT, dK, cH, h]
 have hs : signs.contains c = false := by
  have h : ∀ n : UInt8, (c == n) = (c.toNat == n.toNat) := fun n => by rw [Bool.eq_iff_iff]; simp [UInt8.toNat_inj]
  simp only [signs, List.contains_cons, List.contains_nil, Bool.or_false, h]
  rcases hv with h | h | h | h | h <;> rw [h] <;> rfl
 rw [og h0 hc, if_neg (by simp [ha]), if_neg (by simp [aL, br, upperB]; omega), if_neg (by simp [aH]; omega), if_neg (by omega), if_neg (by omega), if_neg (by rw [hs]; simp)]
set_option maxHeartbeats 1000000 in
theorem AT (l : List UInt8) (w : World) (hl : l.length ≤ 281474976710656) : Calls Tryz.prog 140 #[.string ⟨l.toArray⟩] w fun e w' => e = .returned (.int .i64 (be l : Nat)) ∧ Ext w w' := by
 by_cases h0 : l = []
 ·subst h0
  go_enter Tryz.func140, Tryz.ntmps140
  go_wp2
  go_ret
  exact ⟨rfl, Ext.refl _⟩
 ·have hb1 : (l == []) = false := by simpa using h0
  have hb2 : l.isEmpty = false := by simpa using h0
  have hpos : 0 < l.length := List.length_pos_iff.2 h0
  obtain ⟨k, n, e, hT⟩ : ∃ k n e, tokenT l = (k, n, e) := ⟨_, _, _, rfl⟩
  have HT := Lib.hid hT
  have HC := Lib.hid (show be l = if e = 0 ∧ n = l.length then k else 0 from by simp only [be, if_neg h0, hT])
  clear hT h0
  obtain ⟨c, hc⟩ : ∃ c, ({ data := l.toArray } : ByteArray)[0]'hpos = c := ⟨_, rfl⟩
  have HC0 := Lib.hid (show l[0] = c from hc)
  cases hw : dK c
  rotate_left
  ·have hz : (k, n, e) = (0, 0, 2) := HT.out.symm.trans (om hpos HC0.out (.inl hw))
   have HR := Lib.hid (show be l = 0 from by simp only [Prod.mk.injEq] at hz; rw [HC.out, if_neg (by omega)])
   clear hz
   go_enter Tryz.func140, Tryz.ntmps140
   go_wp2_with (first | (go_at_call 174; refine qmm (pW _ _) ?_))
   go_ret
   exact ⟨aS (by rw [HR.out]; rfl), Ext.refl _⟩
  cases h35 : ((c.toNat : Int) == 35)
  rotate_left
  ·have hz : (k, n, e) = (0, 0, 2) := HT.out.symm.trans (om hpos HC0.out (.inr (cN (m := 35) h35)))
   have HR := Lib.hid (show be l = 0 from by simp only [Prod.mk.injEq] at hz; rw [HC.out, if_neg (by omega)])
   clear hz
   go_enter Tryz.func140, Tryz.ntmps140
   go_wp2_with (first | (go_at_call 174; refine qmm (pW _ _) ?_))
   go_ret
   exact ⟨aS (by rw [HR.out]; rfl), Ext.refl _⟩
  have CN := Lib.hid (fun w => Cl l 0 0 rfl w hpos hl)
  go_enter Tryz.func140, Tryz.ntmps140
  go_wp2_with (first | (go_at_call 174; refine qmm (pW _ _) ?_))
  refine (CN.out _).mono ?_
  rintro e0 w1 ⟨rfl, hext⟩
  rw [List.drop_zero, HT.out]
  have HX := Lib.hid hext; clear hext CN
  by_cases he : e = 0
  ·subst he
   have HI := Lib.hid (show lu 0 (k, n, 0) = .agg #[.int .i64 n, .int .i64 k, .int .i64 0, .int .i64 0] from by simp [lu])
   rw [HI.out]
   clear HI
   by_cases hn : n = l.length
   ·have hnb : ((n : Int) != (l.length : Int)) = false := by simp; omega
    have HR := Lib.hid (HC.out.trans (if_pos ⟨rfl, hn⟩))
    clear hn
    go_wp2
    go_ret
    exact ⟨aS (by rw [HR.out]), HX.out.alloc _⟩
   ·have hnb : ((n : Int) != (l.length : Int)) = true := by simp; omega
    have HR := Lib.hid (HC.out.trans (if_neg (fun h => hn h.2)))
    clear hn
    go_wp2
    go_ret
    exact ⟨aS (by rw [HR.out]; rfl), HX.out.alloc _⟩
  ·have HI := Lib.hid (show lu 0 (k, n, e) = .agg #[.int .i64 0, .int .i64 0, .int .i64 e, .int .i64 ((0 + n : Nat) : Int)] from by simp [lu, he])
   rw [HI.out]
   clear HI
   have heb : ((e : Int) != 0) = true := by simp; omega
   have HR := Lib.hid (HC.out.trans (if_neg (fun h => he h.1)))
   go_wp2
   go_ret
   exact ⟨aS (by rw [HR.out]; rfl), HX.out.alloc _⟩
end Go.Proofs.YthnohcipianijaaGreatDoor
namespace Go.Proofs.YthnohcipianijaaGreatDoor
open Go.RowKit Lx Sx
theorem sum0_calls {fid : FuncId} {us : List V} {v : V} (hp1 : pureL us = true) (hp2 : v.pure = true) (h : ∀ (S : Nat → Prop) w ρ xs, LRel S w ρ us xs → Calls Tryz.prog fid xs.toArray w fun e w' => ∃ x, e = .returned x ∧ VRel S w' ρ v x ∧ Chg [] w w') : lN Tryz.prog fid us v :=
 ⟨hp1, hp2, fun S w ρ xs hr hx => (h S w ρ xs hx).mono fun e w' ⟨x, h1, h2, hc⟩ =>
  ⟨x, S, ρ, v, _, h1, rfl, hr.chg0 hc, ⟨ChgP.of0 hc, fun _ h => h, fun _ h => .inl h, fun id b hb => .inl ⟨id, hb⟩, fun id x h => by
   simp only [pq] at h
   split at h
   ·exact h
   ·cases h⟩, h2⟩⟩
theorem uu {w w' : World} (h : Ext w w') : Chg [] w w' := Chg.of_ext h []
theorem zO (l : List UInt8) (hl : l.length ≤ 281474976710656) : lN Tryz.prog 143 [.str l] (.int .i64 (be l : Nat)) :=
 sum0_calls rfl rfl fun S w ρ xs hx => by
  simp only [LRel] at hx
  obtain ⟨x, ys, rfl, h1, rfl⟩ := hx
  simp only [VRel] at h1; subst h1
  exact (Bu l w hl).mono fun e w' ⟨h1, h2⟩ => ⟨_, h1, by simp only [VRel], h2 ▸ Chg.refl _ _⟩
theorem xY (l : List UInt8) (hl : l.length ≤ 281474976710656) : lN Tryz.prog 140 [.str l] (.int .i64 (be l : Nat)) :=
 sum0_calls rfl rfl fun S w ρ xs hx => by
  simp only [LRel] at hx
  obtain ⟨x, ys, rfl, h1, rfl⟩ := hx
  simp only [VRel] at h1; subst h1
  exact (AT l w hl).mono fun e w' ⟨h1, h2⟩ => ⟨_, h1, by simp only [VRel], uu h2⟩
end Go.Proofs.YthnohcipianijaaGreatDoor
namespace Go.Proofs.YthnohcipianijaaGreatDoor
open Go.RowKit Lx Sx
def lsum : List (List UInt8) → Nat
 | [] => 0
 | l :: r => l.length + 1 + lsum r
mutual
def tbulk : Tree → Nat
 | .node _ s ls ks => s.length + lsum ls + kbulk ks + 1
def kbulk : List Tree → Nat
 | [] => 0
 | t :: r => tbulk t + kbulk r
end
theorem rj (t : Tree) : 0 < tbulk t := by cases t; simp only [tbulk]; omega
theorem du : ∀ (ks : List Tree), ks.length ≤ kbulk ks
 | [] => Nat.le_refl _
 | t :: r => by have := du r; have := rj t; simp only [kbulk, List.length_cons]; omega
theorem bY : ∀ {ks : List Tree} {i : Nat} {t : Tree}, ks[i]? = some t → tbulk t ≤ kbulk ks
 | [], i, t, h => by simp at h
 | u :: r, 0, t, h => by simp only [List.getElem?_cons_zero, Option.some.injEq] at h; subst h; simp only [kbulk]; omega
 | u :: r, i + 1, t, h => by have := bY (ks := r) (i := i) (by simpa using h); simp only [kbulk]; omega
theorem jE (t : Tree) : tbulk t = t.text.length + lsum t.leads + kbulk t.kids + 1 := by cases t; simp [tbulk, Tree.text, Tree.leads, Tree.kids]
theorem bj {t u : Tree} {i : Nat} (h : t.kids[i]? = some u) : tbulk u < tbulk t := by
 have := bY h; rw [jE t]; omega
theorem dg (t : Tree) : t.kids.length < tbulk t := by
 have := du t.kids; rw [jE t]; omega
theorem jH (t : Tree) : t.text.length < tbulk t := by rw [jE t]; omega
theorem kZ {C : Tree → Prop} (h : ∀ t : Tree, (∀ (i : Nat) (u : Tree), t.kids[i]? = some u → C u) → C t) : ∀ t, C t := fun t => by
 have : ∀ n t, tbulk t ≤ n → C t := fun n => by
  induction n with
  | zero => intro t ht; have := rj t; omega
  | succ n ih => intro t ht; exact h t fun i u hu => ih u (by have := bj hu; omega)
 exact this _ t (Nat.le_refl _)
theorem aE {α : Type} (l : List α) (i : Nat) : (∃ x, l[i]? = some x ∧ i < l.length) ∨ (¬ i < l.length) := by
 by_cases h : i < l.length
 ·exact .inl ⟨l[i], by simp [h], h⟩
 ·exact .inr h
theorem aI {α : Type} {l : List α} {i : Nat} {x : α} (h : l[i]? = some x) : l.drop i = x :: l.drop (i + 1) := by
 obtain ⟨hl, rfl⟩ := List.getElem?_eq_some_iff.1 h
 exact List.drop_eq_getElem_cons hl
end Go.Proofs.YthnohcipianijaaGreatDoor
namespace Go.Proofs.YthnohcipianijaaGreatDoor
open Go.RowKit Lx Sx
set_option maxHeartbeats 1000000
def f0 (n : Int) (least leads list : Nat) (most : Int) : Int := if 0 ≤ most ∧ most < n then -1 else if n < least then -1 else if most < 0 ∧ (list : Int) < n then leads + (n - list - 1) else leads
def pd (k n : Int) : Int := if k = 1 then (if n < 0 then -1 else 3) else if k = 2 then f0 n 2 6 2 (-1) else if k = 16 then f0 n 0 3 0 (-1) else if k = 18 then f0 n 1 2 0 (-1) else if k = 3 then f0 n 1 3 0 1 else if k = 4 then f0 n 1 2 0 1 else if k = 8 then f0 n 1 2 0 1 else if k = 22 then f0 n 1 2 0 1 else if k = 17 then f0 n 1 0 0 1 else if k = 19 then f0 n 3 3 0 3 else if k = 20 then f0 n 2 4 0 2 else if k = 21 then f0 n 2 1 0 2 else if k = 5 ∨ k = 6 ∨ k = 7 ∨ k = 9 ∨ k = 10 ∨ k = 11 ∨ k = 12 ∨ k = 13 ∨ k = 14 ∨ k = 15 then f0 n 0 1 0 0 else -1
theorem ll (a b c : Int) : cJ a b c (if a < b then -1 else c) := oQ 0 _ _ _ _ ⟨fun h => by rw [if_pos h], fun h => by rw [if_neg h]⟩
theorem AS (a b c : Int) : bk a b c (if a = b then c else -1) := nA 0 _ _ _ _ ⟨fun h => by rw [if_pos h], fun h => by rw [if_neg h]⟩
theorem Aq (m : Nat) {n : Int} (h0 : 0 ≤ n) (h1 : n ≤ 1000000000) (a b c : Nat) (z : Int) (hb : b ≤ 10) (hc : c ≤ 2) (hz : ¬ (0 ≤ z ∧ z < n)) : fM (m + 1) n a b c z (f0 n a b c z) := by
 refine pE m _ _ _ _ _ _ ⟨fun h => ⟨fun h' => ⟨by omega, by omega, by omega, _, ll _ _ _, ?_⟩, fun h' => ⟨_, ll _ _ _, ?_⟩⟩, fun h => ⟨_, ll _ _ _, ?_⟩⟩
 ·simp only [f0, if_neg hz, h, h', true_and, if_true]
 ·simp only [f0, if_neg hz, h, h', true_and, if_false]
 ·simp only [f0, if_neg hz, h, false_and, if_false]
theorem AW (m : Nat) {n : Int} (h0 : 0 ≤ n) (h1 : n ≤ 1000000000) (a b c : Nat) (z : Int) (hb : b ≤ 10) (hc : c ≤ 2) : aw (m + 2) n a b c z (f0 n a b c z) := by
 refine px (m + 1) _ _ _ _ _ _ ⟨fun h => ⟨fun h' => ?_, fun h' => Aq m h0 h1 _ _ _ _ hb hc (by omega)⟩, fun h => Aq m h0 h1 _ _ _ _ hb hc (by omega)⟩
 simp [f0, h, h']
theorem zV {k n : Int} (h0 : 0 ≤ n) (h1 : n ≤ 1000000000) : jq k n (pd k n) := by
 have l0 : ∀ {r : Int} (a b c : Nat) (z : Int), b ≤ 10 → c ≤ 2 → r = f0 n a b c z → aw 3 n a b c z r := fun a b c z hb hc e => by rw [e]; exact AW 1 h0 h1 a b c z hb hc
 have l0' : ∀ {r : Int} (a b c : Nat) (z : Int), b ≤ 10 → c ≤ 2 → r = f0 n a b c z → aw 4 n a b c z r := fun a b c z hb hc e => by rw [e]; exact AW 2 h0 h1 a b c z hb hc
 refine pU 4 _ _ _ ?_
 repeat' first | (refine ⟨_, ll _ _ _, ?_⟩) | (refine And.intro (fun _ => ?_) (fun _ => ?_)) | (refine pC 3 _ _ _ _ ?_)
 all_goals first | (refine l0' _ _ _ _ (by decide) (by decide) ?_) | (refine l0 _ _ _ _ (by decide) (by decide) ?_) | skip
 all_goals simp_all [pd]
theorem ya {k n : Int} (h0 : 0 ≤ n) (h1 : n ≤ 1000000000) : fB k n (pd k n) := by
 refine nh 2 _ _ _ ?_
 repeat' first | (refine ⟨_, AS _ _ _, ?_⟩) | (refine And.intro (fun _ => ?_) (fun _ => ?_)) | (refine mz 1 _ _ _ _ ?_) | (refine mi 0 _ _ _ _ ?_) | (refine And.intro (by omega) ?_)
 all_goals simp_all [pd]
 all_goals (try unfold f0)
 all_goals (repeat' split)
 all_goals omega
def oH (x : List UInt8) : Bool := x == [43] || x == [45] || x == [42] || x == [60] || x == [61, 61]
def ga (k : Int) (x : List UInt8) : Bool := if k = 1 ∨ k = 3 then (be x : Int) == 2 else if k = 2 ∨ k = 4 ∨ k = 12 ∨ k = 20 then (be x : Int) == 1 else if k = 9 then (be x : Int) == 2 || (be x : Int) == 4 else if k = 16 then (be x : Int) == 1 || (be x : Int) == 3 else if k = 10 then (be x : Int) == 5 else if k = 11 then (be x : Int) == 6 else if k = 21 then oH x else x == []
theorem vi (x : List UInt8) : gm x (oH x) := by
 refine nW 0 _ _ ?_
 repeat' (refine And.intro (fun _ => ?_) (fun _ => ?_))
 all_goals simp_all [oH]
theorem tK (x : List UInt8) : dH x (oH x) := by
 refine kq 0 _ _ ?_
 repeat' (refine And.intro (fun _ => ?_) (fun _ => ?_))
 all_goals simp_all [oH]
theorem yH (k : Int) (x : List UInt8) (hx : x.length ≤ 281474976710656) : iC k x (ga k x) := by
 refine pf 2 _ _ _ ?_
 refine ⟨_, zO x hx, ?_⟩
 repeat' first | (refine ⟨_, vi _, ?_⟩) | (refine And.intro (fun _ => ?_) (fun _ => ?_)) | (refine oN 1 _ _ _ _ _ ?_) | (refine oR 0 _ _ _ _ _ ?_)
 all_goals simp_all [ga]
theorem xr (k : Int) (x : List UInt8) (hx : x.length ≤ 281474976710656) : eo k x (ga k x) := by
 refine ld 2 _ _ _ ?_
 refine ⟨_, xY x hx, ?_⟩
 repeat' first | (refine ⟨_, tK _, ?_⟩) | (refine And.intro (fun _ => ?_) (fun _ => ?_)) | (refine kP 1 _ _ _ _ _ ?_) | (refine kC 0 _ _ _ _ _ ?_)
 all_goals simp_all [ga]
def lp (k : Int) : Bool := decide (5 ≤ k ∧ k ≤ 9)
def dQ (k : Int) : Bool := decide (10 ≤ k ∧ k ≤ 22 ∧ k ≠ 17)
def oC (k : Int) : Bool := dQ k && decide (k ≠ 19 ∧ k ≠ 20 ∧ k ≠ 21)
theorem yD (k : Int) : fK k (lp k) := pr 0 _ _ ⟨fun h => by simp [lp, h], fun h => by simp [lp, h]⟩
theorem wJ (k : Int) : dr k (lp k) := lW 0 _ _ ⟨fun h => by simp [lp, h], fun h => by simp [lp, h]⟩
theorem oI (a b : Int) : (a != b) = decide (a ≠ b) := by by_cases h : a = b <;> simp [h]
theorem sD (k : Int) : cf k (dQ k) := lM 0 _ _ ⟨fun h => ⟨fun h' => by simp [dQ, h, h', oI], fun h' => by simp [dQ, h, h']⟩, fun h => by simp [dQ, h]⟩
theorem rg (k : Int) : co k (dQ k) := mf 0 _ _ ⟨fun h => ⟨fun h' => by simp [dQ, h, h', oI], fun h' => by simp [dQ, h, h']⟩, fun h => by simp [dQ, h]⟩
theorem xw (k : Int) : iV k (oC k) := by
 refine pB 0 _ _ ⟨_, sD k, ?_⟩
 repeat' (refine And.intro (fun _ => ?_) (fun _ => ?_))
 all_goals simp_all [oC, oI]
theorem wK (k : Int) : fq k (oC k) := by
 refine mn 0 _ _ ⟨_, rg k, ?_⟩
 repeat' (refine And.intro (fun _ => ?_) (fun _ => ?_))
 all_goals simp_all [oC, oI]
def iY (k n : Int) (i : Int) (kk : Int) : Bool := if k = 1 then kk == 2 || kk == 3 else if k = 2 then (if i = n - 1 then dQ kk else if i = n - 2 then lp kk else kk == 4) else if k = 3 ∨ k = 4 ∨ k = 8 then lp kk else if k = 16 then kk == 17 else if k = 21 then oC kk || (decide (i = 0) && kk == 21) else dQ kk
theorem zM {t u : Tree} {i : Nat} (hu : t.kids[i]? = some u) : jx t i (iY t.kind t.kids.length i u.kind) := by
 refine pS 1 _ _ _ ⟨i, rfl, u, hu, ?_⟩
 repeat' first | (refine ⟨_, sD _, ?_⟩) | (refine ⟨_, yD _, ?_⟩) | (refine ⟨_, xw _, ?_⟩) | (refine And.intro (fun _ => ?_) (fun _ => ?_)) | (refine po 0 _ _ _ _ _ ?_)
 all_goals simp_all [iY]
theorem BM (t : Tree) (i : Nat) (kk : Int) : gn t i kk (iY t.kind t.kids.length i kk) := by
 refine nY 1 _ _ _ _ ?_
 repeat' first | (refine ⟨_, rg _, ?_⟩) | (refine ⟨_, wJ _, ?_⟩) | (refine ⟨_, wK _, ?_⟩) | (refine And.intro (fun _ => ?_) (fun _ => ?_)) | (refine ny 0 _ _ _ _ _ ?_)
 all_goals simp_all [iY]
mutual
def shapeK : Tree → Bool
 | .node k s _ ks => decide (0 ≤ pd k ks.length) && ga k s && shapeKs k ks.length 0 ks
def shapeKs (k n : Int) : Nat → List Tree → Bool
 | _, [] => true
 | i, t :: r => iY k n i t.kind && shapeK t && shapeKs k n (i + 1) r
end
theorem cc (t : Tree) : shapeK t = (decide (0 ≤ pd t.kind t.kids.length) && ga t.kind t.text && shapeKs t.kind t.kids.length 0 t.kids) := by cases t; simp only [shapeK]; rfl
theorem si : ∀ t : Tree, tbulk t ≤ 1000000000 → ea t (shapeK t) := kZ fun t ih hb => by
 have hk := dg t
 have ht := jH t
 have loop : ∀ m i, t.kids.length - i ≤ m → (0 ≤ pd t.kind t.kids.length ∧ ga t.kind t.text = true) → fk (m + 1) t i (shapeKs t.kind t.kids.length i (t.kids.drop i)) := fun m => by
  induction m with
  | zero =>
   intro i hi hw
   refine kg 0 _ _ _ ⟨fun h => by omega, fun h => ?_⟩
   rw [List.drop_of_length_le (by omega), shapeKs]
  | succ m ihm =>
   intro i hi hw
   refine kg (m + 1) _ _ _ ⟨fun h => ?_, fun h => ?_⟩
   ·obtain ⟨u, hu, _⟩ | h' := aE t.kids i
    ·rw [aI hu, shapeKs]
     have hbu := bj hu
     refine ⟨u, hu, _, zM hu, fun h1 => by simp [h1], fun h1 => ⟨_, ih i u hu (by omega), fun h2 => by simp [h1, h2], fun h2 => ⟨by omega, ?_⟩⟩⟩
     simp only [h1, h2, Bool.true_and]
     exact ihm (i + 1) (by omega) hw
    ·exact absurd h h'
   ·rw [List.drop_of_length_le (by omega), shapeKs]
 rw [cc]
 refine pH (t.kids.length + 1) _ _ ⟨_, zV (by omega) (by omega), fun h => ?_, fun h => ⟨_, yH _ _ (by omega), fun h1 => by simp [h1], fun h1 => ?_⟩⟩
 ·rw [decide_eq_false (by omega)]; rfl
 ·rw [decide_eq_true (by omega), h1]
  exact loop _ 0 (by omega) ⟨by omega, h1⟩
theorem wf : ∀ t : Tree, tbulk t ≤ 1000000000 → dm t (shapeK t) := kZ fun t ih hb => by
 have hk := dg t
 have ht := jH t
 have loop : ∀ m i, t.kids.length - i ≤ m → cZ (m + 1) t i (shapeKs t.kind t.kids.length i (t.kids.drop i)) := fun m => by
  induction m with
  | zero =>
   intro i hi
   refine gy 0 _ _ _ ⟨fun h => by omega, fun h => ?_⟩
   rw [List.drop_of_length_le (by omega), shapeKs]
  | succ m ihm =>
   intro i hi
   refine gy (m + 1) _ _ _ ⟨fun h => ?_, fun h => ?_⟩
   ·obtain ⟨u, hu, _⟩ | h' := aE t.kids i
    ·rw [aI hu, shapeKs]
     have hbu := bj hu
     refine ⟨u, hu, _, BM _ _ _, fun h1 => by simp [h1], fun h1 => ⟨u, hu, _, ih i u hu (by omega), fun h2 => by simp [h1, h2], fun h2 => ?_⟩⟩
     simp only [h1, h2, Bool.true_and]
     exact ihm (i + 1) (by omega)
    ·exact absurd h h'
   ·rw [List.drop_of_length_le (by omega), shapeKs]
 rw [cc]
 refine ms (t.kids.length + 1) _ _ ⟨_, ya (by omega) (by omega), fun h => ?_, fun h => ⟨_, xr _ _ (by omega), fun h1 => by simp [h1], fun h1 => ?_⟩⟩
 ·rw [decide_eq_false (by omega)]; rfl
 ·rw [decide_eq_true (by omega), h1]
  exact loop _ 0 (by omega)
end Go.Proofs.YthnohcipianijaaGreatDoor
namespace Go.Proofs.YthnohcipianijaaGreatDoor
open Go.RowKit
set_option maxRecDepth 100000
set_option maxHeartbeats 1000000 in
theorem uy (s : ByteArray) (c : Int) (w : World) : Calls Tryz.prog 163 #[.string s, .int .u8 c] w fun e w' => e = .returned (.int .i64 (Lib.indexByte s.data.toList c.toNat.toUInt8)) ∧ w = w' := by
 go_enter Tryz.func163, Tryz.ntmps163
 go_wp2
 rw [run_callFunc_extern Tryz.func185 (by kernel_rfl) (by kernel_rfl) (by kernel_rfl) (e := Extern.BytealgIndexByte.indexByte) (by kernel_rfl), Lib.run_indexByteString]
 simp only [Result.andThen]
 rw [Oper.upon_value]
 go_wp2
 go_ret
 exact ⟨rfl, rfl⟩
theorem vF (s : ByteArray) (c : Int) (w : World) : Calls Tryz.prog 121 #[.string s, .int .u8 c] w fun e w' => e = .returned (.int .i64 (Lib.indexByte s.data.toList c.toNat.toUInt8)) ∧ w = w' := by
 go_enter Tryz.func121, Tryz.ntmps121
 go_wp2_with (go_at_call 163; refine qmm (uy _ _ _) ?_)
 go_ret
 exact ⟨rfl, rfl⟩
end Go.Proofs.YthnohcipianijaaGreatDoor
namespace Go.Proofs.YthnohcipianijaaGreatDoor
open Go.RowKit Lx Sx
set_option maxHeartbeats 1000000
def aX (s : List UInt8) : List Tree → Nat → Int
 | [], _ => -1
 | t :: r, i => if t.text = s then (i : Int) else aX s r (i + 1)
theorem kE (s : List UInt8) : ∀ (l : List Tree) (i : Nat), aX s l i = -1 ∨ ∃ k t, aX s l i = ((i + k : Nat) : Int) ∧ l[k]? = some t ∧ t.text = s ∧ ∀ j u, j < k → l[j]? = some u → u.text ≠ s
 | [], i => .inl rfl
 | t :: r, i => by
  simp only [aX]
  split
  ·rename_i h
   exact .inr ⟨0, t, rfl, rfl, h, fun j u hj _ => by omega⟩
  ·rename_i h
   rcases kE s r (i + 1) with h1 | ⟨k, u, h1, h2, h3, h4⟩
   ·exact .inl h1
   ·refine .inr ⟨k + 1, u, by rw [h1]; congr 1; omega, by simpa using h2, h3, fun j x hj hx => ?_⟩
    cases j with
    | zero => simp at hx; subst hx; exact h
    | succ j => exact h4 j x (by omega) (by simpa using hx)
theorem xO (t : Tree) (s : List UInt8) : jo t s (t.text == s) := pM 0 _ _ _ rfl
theorem tM (l : List Tree) (s : List UInt8) (hl : l.length ≤ 1000000000) : fX l s (aX s l 0) := by
 have loop : ∀ m i, l.length - i ≤ m → dO (m + 1) l s i (aX s (l.drop i) i) := fun m => by
  induction m with
  | zero =>
   intro i hi
   refine iG 0 _ _ _ _ ⟨fun h => by omega, fun h => ?_⟩
   rw [List.drop_of_length_le (by omega), aX]
  | succ m ihm =>
   intro i hi
   refine iG (m + 1) _ _ _ _ ⟨fun h => ?_, fun h => ?_⟩
   ·obtain ⟨u, hu, _⟩ | h' := aE l i
    ·rw [aI hu, aX]
     refine ⟨u, hu, _, xO u s, fun h1 => ?_, fun h1 => ⟨by omega, ?_⟩⟩
     ·rw [if_pos (by simpa using h1)]
     ·rw [if_neg (by simpa using h1)]; exact ihm (i + 1) (by omega)
    ·exact absurd h h'
   ·rw [List.drop_of_length_le (by omega), aX]
 exact nG _ _ _ _ (loop l.length 0 (by omega))
theorem uL (l : List Tree) (s : List UInt8) (hl : l.length ≤ 1000000000) : iE l s (aX s l 0) := rB 0 _ _ _ ⟨_, tM l s hl, rfl⟩
def cn : List UInt8 → Nat → Int
 | [], _ => -1
 | c :: r, i => if c = 46 then (i : Int) else cn r (i + 1)
theorem no : ∀ (l : List UInt8) (i : Nat), cn l i = -1 ∨ ∃ k, cn l i = ((i + k : Nat) : Int) ∧ k < l.length
 | [], i => .inl rfl
 | c :: r, i => by
  simp only [cn]
  split
  ·exact .inr ⟨0, rfl, by simp⟩
  ·rcases no r (i + 1) with h1 | ⟨k, h1, h2⟩
   ·exact .inl h1
   ·exact .inr ⟨k + 1, by rw [h1]; congr 1; omega, by simp; omega⟩
theorem yO (c : UInt8) : ∀ (l : List UInt8), -1 ≤ Lib.indexByte l c
 | [] => by simp [Lib.indexByte]
 | b :: r => by
  have := yO c r
  simp only [Lib.indexByte]
  split
  ·omega
  ·split <;> omega
theorem np : ∀ (l : List UInt8) (i : Nat), cn l i = if Lib.indexByte l 46 = -1 then -1 else Lib.indexByte l 46 + (i : Int)
 | [], i => by simp [cn, Lib.indexByte]
 | c :: r, i => by
  have ih := np r (i + 1)
  have := yO 46 r
  simp only [cn, Lib.indexByte, ih]
  by_cases h : c = 46
  ·simp [h]
  ·have h' : (c == 46) = false := by simpa using h
   simp only [if_neg h, h']
   by_cases h2 : Lib.indexByte r 46 = -1
   ·simp [h2]
   ·have h3 : (Lib.indexByte r 46 == -1) = false := by simpa using h2
    simp only [if_neg h2, h3, Bool.false_eq_true, if_false]
    rw [if_neg (by omega)]; omega
theorem tI (l : List UInt8) : dD l 46 (cn l 0) := sum0_calls rfl rfl fun S w ρ xs hx => by
 simp only [LRel] at hx
 obtain ⟨x, ys, rfl, h1, y, zs, rfl, h2, rfl⟩ := hx
 simp only [VRel] at h1 h2; subst h1 h2
 refine (uy _ _ w).mono fun e w' ⟨h1, h2⟩ => ⟨_, h1, ?_, h2 ▸ Chg.refl _ _⟩
 simp only [VRel]
 have e : cn l 0 = Lib.indexByte l 46 := by
  rw [np]; split
  ·rename_i h; rw [h]
  ·simp
 rw [e]; rfl
theorem zk (l : List UInt8) : bX l (cn l 0) := by
 refine gD 1 _ _ ⟨fun h => ?_, fun h => gr 0 _ _ ?_⟩
 ·subst h; rfl
 ·exact ⟨_, tI l, rfl⟩
theorem AF (l : List UInt8) (hl : l.length ≤ 1000000000) : gu l (if 0 ≤ cn l 0 then l.take (cn l 0).toNat else l) (if 0 ≤ cn l 0 then l.drop ((cn l 0).toNat + 1) else []) (decide (0 ≤ cn l 0)) := by
 refine nM 0 _ _ _ _ ⟨_, _, _, ?_, rfl, rfl, rfl⟩
 refine ii 0 _ _ _ _ ⟨_, zk l, fun h => ?_, fun h => ?_⟩
 ·rcases no l 0 with h1 | ⟨k, h1, h2⟩
  ·rw [h1] at h; omega
  ·rw [h1]
   exact ⟨k, by simp, by omega, by omega, k + 1, by simp, by omega, by simp, by simp, by simp⟩
 ·simp [h]
def inK (p : List Tree) (m : Int) (w : List UInt8) : Int × Int × Bool := if m < 0 then (0, 0, false) else match p[m.toNat]? with
 | none => (0, 0, false)
 | some t => if aX w t.kids 0 < 0 then (0, 0, false) else (m, aX w t.kids 0, true)
def az (p : List Tree) (m : Int) (w : List UInt8) : Int × Int × Bool := if 0 ≤ cn w 0 then inK p (aX (w.take (cn w 0).toNat) p 0) (w.drop ((cn w 0).toNat + 1)) else inK p m w
theorem uK {p : List Tree} {m : Int} {w : List UInt8} (hm : m < p.length) (hp : kbulk p ≤ 1000000000) : gc 1 p m w (inK p m w).1 (inK p m w).2.1 (inK p m w).2.2 := by
 refine qb 0 _ _ _ _ _ _ ⟨fun h => by simp [inK, h], fun h => ?_⟩
 obtain ⟨t, ht, _⟩ | h' := aE p m.toNat
 ·have := bY ht
  have := dg t
  refine ⟨m.toNat, by omega, t, ht, _, uL _ _ (by omega), fun h1 => ?_, fun h1 => ?_⟩
  ·simp [inK, h, ht, h1]
  ·simp [inK, h, ht, h1]
 ·omega
theorem yf {p : List Tree} {m : Int} {w : List UInt8} (h0 : 0 ≤ m) (hm : m < p.length) (hp : kbulk p ≤ 1000000000) (hw : w.length ≤ 1000000000) : kd p m w (az p m w).1 (az p m w).2.1 (az p m w).2.2 := by
 have hpl := du p
 refine qB 1 _ _ _ _ _ _ ⟨fun h => by omega, fun h => ⟨fun h => by omega, fun h => ⟨_, _, _, AF w hw, fun h1 => ?_, fun h1 => ?_⟩⟩⟩
 ·have h1 : 0 ≤ cn w 0 := by simpa using h1
  simp only [if_pos h1, az]
  refine ⟨_, uL _ _ (by omega), ?_⟩
  refine uK ?_ hp
  rcases kE (w.take (cn w 0).toNat) p 0 with h2 | ⟨k, t, h2, h3, _⟩
  ·rw [h2]; omega
  ·have := (List.getElem?_eq_some_iff.1 h3).1
   rw [h2]; omega
 ·have h1 : ¬ 0 ≤ cn w 0 := by simpa using h1
  simp only [az, if_neg h1]
  exact uK hm hp
theorem yQ (l : List UInt8) (hl : l.length ≤ 1000000000) : gs l (cn l 0) := by
 have loop : ∀ m i, l.length - i ≤ m → eh (m + 1) l i (cn (l.drop i) i) := fun m => by
  induction m with
  | zero =>
   intro i hi
   refine jn 0 _ _ _ ⟨fun h => by omega, fun h => ?_⟩
   rw [List.drop_of_length_le (by omega), cn]
  | succ m ihm =>
   intro i hi
   refine jn (m + 1) _ _ _ ⟨fun h => ?_, fun h => ?_⟩
   ·obtain ⟨u, hu, _⟩ | h' := aE l i
    ·rw [aI hu, cn]
     refine ⟨u, hu, fun h1 => ?_, fun h1 => ⟨by omega, ?_⟩⟩
     ·rw [if_pos (UInt8.toNat_inj.1 (by show u.toNat = 46; omega))]
     ·rw [if_neg (fun e => h1 (by subst e; rfl))]; exact ihm (i + 1) (by omega)
    ·exact absurd h h'
   ·rw [List.drop_of_length_le (by omega), cn]
 exact od _ _ _ (loop l.length 0 (by omega))
theorem Ab {p : List Tree} {m k : Nat} {t : Tree} {w : List UInt8} (ht : p[k]? = some t) : ∀ i, t.kids.length - i ≤ m → bP (m + 1) p i (k : Int) w (if aX w (t.kids.drop i) i < 0 then 0 else (k : Int)) (if aX w (t.kids.drop i) i < 0 then 0 else aX w (t.kids.drop i) i) (decide (¬ aX w (t.kids.drop i) i < 0)) := by
 induction m with
 | zero =>
  intro i hi
  refine iP 0 _ _ _ _ _ _ _ ⟨k, rfl, t, ht, fun h => by omega, fun h => ?_⟩
  rw [List.drop_of_length_le (by omega), aX]; simp
 | succ m ihm =>
  intro i hi
  refine iP (m + 1) _ _ _ _ _ _ _ ⟨k, rfl, t, ht, fun h => ?_, fun h => ?_⟩
  ·obtain ⟨u, hu, _⟩ | h' := aE t.kids i
   ·rw [aI hu, aX]
    refine ⟨k, rfl, t, ht, u, hu, fun h1 => ?_, fun h1 => ?_⟩
    ·have h2 : ¬ ((i : Int) < 0) := by omega
     simp only [if_pos h1, if_neg h2]; simp [h2]
    ·simp only [if_neg h1]; exact ihm (i + 1) (by omega)
   ·exact absurd h h'
  ·rw [List.drop_of_length_le (by omega), aX]; simp
theorem Bs {p : List Tree} {m : Int} {w : List UInt8} (h0 : 0 ≤ m) (hm : m < p.length) (hp : kbulk p ≤ 1000000000) (hw : w.length ≤ 1000000000) : fV p m w (az p m w).1 (az p m w).2.1 (az p m w).2.2 := by
 have hpl := du p
 have one : ∀ (k : Nat) (x : List UInt8) t, p[k]? = some t → ∃ M, ∀ m', M ≤ m' → bP m' p 0 (k : Int) x (inK p k x).1 (inK p k x).2.1 (inK p k x).2.2 := fun k x t ht => by
  refine ⟨t.kids.length + 1, fun m' hm' => ?_⟩
  obtain ⟨q, rfl⟩ : ∃ q, m' = q + 1 := ⟨m' - 1, by omega⟩
  have := Ab (w := x) (m := q) ht 0 (by omega)
  have e : inK p k x = (if aX x (t.kids.drop 0) 0 < 0 then 0 else (k : Int), if aX x (t.kids.drop 0) 0 < 0 then 0 else aX x (t.kids.drop 0) 0, decide (¬ aX x (t.kids.drop 0) 0 < 0)) := by
   simp only [inK, show ¬ ((k : Int) < 0) by omega, if_false, Int.toNat_natCast, ht, List.drop_zero]
   split <;> simp_all
  rw [e]; exact this
 by_cases hd : 0 ≤ cn w 0
 ·rcases no w 0 with h1 | ⟨k, h1, h2⟩
  ·rw [h1] at hd; omega
  have hk : (cn w 0).toNat = k := by rw [h1]; simp
  simp only [az, if_pos hd, hk]
  -- the module
  have loop : ∀ n i, p.length - i ≤ n → i ≤ p.length → ∃ M, ∀ m', M ≤ m' → cD m' p w (cn w 0) i (inK p (aX (w.take k) (p.drop i) i) (w.drop (k + 1))).1 (inK p (aX (w.take k) (p.drop i) i) (w.drop (k + 1))).2.1 (inK p (aX (w.take k) (p.drop i) i) (w.drop (k + 1))).2.2 := fun n => by
   have last : ∀ i, i = p.length → ∃ M, ∀ m', M ≤ m' → cD m' p w (cn w 0) i (inK p (aX (w.take k) (p.drop i) i) (w.drop (k + 1))).1 (inK p (aX (w.take k) (p.drop i) i) (w.drop (k + 1))).2.1 (inK p (aX (w.take k) (p.drop i) i) (w.drop (k + 1))).2.2 := fun i hi => by
    refine ⟨2, fun m' hm' => ?_⟩
    obtain ⟨q, rfl⟩ : ∃ q, m' = q + 2 := ⟨m' - 2, by omega⟩
    refine fi (q + 1) _ _ _ _ _ _ _ ⟨fun h => by omega, fun _ => io q _ _ _ _ _ _ _ ⟨fun _ => ?_, fun h => absurd hi h⟩⟩
    rw [List.drop_of_length_le (by omega), aX]; simp [inK]
   induction n with
   | zero => intro i hi hle; exact last i (by omega)
   | succ n ih =>
    intro i hi hle
    obtain ⟨u, hu, hlt⟩ | h' := aE p i
    ·by_cases ht : u.text = w.take k
     ·obtain ⟨M, hM⟩ := one i (w.drop (k + 1)) u hu
      refine ⟨M + 2, fun m' hm' => ?_⟩
      obtain ⟨q, rfl⟩ : ∃ q, m' = q + 2 := ⟨m' - 2, by omega⟩
      rw [aI hu, aX, if_pos ht]
      refine fi (q + 1) _ _ _ _ _ _ _ ⟨fun _ => ⟨u, hu, k, by rw [h1]; simp, by omega, fun h => absurd ht h, fun _ => ?_⟩, fun h => absurd hlt h⟩
      refine io q _ _ _ _ _ _ _ ⟨fun h => by omega, fun _ => ⟨by rw [h1]; omega, k + 1, by rw [h1]; omega, by omega, hM q (by omega)⟩⟩
     ·obtain ⟨M, hM⟩ := ih (i + 1) (by omega) (by omega)
      refine ⟨M + 1, fun m' hm' => ?_⟩
      obtain ⟨q, rfl⟩ : ∃ q, m' = q + 1 := ⟨m' - 1, by omega⟩
      rw [aI hu, aX, if_neg ht]
      exact fi q _ _ _ _ _ _ _ ⟨fun _ => ⟨u, hu, k, by rw [h1]; simp, by omega, fun _ => hM q (by omega), fun h => absurd h ht⟩, fun h => absurd hlt h⟩
    ·exact last i (by omega)
  obtain ⟨M, hM⟩ := loop p.length 0 (by omega) (by omega)
  exact jm M _ _ _ _ _ _ ⟨_, yQ w hw, fun _ => hM M (Nat.le_refl _), fun h => absurd hd h⟩
 ·simp only [az, if_neg hd]
  obtain ⟨t, ht, _⟩ | h' := aE p m.toNat
  ·obtain ⟨M, hM⟩ := one m.toNat w t ht
   have := hM M (Nat.le_refl _)
   rw [show ((m.toNat : Nat) : Int) = m by omega] at this
   exact jm M _ _ _ _ _ _ ⟨_, yQ w hw, fun h => absurd h hd, fun _ => this⟩
  ·omega
end Go.Proofs.YthnohcipianijaaGreatDoor
namespace Go.Proofs.YthnohcipianijaaGreatDoor
open Go.RowKit Lx Sx
set_option maxHeartbeats 1000000
mutual
def nodK : Tree → List Int → List (List Int × Tree)
 | .node k s ls ks, q => (q, .node k s ls ks) :: nodKs ks q 0
def nodKs : List Tree → List Int → Nat → List (List Int × Tree)
 | [], _, _ => []
 | t :: r, q, i => nodK t (q ++ [(i : Int)]) ++ nodKs r q (i + 1)
end
theorem qM (t : Tree) (q : List Int) : nodK t q = (q, t) :: nodKs t.kids q 0 := by cases t; simp only [nodK]; rfl
mutual
theorem nodK_len : ∀ (t : Tree) (q : List Int), (nodK t q).length ≤ tbulk t
 | .node k s ls ks, q => by have := nodKs_len ks q 0; simp only [nodK, tbulk, List.length_cons]; omega
theorem nodKs_len : ∀ (l : List Tree) (q : List Int) (i : Nat), (nodKs l q i).length ≤ kbulk l
 | [], _, _ => by simp [nodKs, kbulk]
 | t :: r, q, i => by have := nodK_len t (q ++ [(i : Int)]); have := nodKs_len r q (i + 1); simp only [nodKs, kbulk, List.length_append]; omega
end
theorem xu (l : List Int) (hl : l.length ≤ 1000000000) : hJ l l := oO 0 _ _ fun b hb => ⟨fun h => (List.length_eq_zero_iff.1 (hb h)).symm, fun _ => ⟨hl, rfl⟩⟩
end Go.Proofs.YthnohcipianijaaGreatDoor
namespace Go.Proofs.YthnohcipianijaaGreatDoor
open Go.RowKit Lx Sx
set_option maxHeartbeats 1000000
def hG (u : Tree) : Bool := u.kind == 16 || u.kind == 9
def tgK (p : List Tree) (m : Int) (q : List Int) (u : Tree) : GTarget := ⟨⟨m, q⟩, (az p m u.text).1, (az p m u.text).2.1, !(az p m u.text).2.2⟩
def dT (p : List Tree) (m : Int) : List (List Int × Tree) → List GTarget
 | [] => []
 | x :: r => (if hG x.2 then [tgK p m x.1 x.2] else []) ++ dT p m r
theorem pA (p : List Tree) (m : Int) : ∀ a b, dT p m (a ++ b) = dT p m a ++ dT p m b
 | [], b => rfl
 | x :: r, b => by simp only [List.cons_append, dT, pA p m r b, List.append_assoc]
theorem pn (p : List Tree) (m : Int) : ∀ a, (dT p m a).length ≤ a.length
 | [] => Nat.le_refl _
 | x :: r => by have := pn p m r; simp only [dT, List.length_append, List.length_cons]; split <;> simp <;> omega
theorem zn {p : List Tree} {M : Int} (h0 : 0 ≤ M) (hM : M < p.length) (hp : kbulk p ≤ 1000000000) : ∀ (t : Tree) (q : List Int) (fd : List GTarget), q.length + tbulk t ≤ 1000000000 → fd.length + tbulk t ≤ 1000000000 → cP p M q fd t p M q (fd ++ dT p M (nodK t q)) := kZ fun t ih q fd hq hf => by
 have hk := dg t
 have ht := jH t
 have hb := jE t
 have loop : ∀ k i fd, t.kids.length - i ≤ k → fd.length + kbulk (t.kids.drop i) ≤ 1000000000 → bL (k + 1) t fd p M q i p M q (fd ++ dT p M (nodKs (t.kids.drop i) q i)) := fun k => by
  induction k with
  | zero =>
   intro i fd hi hf
   refine fP 0 _ _ _ _ _ _ _ _ _ _ ⟨fun h => by omega, fun h => ⟨rfl, rfl, rfl, ?_⟩⟩
   rw [List.drop_of_length_le (by omega)]; simp [nodKs, dT]
  | succ k ihk =>
   intro i fd hi hf
   refine fP (k + 1) _ _ _ _ _ _ _ _ _ _ ⟨fun h => ?_, fun h => ⟨rfl, rfl, rfl, ?_⟩⟩
   ·obtain ⟨u, hu, _⟩ | h' := aE t.kids i
    ·have hd := aI hu
     rw [hd, kbulk] at hf
     have hbu := bj hu
     have hl := nodK_len u (q ++ [(i : Int)])
     have hl2 := pn p M (nodK u (q ++ [(i : Int)]))
     refine ⟨u, hu, by simp; omega, _, _, _, _, ih i u hu (q ++ [(i : Int)]) fd (by simp; omega) (by omega), q.length, by simp, by simp, by omega, ?_⟩
     have := ihk (i + 1) (fd ++ dT p M (nodK u (q ++ [(i : Int)]))) (by omega) (by simp; omega)
     rw [hd, nodKs, pA, ← List.append_assoc]
     simpa using this
    ·exact absurd h h'
   ·rw [List.drop_of_length_le (by omega)]; simp [nodKs, dT]
 have key : ∀ b, b = hG t → cz (t.kids.length + 3) p M q fd t b p M q (fd ++ dT p M (nodK t q)) := fun b hbb => by
  rw [qM, dT]
  refine kG (t.kids.length + 2) _ _ _ _ _ _ _ _ _ _ ⟨fun h => ?_, fun h => ?_⟩
  ·rw [if_pos (by rw [← hbb]; exact h)]
   refine ⟨_, _, _, yf h0 hM hp (by omega), _, xu q (by omega), kU (t.kids.length + 1) _ _ _ _ _ _ _ _ _ _ _ _ _ ⟨by simp; omega, ?_⟩⟩
   have := loop t.kids.length 0 (fd ++ [tgK p M q t]) (by omega) (by simp; omega)
   rw [← List.append_assoc]
   exact this
  ·rw [if_neg (by rw [← hbb, h]; simp)]
   have := loop (t.kids.length + 1) 0 fd (by omega) (by simp; omega)
   simpa using this
 refine lh (t.kids.length + 3) _ _ _ _ _ _ _ _ _ ⟨fun h => key _ (by simp [hG, h]), fun h => key _ (by simp [hG, h])⟩
def bV : List Tree → Bool
 | [] => true
 | t :: r => t.kind == 1 && shapeK t && bV r
theorem xc (p : List Tree) (hp : kbulk p ≤ 1000000000) : jI p (bV p) := by
 have hl := du p
 have loop : ∀ m i, p.length - i ≤ m → fG (m + 1) p i (bV (p.drop i)) := fun m => by
  induction m with
  | zero =>
   intro i hi
   refine la 0 _ _ _ ⟨fun h => by omega, fun h => ?_⟩
   rw [List.drop_of_length_le (by omega), bV]
  | succ m ihm =>
   intro i hi
   refine la (m + 1) _ _ _ ⟨fun h => ?_, fun h => ?_⟩
   ·obtain ⟨u, hu, _⟩ | h' := aE p i
    ·rw [aI hu, bV]
     have := bY hu
     refine ⟨u, hu, fun h1 => by simp [h1], fun h1 => ⟨_, si u (by omega), fun h2 => by simp [h1, h2], fun h2 => ⟨by omega, ?_⟩⟩⟩
     simp only [h1, h2, beq_self_eq_true, Bool.true_and]
     exact ihm (i + 1) (by omega)
    ·exact absurd h h'
   ·rw [List.drop_of_length_le (by omega), bV]
 exact pX _ _ _ (loop p.length 0 (by omega))
theorem uZ (p : List Tree) (hp : kbulk p ≤ 1000000000) : eP p (bV p) := by
 have hl := du p
 have loop : ∀ m i, p.length - i ≤ m → cO (m + 1) p i (bV (p.drop i)) := fun m => by
  induction m with
  | zero =>
   intro i hi
   refine gk 0 _ _ _ ⟨fun h => by omega, fun h => ?_⟩
   rw [List.drop_of_length_le (by omega), bV]
  | succ m ihm =>
   intro i hi
   refine gk (m + 1) _ _ _ ⟨fun h => ?_, fun h => ?_⟩
   ·obtain ⟨u, hu, _⟩ | h' := aE p i
    ·rw [aI hu, bV]
     have := bY hu
     refine ⟨u, hu, fun h1 => by simp [h1], fun h1 => ⟨u, hu, _, wf u (by omega), fun h2 => by simp [h1, h2], fun h2 => ?_⟩⟩
     simp only [h1, h2, beq_self_eq_true, Bool.true_and]
     exact ihm (i + 1) (by omega)
    ·exact absurd h h'
   ·rw [List.drop_of_length_le (by omega), bV]
 exact lP _ _ _ (loop p.length 0 (by omega))
def ku (p : List Tree) : Nat → List Tree → List GTarget
 | _, [] => []
 | i, t :: r => dT p i (nodK t []) ++ ku p (i + 1) r
def jA (p : List Tree) : List GTarget := if bV p then ku p 0 p else []
theorem wX (p : List Tree) (hp : kbulk p ≤ 100000000) : jJ p (jA p) := by
 have hl := du p
 have loop : ∀ m i z fd, p.length - i ≤ m → fd.length + kbulk (p.drop i) ≤ 1000000000 → fL (m + 1) p p z [] fd i (fd ++ ku p i (p.drop i)) := fun m => by
  induction m with
  | zero =>
   intro i z fd hi hf
   refine kL 0 _ _ _ _ _ _ _ ⟨fun h => by omega, fun h => ?_⟩
   rw [List.drop_of_length_le (by omega)]; simp [ku]
  | succ m ihm =>
   intro i z fd hi hf
   refine kL (m + 1) _ _ _ _ _ _ _ ⟨fun h => ?_, fun h => ?_⟩
   ·obtain ⟨u, hu, _⟩ | h' := aE p i
    ·have := bY hu
     have hd := aI hu
     rw [hd, kbulk] at hf
     have := pn p i (nodK u [])
     have := nodK_len u []
     refine ⟨u, hu, _, _, _, _, zn (p := p) (M := (i : Int)) (by omega) (by omega) (by omega) u [] fd (by simp; omega) (by omega), by omega, ?_⟩
     rw [hd, ku, ← List.append_assoc]
     exact ihm (i + 1) _ _ (by omega) (by simp; omega)
    ·exact absurd h h'
   ·rw [List.drop_of_length_le (by omega)]; simp [ku]
 refine pZ (p.length + 1) _ _ ⟨_, xc p (by omega), fun h => by simp [jA, h], fun h => ?_⟩
 have := loop p.length 0 0 [] (by omega) (by simp; omega)
 simpa [jA, h] using this
end Go.Proofs.YthnohcipianijaaGreatDoor
namespace Go.Proofs.YthnohcipianijaaGreatDoor
open Go.RowKit Lx Sx
set_option maxRecDepth 100000
mutual
def wD : GDatum → Nat
 | .mk _ _ s l => 1 + s.length + wDs l
def wDs : List GDatum → Nat
 | [] => 0
 | d :: r => wD d + wDs r
end
mutual
def mD : GDatum → Nat
 | .mk _ _ s l => max s.length (mDs l)
def mDs : List GDatum → Nat
 | [] => 0
 | d :: r => max (mD d) (mDs r)
end
mutual
def sameD : GDatum → GDatum → Bool
 | .mk k n s l, .mk k' n' s' l' => k == k' && n == n' && s == s' && l.length == l'.length && sameDs l l'
def sameDs : List GDatum → List GDatum → Bool
 | [], _ => true
 | _ :: _, [] => true
 | a :: r, b :: q => sameD a b && sameDs r q
end
mutual
def formD : GDatum → Bool
 | .mk k n s l => if k = 1 then s == [] && ((l.length : Nat) : Int) == 0 else if k = 2 then n == 0 && ((l.length : Nat) : Int) == 0 else if k = 3 then s == [] && ((l.length : Nat) : Int) == 0 && (n == 0 || n == 1) else if k = 4 then formDs l && s == [] && n == 0 else false
def formDs : List GDatum → Bool
 | [] => true
 | d :: r => formD d && formDs r
end
theorem li (d : GDatum) : wD d = 1 + d.S.length + wDs d.L := by cases d; simp [wD]
theorem vt (d : GDatum) : mD d = max d.S.length (mDs d.L) := by cases d; simp [mD]
theorem en (d : GDatum) : formD d = (if d.Kind = 1 then d.S == [] && ((d.L.length : Nat) : Int) == 0 else if d.Kind = 2 then d.N == 0 && ((d.L.length : Nat) : Int) == 0 else if d.Kind = 3 then d.S == [] && ((d.L.length : Nat) : Int) == 0 && (d.N == 0 || d.N == 1) else if d.Kind = 4 then formDs d.L && d.S == [] && d.N == 0 else false) := by cases d; simp [formD]
theorem pz (a b : GDatum) : sameD a b = (a.Kind == b.Kind && a.N == b.N && a.S == b.S && a.L.length == b.L.length && sameDs a.L b.L) := by cases a; cases b; simp [sameD]
theorem iQ {P : GDatum → Prop} (h : ∀ d, (∀ x ∈ d.L, P x) → P d) (d : GDatum) : P d := by
 refine GDatum.rec (motive_1 := P) (motive_2 := fun l => ∀ x ∈ l, P x) ?_ ?_ ?_ d
 ·intro k n s l ih; exact h _ ih
 ·simp
 ·intro a r h1 h2 x hx
  rcases List.mem_cons.1 hx with rfl | hx
  ·exact h1
  ·exact h2 x hx
theorem oT : ∀ l : List GDatum, (∀ x ∈ l, sameD x x = true) → sameDs l l = true
 | [], _ => by simp [sameDs]
 | a :: r, h => by simp [sameDs, h a (by simp), oT r fun x hx => h x (by simp [hx])]
theorem mT : ∀ d, sameD d d = true := iQ fun d ih => by
 rw [pz, oT d.L ih]; simp
theorem wV : ∀ {l : List GDatum} {x : GDatum}, x ∈ l → wD x ≤ wDs l
 | a :: r, x, h => by
  simp only [wDs]
  rcases List.mem_cons.1 h with rfl | h
  ·omega
  ·have := wV h; omega
theorem rZ : ∀ {l : List GDatum} {x : GDatum}, x ∈ l → mD x ≤ mDs l
 | a :: r, x, h => by
  simp only [mDs]
  rcases List.mem_cons.1 h with rfl | h
  ·omega
  ·have := rZ h; omega
theorem xn (d : GDatum) : 1 ≤ wD d := by rw [li]; omega
theorem wN : ∀ l : List GDatum, (∀ x ∈ l, mD x ≤ wD x) → mDs l ≤ wDs l
 | [], _ => by simp [mDs, wDs]
 | a :: r, h => by
  have h1 := h a (by simp)
  have h2 := wN r fun x hx => h x (by simp [hx])
  simp only [mDs, wDs]; omega
theorem BV : ∀ d, mD d ≤ wD d := iQ fun d ih => by
 rw [vt, li]
 have := wN d.L ih
 omega
theorem uC : ∀ l : List GDatum, l.length ≤ wDs l
 | [] => Nat.le_refl _
 | a :: r => by have := uC r; have := xn a; simp only [wDs, List.length_cons]; omega
theorem uc {B : Nat} : ∀ l : List GDatum, (∀ x ∈ l, wD x ≤ B) → wDs l ≤ l.length * B
 | [], _ => by simp [wDs]
 | a :: r, h => by
  have h1 := h a (by simp)
  have h2 := uc r fun x hx => h x (by simp [hx])
  simp only [wDs, List.length_cons, Nat.add_mul]; omega
def GD0 : GDatum := ⟨0, 0, [], []⟩
def dI (n : Int) : GDatum := ⟨1, n, [], []⟩
def dB (b : Bool) : GDatum := ⟨3, if b = true then 1 else 0, [], []⟩
abbrev Bnd := List UInt8 × GDatum
def eI : List Bnd → List UInt8 → Option GDatum
 | [], _ => none
 | b :: r, s => if b.1 = s then some b.2 else eI r s
def am (t : Tree) (i : Nat) : Tree := t.kids.getD i (.node 0 [] [] [])
def ba (t : Tree) : Tree := if t.kind = 17 then am t 0 else t
def iy : List UInt8 → Int → Int
 | [], n => n
 | c :: r, n => iy r (n * 10 + ((c.toNat : Int) - 48))
def bD (p : List Tree) (m d : Int) : Tree := am (p.getD m.toNat (.node 0 [] [] [])) d.toNat
def bu (ks : List Tree) (l : List GDatum) : List Bnd := List.zipWith (fun k d => (k.text, d)) ks l
def aV (op : List UInt8) (a b : GDatum) : GDatum × Int :=
 if op = [61, 61] then (if a.Kind = b.Kind then (dB (sameD a b), 0) else (GD0, 20))
 else if op = [43] ∧ a.Kind = 2 ∧ b.Kind = 2 then (if 4096 < a.S.length + b.S.length + 1 then (GD0, 3) else (⟨2, 0, a.S ++ b.S, []⟩, 0))
 else if ¬ (a.Kind = 1 ∧ b.Kind = 1) then (GD0, 20)
 else if op = [43] then (dI (IntKind.i64.wrap (a.N + b.N)), 0)
 else if op = [45] then (dI (IntKind.i64.wrap (a.N - b.N)), 0)
 else if op = [42] then (dI (IntKind.i64.wrap (a.N * b.N)), 0)
 else (dB (decide (a.N < b.N)), 0)
def evL (f : Tree → Nat → GDatum × Int × Nat) : List Tree → Nat → List GDatum × Int × Nat
 | [], r => ([], 0, r)
 |t :: ts, r => match f (ba t) r with
  | (d, e, r') => if e = 0 then (match evL f ts r' with | (l, e', r'') => if e' = 0 then (d :: l, 0, r'') else ([], e', r'')) else ([], e, r')
def evG (p : List Tree) : Nat → Int → Tree → List Bnd → Nat → GDatum × Int × Nat
 | 0, _, _, _, _ => (GD0, 21, 0)
 | _ + 1, _, _, _, 0 => (GD0, 21, 0)
 | g + 1, m, t, env, r + 1 =>
  if t.kind = 10 then (dI (iy t.text 0), 0, r)
  else if t.kind = 11 then (⟨2, 0, (t.text.drop 1).take (t.text.length - 1 - 1), []⟩, 0, r)
  else if t.kind = 13 then (dB true, 0, r)
  else if t.kind = 14 then (dB false, 0, r)
  else if t.kind = 22 then evG p g m (am t 0) env r
  else if t.kind = 12 then (match eI env t.text with | some d => (d, 0, r) | none => (GD0, 7, r))
  else if t.kind = 20 then (match evG p g m (am t 0) env r with | (d, e, r') => if e = 0 then evG p g m (am t 1) ((t.text, d) :: env) r' else (GD0, e, r'))
  else if t.kind = 19 then (match evG p g m (am t 0) env r with | (d, e, r') => if e = 0 then (if d.Kind = 3 then (if d.N = 1 then evG p g m (am t 1) env r' else evG p g m (am t 2) env r') else (GD0, 20, r')) else (GD0, e, r'))
  else if t.kind = 18 then (match evL (fun k r => evG p g m k env r) t.kids r with | (l, e, r') => if e = 0 then (if 4096 < 1 + wDs l then (GD0, 3, r') else (⟨4, 0, [], l⟩, 0, r')) else (GD0, e, r'))
  else if t.kind = 16 then (match evL (fun k r => evG p g m k env r) t.kids r with | (l, e, r') => if e = 0 then (if (az p m t.text).2.2 = true then (if (bD p (az p m t.text).1 (az p m t.text).2.1).kids.length = l.length + 2 then evG p g (az p m t.text).1 (am (bD p (az p m t.text).1 (az p m t.text).2.1) (l.length + 1)) (bu (bD p (az p m t.text).1 (az p m t.text).2.1).kids l) r' else (GD0, 5, r')) else (GD0, 7, r')) else (GD0, e, r'))
  else if t.kind = 21 then (match evL (fun k r => evG p g m k env r) t.kids r with | (l, e, r') => if e = 0 then ((aV t.text (l.getD 0 GD0) (l.getD 1 GD0)).1, (aV t.text (l.getD 0 GD0) (l.getD 1 GD0)).2, r') else (GD0, e, r'))
  else (GD0, 7, r)
end Go.Proofs.YthnohcipianijaaGreatDoor
namespace Go.Proofs.YthnohcipianijaaGreatDoor
open Go.RowKit Lx Sx
set_option maxRecDepth 100000
theorem ec {k n : Int} : ∀ {l : List Tree} {i j : Nat} {u : Tree}, shapeKs k n i l = true → l[j]? = some u → iY k n ((i + j : Nat) : Int) u.kind = true ∧ shapeK u = true
 | [], i, j, u, _, h => by simp at h
 | t :: r, i, 0, u, h, hj => by
  simp only [shapeKs, Bool.and_eq_true] at h
  simp only [List.getElem?_cons_zero, Option.some.injEq] at hj
  subst hj
  exact ⟨by simpa using h.1.1, h.1.2⟩
 | t :: r, i, j + 1, u, h, hj => by
  simp only [shapeKs, Bool.and_eq_true] at h
  have := ec (i := i + 1) (j := j) h.2 (by simpa using hj)
  exact ⟨by rw [show i + (j + 1) = i + 1 + j by omega]; exact this.1, this.2⟩
theorem nQ : ∀ {p : List Tree} {i : Nat} {t : Tree}, bV p = true → p[i]? = some t → t.kind = 1 ∧ shapeK t = true
 | [], i, t, _, h => by simp at h
 | v :: r, 0, t, h, hi => by
  simp only [bV, Bool.and_eq_true, beq_iff_eq] at h
  simp only [List.getElem?_cons_zero, Option.some.injEq] at hi
  subst hi; exact h.1
 | v :: r, i + 1, t, h, hi => by
  simp only [bV, Bool.and_eq_true] at h
  exact nQ h.2 (by simpa using hi)
end Go.Proofs.YthnohcipianijaaGreatDoor
namespace Go.Proofs.YthnohcipianijaaGreatDoor
open Go.RowKit Lx Sx
set_option maxRecDepth 100000
theorem yr {t u : Tree} {d : Nat} (ht : t.kind = 1) (hs : shapeK t = true) (hu : t.kids[d]? = some u) : (u.kind = 2 ∧ be u.text = 1) ∨ (u.kind = 3 ∧ be u.text = 2) := by
 rw [cc] at hs
 simp only [Bool.and_eq_true] at hs
 obtain ⟨h1, h2⟩ := ec hs.2 hu
 rw [ht] at h1
 simp [iY] at h1
 rw [cc] at h2
 simp only [Bool.and_eq_true] at h2
 have h3 := h2.1.2
 rcases h1 with e | e
 ·rw [e] at h3
  simp [ga] at h3
  exact .inl ⟨e, by omega⟩
 ·rw [e] at h3
  simp [ga] at h3
  exact .inr ⟨e, by omega⟩
end Go.Proofs.YthnohcipianijaaGreatDoor
namespace Go.Proofs.YthnohcipianijaaGreatDoor
open Go.RowKit Lx Sx
set_option maxRecDepth 100000
theorem cv {t : Tree} {i : Nat} (h : i < t.kids.length) : t.kids[i]? = some (am t i) := by
 simp only [am, List.getD_eq_getElem?_getD]
 rw [List.getElem?_eq_getElem h]; rfl
theorem dw {l : List Tree} {i : Nat} {u z : Tree} (h : l[i]? = some u) : l.getD i z = u := by rw [List.getD_eq_getElem?_getD, h]; rfl
def exT (t : Tree) : Prop := shapeK t = true ∧ dQ t.kind = true
theorem mw {n : Int} {a b c : Nat} {z : Int} (h : 0 ≤ f0 n a b c z) : (a : Int) ≤ n ∧ (0 ≤ z → n ≤ z) := by
 unfold f0 at h
 split at h
 ·omega
 ·split at h
  ·omega
  ·exact ⟨by omega, fun hz => by omega⟩
theorem ur {t : Tree} (h : exT t) : (t.kind = 22 → t.kids.length = 1) ∧ (t.kind = 20 → t.kids.length = 2) ∧ (t.kind = 19 → t.kids.length = 3) ∧ (t.kind = 21 → t.kids.length = 2) := by
 obtain ⟨hs, hk⟩ := h
 rw [cc] at hs
 simp only [Bool.and_eq_true, decide_eq_true_eq] at hs
 have hl := hs.1.1
 refine ⟨fun e => ?_, fun e => ?_, fun e => ?_, fun e => ?_⟩
 ·rw [e] at hl; have := mw (show 0 ≤ f0 t.kids.length 1 2 0 1 from hl); omega
 ·rw [e] at hl; have := mw (show 0 ≤ f0 t.kids.length 2 4 0 2 from hl); omega
 ·rw [e] at hl; have := mw (show 0 ≤ f0 t.kids.length 3 3 0 3 from hl); omega
 ·rw [e] at hl; have := mw (show 0 ≤ f0 t.kids.length 2 1 0 2 from hl); omega
theorem qQ {t u : Tree} {i : Nat} (h : exT t) (hu : t.kids[i]? = some u) (h16 : t.kind ≠ 16) : exT u ∧ u.kind ≠ 17 := by
  obtain ⟨hs, hk⟩ := h
  rw [cc] at hs
  simp only [Bool.and_eq_true, decide_eq_true_eq] at hs
  obtain ⟨g1, g2⟩ := ec hs.2 hu
  have hk' : 10 ≤ t.kind ∧ t.kind ≤ 22 ∧ t.kind ≠ 17 := by simpa [dQ] using hk
  have e : dQ u.kind = true := by
    simp only [iY] at g1
    rw [if_neg (by omega), if_neg (by omega), if_neg (by omega), if_neg h16] at g1
    split at g1
    · simp only [Bool.or_eq_true, Bool.and_eq_true, beq_iff_eq, oC] at g1
      rcases g1 with g | ⟨_, g⟩
      · exact g.1
      · rw [g]; rfl
    · exact g1
  exact ⟨⟨g2, e⟩, by have : 10 ≤ u.kind ∧ u.kind ≤ 22 ∧ u.kind ≠ 17 := by simpa [dQ   ] using e
                     exact this.2.2⟩
theorem qI {t u : Tree} {i : Nat} (h : exT t) (hu : t.kids[i]? = some u) (h16 : t.kind = 16) : u.kind = 17 ∧ u.kids.length = 1 ∧ exT (am u 0) := by
 obtain ⟨hs, hk⟩ := h
 rw [cc] at hs
 simp only [Bool.and_eq_true, decide_eq_true_eq] at hs
 obtain ⟨g1, g2⟩ := ec hs.2 hu
 have e : u.kind = 17 := by
  rw [h16] at g1
  simpa [iY] using g1
 rw [cc] at g2
 simp only [Bool.and_eq_true, decide_eq_true_eq] at g2
 have hl := g2.1.1
 rw [e] at hl
 have := mw (show 0 ≤ f0 u.kids.length 1 0 0 1 from hl)
 have h1 : u.kids.length = 1 := by omega
 obtain ⟨g3, g4⟩ := ec g2.2 (cv (t := u) (i := 0) (by omega))
 rw [e] at g3
 exact ⟨e, h1, g4, by simpa [iY] using g3⟩
theorem sh {t u : Tree} {i : Nat} (h : exT t) (hu : t.kids[i]? = some u) : exT (ba u) ∧ (ba u).kind ≠ 17 ∧ tbulk (ba u) ≤ tbulk u ∧ (u.kind = 17 ↔ t.kind = 16) := by
 by_cases h16 : t.kind = 16
 ·obtain ⟨h1, h2, h3⟩ := qI h hu h16
  rw [ba, if_pos h1]
  have h4 : 10 ≤ (am u 0).kind ∧ (am u 0).kind ≤ 22 ∧ (am u 0).kind ≠ 17 := by simpa [dQ] using h3.2
  have := bj (cv (t := u) (i := 0) (by omega))
  exact ⟨h3, h4.2.2, by omega, fun _ => h16, fun _ => h1⟩
 ·obtain ⟨h1, h2⟩ := qQ h hu h16
  rw [ba, if_neg h2]
  exact ⟨h1, h2, Nat.le_refl _, fun h => absurd h h2, fun h => absurd h h16⟩
theorem rW {t : Tree} (h : exT t) : (t.kind = 10 → be t.text = 5) ∧ (t.kind = 11 → be t.text = 6) ∧ (t.kind = 16 → be t.text = 1 ∨ be t.text = 3) ∧ (t.kind = 21 → t.text = [43] ∨ t.text = [45] ∨ t.text = [42] ∨ t.text = [60] ∨ t.text = [61, 61]) := by
 obtain ⟨hs, hk⟩ := h
 rw [cc] at hs
 simp only [Bool.and_eq_true, decide_eq_true_eq] at hs
 have hw := hs.1.2
 refine ⟨fun e => ?_, fun e => ?_, fun e => ?_, fun e => ?_⟩
 ·rw [e] at hw; simp [ga] at hw; omega
 ·rw [e] at hw; simp [ga] at hw; omega
 ·rw [e] at hw; simp [ga] at hw; omega
 ·rw [e] at hw; simpa [ga, oH, or_assoc] using hw
theorem AP {w : List UInt8} (h : be w = 5) : spanN aH w = w.length ∧ w.length ≤ 15 ∧ w ≠ [] := by
 unfold be at h
 split at h
 ·omega
 rename_i hne
 split at h
 ·rename_i hc
  unfold tokenT at h hc
  simp only [] at h hc
  by_cases a1 : aT (w.getD 0 0) = false
  ·rw [if_pos a1] at h; simp at h
  rw [if_neg a1] at h hc
  by_cases a2 : aL (w.getD 0 0) = true
  ·rw [if_pos a2] at h
   unfold bn cp aY at h
   repeat' split at h
   all_goals simp at h
  rw [if_neg a2] at h hc
  by_cases a3 : aH (w.getD 0 0) = true
  ·rw [if_pos a3] at hc
   simp only [dz] at hc
   repeat' split at hc
   all_goals simp at hc
   all_goals first | exact ⟨hc, by omega, hne⟩ | omega
  rw [if_neg a3] at h
  repeat' split at h
  all_goals simp at h
 ·omega
theorem qo : ∀ (l : List UInt8) (i : Nat), (quotedT l i).2 = 0 → i + 1 ≤ (quotedT l i).1
 | [], i, h => by simp [quotedT] at h
 | c :: r, i, h => by
  unfold quotedT at h ⊢
  split
  ·rw [if_pos (by assumption)] at h; simp at h
  ·rw [if_neg (by assumption)] at h
   split
   ·exact Nat.le_refl _
   ·rw [if_neg (by assumption)] at h
    split
    ·rw [if_pos (by assumption)] at h; simp at h
    ·rw [if_neg (by assumption)] at h
     have := qo r (i + 1) h
     omega
theorem Bn {w : List UInt8} (h : be w = 6) : 2 ≤ w.length := by
 unfold be at h
 split at h
 ·omega
 split at h
 ·rename_i hc
  unfold tokenT at h hc
  simp only [] at h hc
  by_cases a1 : aT (w.getD 0 0) = false
  ·rw [if_pos a1] at h; simp at h
  rw [if_neg a1] at h hc
  by_cases a2 : aL (w.getD 0 0) = true
  ·rw [if_pos a2] at h
   unfold bn cp aY at h
   repeat' split at h
   all_goals simp at h
  rw [if_neg a2] at h hc
  by_cases a3 : aH (w.getD 0 0) = true
  ·rw [if_pos a3] at h
   simp at h
  rw [if_neg a3] at h hc
  by_cases a4 : (w.getD 0 0).toNat = 34
  ·rw [if_pos a4] at hc
   have := qo w.tail 1 hc.1
   have h2 : (quotedT w.tail 1).1 = w.length := hc.2
   omega
  rw [if_neg a4] at h
  repeat' split at h
  all_goals simp at h
 ·omega
theorem uH {p : List Tree} {m : Int} {w : List UInt8} (h : (az p m w).2.2 = true) : ∃ (i d : Nat) (t a : Tree), (az p m w).1 = (i : Int) ∧ (az p m w).2.1 = (d : Int) ∧ p[i]? = some t ∧ t.kids[d]? = some a := by
 have key : ∀ (m : Int) (w : List UInt8), (inK p m w).2.2 = true → ∃ (i d : Nat) (t a : Tree), (inK p m w).1 = (i : Int) ∧ (inK p m w).2.1 = (d : Int) ∧ p[i]? = some t ∧ t.kids[d]? = some a := fun m w h => by
  unfold inK at h ⊢
  split at h
  ·cases h
  ·rename_i hm
   rw [if_neg hm]
   cases hp : p[m.toNat]? with
   | none => rw [hp] at h; cases h
   | some t =>
    rw [hp] at h
    simp only at h ⊢
    split at h
    ·cases h
    ·rename_i hn
     rw [if_neg hn]
     rcases kE w t.kids 0 with g | ⟨k, a, g1, g2, _⟩
     ·omega
     ·exact ⟨m.toNat, k, t, a, by simp; omega, by simp [g1], hp, g2⟩
 unfold az at h ⊢
 split at h
 ·rw [if_pos (by assumption)]; exact key _ _ h
 ·rw [if_neg (by assumption)]; exact key _ _ h
theorem Aa {p : List Tree} (hp : bV p = true) {i d : Nat} {t a : Tree} (ht : p[i]? = some t) (ha : t.kids[d]? = some a) : a.kind = 2 ∨ a.kids.length = 1 := by
 obtain ⟨t1, t2⟩ := nQ hp ht
 rcases yr t1 t2 ha with ⟨k2, _⟩ | ⟨k3, _⟩
 ·exact .inl k2
 ·right
  rw [cc] at t2
  simp only [Bool.and_eq_true] at t2
  obtain ⟨_, g2⟩ := ec t2.2 ha
  rw [cc, k3] at g2
  simp only [Bool.and_eq_true, decide_eq_true_eq] at g2
  have := mw (show 0 ≤ f0 a.kids.length 1 3 0 1 from g2.1.1)
  omega
theorem ni {p : List Tree} (hp : bV p = true) {i d n : Nat} {t a : Tree} (ht : p[i]? = some t) (ha : t.kids[d]? = some a) (hn : a.kids.length = n + 2) : a.kind = 2 ∧ exT (am a (n + 1)) := by
 have h2 : a.kind = 2 := by rcases Aa hp ht ha with h | h <;> omega
 obtain ⟨t1, t2⟩ := nQ hp ht
 rw [cc] at t2
 simp only [Bool.and_eq_true] at t2
 obtain ⟨_, g2⟩ := ec t2.2 ha
 rw [cc, h2] at g2
 simp only [Bool.and_eq_true] at g2
 obtain ⟨g3, g4⟩ := ec g2.2 (cv (t := a) (i := n + 1) (by omega))
 refine ⟨h2, g4, ?_⟩
 simp only [iY] at g3
 rw [if_neg (by decide), if_pos (by decide), if_pos (by omega)] at g3
 exact g3
end Go.Proofs.YthnohcipianijaaGreatDoor
namespace Go.Proofs.YthnohcipianijaaGreatDoor
open Go.RowKit Go.Shelf Lx Sx
set_option maxRecDepth 100000
def BQ : Go.Shelf.Ren := ⟨fun | 174 => 102 | 247 => 150 | 245 => 151 | 287 => 180 | 279 => 181 | 280 => 182 | 281 => 183 | 282 => 184 | 321 => 204 | 322 => 205 | 316 => 206 | 171 => 208 | 205 => 207 | 243 => 217 | 246 => 220 | 283 => 221 | 284 => 222 | 285 => 223 | 286 => 224 | 129 => 226 | 317 => 225 | 318 => 227 | 319 => 228 | 320 => 229 | 337 => 230 | 338 => 231 | n => n, fun | 9 => 9 | 3 => 3 | 2 => 2 | 75 => 161 | 85 => 162 | 4 => 4 | 167 => 221 | 5 => 5 | 53 => 222 | 175 => 223 | 46 => 212 | 168 => 225 | 37 => 231 | 0 => 0 | 210 => 233 | 21 => 21 | 127 => 239 | 145 => 242 | 143 => 240 | 171 => 247 | 173 => 250 | 212 => 253 | 51 => 243 | 20 => 20 | 213 => 254 | 232 => 257 | 233 => 258 | 80 => 259 | n => n, fun | 15 => 3 | 16 => 4 | 17 => 6 | 18 => 7 | 19 => 8 | n => n⟩
theorem Ap : Go.Proofs.LaysC.n174 Tryz.prog BQ := {
 mixed := by kernel_rfl
 f129 := Tryz.func226.trans (congrArg some (by kernel_rfl))
 f171 := Tryz.func208.trans (congrArg some (by kernel_rfl))
 f174 := Tryz.func102.trans (congrArg some (by kernel_rfl))
 f205 := Tryz.func207.trans (congrArg some (by kernel_rfl))
 f243 := Tryz.func217.trans (congrArg some (by kernel_rfl))
 f245 := Tryz.func151.trans (congrArg some (by kernel_rfl))
 f246 := Tryz.func220.trans (congrArg some (by kernel_rfl))
 f247 := Tryz.func150.trans (congrArg some (by kernel_rfl))
 f279 := Tryz.func181.trans (congrArg some (by kernel_rfl))
 f280 := Tryz.func182.trans (congrArg some (by kernel_rfl))
 f281 := Tryz.func183.trans (congrArg some (by kernel_rfl))
 f282 := Tryz.func184.trans (congrArg some (by kernel_rfl))
 f283 := Tryz.func221.trans (congrArg some (by kernel_rfl))
 f284 := Tryz.func222.trans (congrArg some (by kernel_rfl))
 f285 := Tryz.func223.trans (congrArg some (by kernel_rfl))
 f286 := Tryz.func224.trans (congrArg some (by kernel_rfl))
 f287 := Tryz.func180.trans (congrArg some (by kernel_rfl))
 f316 := Tryz.func206.trans (congrArg some (by kernel_rfl))
 f317 := Tryz.func225.trans (congrArg some (by kernel_rfl))
 f318 := Tryz.func227.trans (congrArg some (by kernel_rfl))
 f319 := Tryz.func228.trans (congrArg some (by kernel_rfl))
 f320 := Tryz.func229.trans (congrArg some (by kernel_rfl))
 f321 := Tryz.func204.trans (congrArg some (by kernel_rfl))
 f322 := Tryz.func205.trans (congrArg some (by kernel_rfl))
 f337 := Tryz.func230.trans (congrArg some (by kernel_rfl))
 f338 := Tryz.func231.trans (congrArg some (by kernel_rfl))
 t0 := Tryz.underlying0
 a0 := Tryz.isAgg0
 z0 := Tryz.sizeOf0
 v0 := Tryz.zeroValue0
 t2 := Tryz.underlying2
 a2 := Tryz.isAgg2
 z2 := Tryz.sizeOf2
 v2 := Tryz.zeroValue2
 t3 := Tryz.underlying3
 a3 := Tryz.isAgg3
 z3 := Tryz.sizeOf3
 v3 := Tryz.zeroValue3
 t4 := Tryz.underlying4
 a4 := Tryz.isAgg4
 z4 := Tryz.sizeOf4
 v4 := Tryz.zeroValue4
 t5 := Tryz.underlying5
 a5 := Tryz.isAgg5
 z5 := Tryz.sizeOf5
 v5 := Tryz.zeroValue5
 t9 := Tryz.underlying9
 a9 := Tryz.isAgg9
 z9 := Tryz.sizeOf9
 v9 := Tryz.zeroValue9
 t20 := Tryz.underlying20
 a20 := Tryz.isAgg20
 z20 := Tryz.sizeOf20
 v20 := Tryz.zeroValue20
 t21 := Tryz.underlying21
 a21 := Tryz.isAgg21
 z21 := Tryz.sizeOf21
 v21 := Tryz.zeroValue21
 t37 := Tryz.underlying231
 a37 := Tryz.isAgg231
 z37 := Tryz.sizeOf231
 v37 := Tryz.zeroValue231
 t46 := Tryz.underlying212
 a46 := Tryz.isAgg212
 z46 := Tryz.sizeOf212
 v46 := Tryz.zeroValue212
 t51 := Tryz.underlying243
 a51 := Tryz.isAgg243
 z51 := Tryz.sizeOf243
 v51 := Tryz.zeroValue243
 t53 := Tryz.underlying222
 a53 := Tryz.isAgg222
 z53 := Tryz.sizeOf222
 v53 := Tryz.zeroValue222
 t75 := Tryz.underlying161
 a75 := Tryz.isAgg161
 z75 := Tryz.sizeOf161
 v75 := Tryz.zeroValue161
 t85 := Tryz.underlying162
 a85 := Tryz.isAgg162
 z85 := Tryz.sizeOf162
 v85 := Tryz.zeroValue162
 t127 := Tryz.underlying239
 a127 := Tryz.isAgg239
 z127 := Tryz.sizeOf239
 v127 := Tryz.zeroValue239
 t143 := Tryz.underlying240
 a143 := Tryz.isAgg240
 z143 := Tryz.sizeOf240
 v143 := Tryz.zeroValue240
 t145 := Tryz.underlying242
 a145 := Tryz.isAgg242
 z145 := Tryz.sizeOf242
 v145 := Tryz.zeroValue242
 t167 := Tryz.underlying221
 a167 := Tryz.isAgg221
 z167 := Tryz.sizeOf221
 v167 := Tryz.zeroValue221
 t168 := Tryz.underlying225
 a168 := Tryz.isAgg225
 z168 := Tryz.sizeOf225
 v168 := Tryz.zeroValue225
 t171 := Tryz.underlying247
 a171 := Tryz.isAgg247
 z171 := Tryz.sizeOf247
 v171 := Tryz.zeroValue247
 t173 := Tryz.underlying250
 a173 := Tryz.isAgg250
 z173 := Tryz.sizeOf250
 v173 := Tryz.zeroValue250
 t175 := Tryz.underlying223
 a175 := Tryz.isAgg223
 z175 := Tryz.sizeOf223
 v175 := Tryz.zeroValue223
 t210 := Tryz.underlying233
 a210 := Tryz.isAgg233
 z210 := Tryz.sizeOf233
 v210 := Tryz.zeroValue233
 t212 := Tryz.underlying253
 a212 := Tryz.isAgg253
 z212 := Tryz.sizeOf253
 v212 := Tryz.zeroValue253
 t213 := Tryz.underlying254
 a213 := Tryz.isAgg254
 z213 := Tryz.sizeOf254
 t232 := Tryz.underlying257
 a232 := Tryz.isAgg257
 z232 := Tryz.sizeOf257
 v232 := Tryz.zeroValue257
 t233 := Tryz.underlying258
 a233 := Tryz.isAgg258
 z233 := Tryz.sizeOf258
 v233 := Tryz.zeroValue258
 g15 := by kernel_rfl
 g16 := by kernel_rfl
 g17 := by kernel_rfl
 g18 := by kernel_rfl
 g19 := by kernel_rfl
 t80 := Tryz.underlying259
 a80 := Tryz.isAgg259
 z80 := Tryz.sizeOf259
 v80 := Tryz.zeroValue259
 i0 := by kernel_rfl
 i2 := by kernel_rfl
 i3 := by kernel_rfl
 i4 := by kernel_rfl
 i5 := by kernel_rfl
 i9 := by kernel_rfl
 i20 := by kernel_rfl
 i21 := by kernel_rfl
 i37 := by kernel_rfl
 i46 := by kernel_rfl
 i51 := by kernel_rfl
 i53 := by kernel_rfl
 i75 := by kernel_rfl
 i80 := by kernel_rfl
 i85 := by kernel_rfl
 i127 := by kernel_rfl
 i143 := by kernel_rfl
 i145 := by kernel_rfl
 i167 := by kernel_rfl
 i168 := by kernel_rfl
 i171 := by kernel_rfl
 i173 := by kernel_rfl
 i175 := by kernel_rfl
 i210 := by kernel_rfl
 i212 := by kernel_rfl
 i232 := by kernel_rfl
 i233 := by kernel_rfl
 m15 := by kernel_rfl
 m16 := by kernel_rfl
 m17 := by kernel_rfl
 m18 := by kernel_rfl
 m19 := by kernel_rfl
 c0 := by kernel_rfl
 c2 := by kernel_rfl
 c3 := by kernel_rfl
 c4 := by kernel_rfl
 c5 := by kernel_rfl
 c9 := by kernel_rfl
 c20 := by kernel_rfl
 c21 := by kernel_rfl
 c37 := by kernel_rfl
 c46 := by kernel_rfl
 c51 := by kernel_rfl
 c53 := by kernel_rfl
 c75 := by kernel_rfl
 c80 := by kernel_rfl
 c85 := by kernel_rfl
 c127 := by kernel_rfl
 c143 := by kernel_rfl
 c145 := by kernel_rfl
 c167 := by kernel_rfl
 c168 := by kernel_rfl
 c171 := by kernel_rfl
 c173 := by kernel_rfl
 c175 := by kernel_rfl
 c210 := by kernel_rfl
 c212 := by kernel_rfl
 c213 := by kernel_rfl
 c232 := by kernel_rfl
 c233 := by kernel_rfl }
theorem tO {l : List UInt8} {v : Int} (h : Lib.parseIntB 64 l = .ok v) (hl : l.length ≤ 1000000000) : fU l 10 64 v () := sum0_calls rfl rfl fun S w ρ xs hx => by
 simp only [LRel] at hx
 obtain ⟨x, ys, rfl, h1, y, zs, rfl, h2, z, us, rfl, h3, rfl⟩ := hx
 simp only [VRel] at h1 h2 h3; subst h1 h2 h3
 refine (Any.strconv_ParseInt_10_at64_ok Ap ⟨l.toArray⟩ (by show l.toArray.size ≤ _; simp; omega) v (by simpa using h) w).mono fun e w' ⟨he, hw⟩ => ⟨_, he, ?_, ?_⟩
 ·simp only [VRel, LRel]
  exact ⟨_, rfl, _, _, rfl, rfl, _, _, rfl, ⟨rfl, rfl⟩, rfl⟩
 ·rcases hw with rfl | ⟨t, rfl⟩
  ·exact Chg.refl _ _
  ·exact uu (Lib.bytesWorld_below _ _ _)
theorem nT {p : UInt8 → Bool} {c : UInt8} {r : List UInt8} (h : spanN p (c :: r) = (c :: r).length) : p c = true ∧ spanN p r = r.length := by
 simp only [spanN, List.takeWhile_cons, List.length_cons] at h ⊢
 cases hc : p c with
 | false => rw [hc] at h; simp at h
 | true => rw [hc] at h; simp at h; exact ⟨rfl, h⟩
theorem digits : ∀ (l : List UInt8) (a : Nat), spanN aH l = l.length → (a + 1) * 10 ^ l.length ≤ 1000000000000000 → ∃ n : Nat, n < (a + 1) * 10 ^ l.length ∧ iy l a = n ∧ Lib.parseUintM (2 ^ 64 - 1) a l = .ok n
 | [], a, _, hb => ⟨a, by simp, rfl, rfl⟩
 | c :: r, a, h, hb => by
  have hc : aH c = true ∧ spanN aH r = r.length := nT h
  have hd : 48 ≤ c.toNat ∧ c.toNat ≤ 57 := by simpa [aH] using hc.1
  have hp : 1 ≤ 10 ^ r.length := Nat.one_le_pow _ _ (by omega)
  rw [List.length_cons, Nat.pow_succ] at hb
  have h1 : (a * 10 + (c.toNat - 48) + 1) * 10 ^ r.length ≤ (a + 1) * (10 ^ r.length * 10) := by
   rw [Nat.mul_comm (10 ^ r.length) 10, ← Nat.mul_assoc]
   exact Nat.mul_le_mul_right _ (by omega)
  have h2 : (a + 1) * 1 ≤ (a + 1) * (10 ^ r.length * 10) := Nat.mul_le_mul_left _ (by omega)
  obtain ⟨n, n1, n2, n3⟩ := digits r (a * 10 + (c.toNat - 48)) hc.2 (by omega)
  refine ⟨n, ?_, ?_, ?_⟩
  ·rw [List.length_cons, Nat.pow_succ]; omega
  ·rw [iy, ← n2]; congr 1; omega
  ·rw [Lib.parseUintM, if_pos hd, if_neg (by omega), if_neg (by
    have h3 : (a * 10 + (c.toNat - 48) + 1) * 1 ≤ (a * 10 + (c.toNat - 48) + 1) * 10 ^ r.length := Nat.mul_le_mul_left _ hp
    omega)]
   exact n3
theorem vT {w : List UInt8} (h : be w = 5) : fU w 10 64 (iy w 0) () := by
 obtain ⟨h1, h2, h3⟩ := AP h
 have hp : 10 ^ w.length ≤ 10 ^ 15 := Nat.pow_le_pow_right (by omega) h2
 obtain ⟨n, n1, n2, n3⟩ := digits w 0 h1 (by omega)
 refine tO ?_ (by omega)
 cases w with
 | nil => exact absurd rfl h3
 | cons c r =>
  have hc : aH c = true := (nT h1).1
  have hd : 48 ≤ c.toNat ∧ c.toNat ≤ 57 := by simpa [aH] using hc
  have e1 : ¬ (c.toNat = 43 ∨ c.toNat = 45) := by omega
  have e2 : ¬ c.toNat = 45 := by omega
  have hn : n < 10 ^ 15 := by omega
  simp only [Lib.parseIntB, if_neg e1, Lib.parseUintB, if_neg (List.cons_ne_nil c r)]
  have n3' : Lib.parseUintM (2 ^ 64 - 1) 0 (c :: r) = .ok n := n3
  rw [n3']
  simp only [e2, not_false_eq_true, true_and, false_and, if_false]
  rw [if_neg (by omega)]
  exact congrArg _ n2.symm
theorem wT {w : List UInt8} (h : be w = 5) : fh w (iy w 0) := by
 obtain ⟨h1, h2, h3⟩ := AP h
 have hall : ∀ (l : List UInt8), spanN aH l = l.length → ∀ (i : Nat) (c : UInt8), l[i]? = some c → 48 ≤ c.toNat ∧ c.toNat ≤ 57 := fun l => by
  induction l with
  | nil => intro _ i c hc; simp at hc
  | cons d r ih =>
   intro hl i c hc
   obtain ⟨hd, hr⟩ := nT hl
   cases i with
   | zero => simp at hc; subst hc; simpa [aH] using hd
   | succ i => exact ih hr i c (by simpa using hc)
 have loop : ∀ m i (z : Nat), w.length - i ≤ m → i ≤ w.length → z < 10 ^ i → cY (m + 1) w z i (iy (w.drop i) z) := fun m => by
  induction m with
  | zero =>
   intro i z hi hle hz
   refine gA 0 _ _ _ _ ⟨fun h => by omega, fun h => ?_⟩
   rw [List.drop_of_length_le (by omega), iy]
  | succ m ihm =>
   intro i z hi hle hz
   refine gA (m + 1) _ _ _ _ ⟨fun h => ?_, fun h => ?_⟩
   ·obtain ⟨u, hu, hl⟩ | h' := aE w i
    ·have hd := hall w h1 i u hu
     have hp : 10 ^ (i + 1) ≤ 10 ^ 15 := Nat.pow_le_pow_right (by omega) (by omega)
     have hp2 : 10 ^ (i + 1) = 10 ^ i * 10 := Nat.pow_succ _ _
     have e15 : (10 : Nat) ^ 15 = 1000000000000000 := by decide
     have := ihm (i + 1) (z * 10 + (u.toNat - 48)) (by omega) (by omega) (by omega)
     rw [aI hu, iy]
     have e : ((z : Int) * 10 + ((u.toNat : Int) - 48)) = ((z * 10 + (u.toNat - 48) : Nat) : Int) := by omega
     refine ⟨by constructor <;> omega, u, hu, by constructor <;> omega, by constructor <;> omega, by constructor <;> omega, by omega, ?_⟩
     rw [e]; exact this
    ·exact absurd h h'
   ·rw [List.drop_of_length_le (by omega), iy]
 exact mh _ _ _ (loop w.length 0 0 (by omega) (by omega) (by simp))
end Go.Proofs.YthnohcipianijaaGreatDoor
namespace Go.Proofs.YthnohcipianijaaGreatDoor
open Go.RowKit Lx Sx
set_option maxRecDepth 100000
mutual
def nD : GDatum → Nat
 | .mk _ _ _ l => 1 + nDs l
def nDs : List GDatum → Nat
 | [] => 0
 | d :: r => nD d + nDs r
end
theorem pV (d : GDatum) : nD d = 1 + nDs d.L := by cases d; simp [nD]
theorem AO (d : GDatum) : 1 ≤ nD d := by rw [pV]; omega
theorem wI : ∀ {l : List GDatum} {x : GDatum}, x ∈ l → nD x ≤ nDs l
 | a :: r, x, h => by
  simp only [nDs]
  rcases List.mem_cons.1 h with rfl | h
  ·omega
  ·have := wI h; omega
theorem un : ∀ l : List GDatum, l.length ≤ nDs l
 | [] => Nat.le_refl _
 | a :: r => by have := un r; have := AO a; simp only [nDs, List.length_cons]; omega
theorem wA : ∀ l : List GDatum, (∀ x ∈ l, nD x ≤ wD x) → nDs l ≤ wDs l
 | [], _ => by simp [nDs, wDs]
 | a :: r, h => by
  have h1 := h a (by simp)
  have h2 := wA r fun x hx => h x (by simp [hx])
  simp only [nDs, wDs]; omega
theorem qg : ∀ d, nD d ≤ wD d := iQ fun d ih => by
 rw [pV, li]
 have := wA d.L ih
 omega
theorem rY (d : GDatum) : d.L.length < nD d := by have := un d.L; rw [pV]; omega
theorem sf {d x : GDatum} {i : Nat} (h : d.L[i]? = some x) : nD x < nD d := by have := wI (List.mem_of_getElem? h); rw [pV d]; omega
theorem zp : ∀ (d : GDatum) (lim : Nat), 1 ≤ lim → lim ≤ 1000000 → iT d lim (min lim (wD d) : Nat) := iQ fun d ih lim h1 h2 => by
 have loop : ∀ m i (z : Nat), d.L.length - i ≤ m → i < z → z ≤ lim → gU (m + 1) d lim z i (min lim (z + wDs (d.L.drop i)) : Nat) := fun m => by
  induction m with
  | zero =>
   intro i z hi hiz hz
   refine ma 0 _ _ _ _ _ ⟨fun h => by omega, fun h => ?_⟩
   rw [List.drop_of_length_le (by omega), wDs]; omega
  | succ m ihm =>
   intro i z hi hiz hz
   refine ma (m + 1) _ _ _ _ _ ⟨fun h => ?_, fun h => ?_⟩
   ·obtain ⟨u, hu, hl⟩ | h' := aE d.L i
    ·rw [aI hu, wDs]
     refine ⟨u, hu, fun hle => by omega, fun hlt => ⟨by constructor <;> omega, ((min (lim - z) (wD u) : Nat) : Int), ?_, ?_, by omega, ?_⟩⟩
     ·rw [show ((lim : Int) - (z : Int)) = ((lim - z : Nat) : Int) by omega]
      exact ih u (List.mem_of_getElem? hu) (lim - z) (by omega) (by omega)
     ·constructor <;> omega
     ·have hwu := xn u
      have := ihm (i + 1) (z + min (lim - z) (wD u)) (by omega) (by omega) (by omega)
      rw [show ((z : Int) + ((min (lim - z) (wD u) : Nat) : Int)) = ((z + min (lim - z) (wD u) : Nat) : Int) by omega, show min lim (z + (wD u + wDs (d.L.drop (i + 1)))) = min lim (z + min (lim - z) (wD u) + wDs (d.L.drop (i + 1))) by omega]
      exact this
    ·exact absurd h h'
   ·rw [List.drop_of_length_le (by omega), wDs]; omega
 refine rC (d.L.length + 1) _ _ _ ⟨by constructor <;> omega, fun h => ?_, fun h => ⟨by omega, ?_⟩⟩
 ·rw [li]; omega
 ·have := loop d.L.length 0 (1 + d.S.length) (by omega) (by omega) (by omega)
  rw [List.drop_zero, ← li] at this
  exact this
theorem pD (d : GDatum) : fx d (min 4097 (wD d) : Nat) := qu 0 _ _ ⟨_, zp d 4097 (by omega) (by omega), rfl⟩
theorem wM {B : Nat} (hB : B ≤ 1000000000000000) : ∀ (d : GDatum) (most : Nat), mD d ≤ B → 1 ≤ most → most ≤ 1000000 → dp d most (min most (wD d) : Nat) := iQ fun d ih most hd h1 h2 => by
 rw [vt] at hd
 have loop : ∀ m i (z : Nat), d.L.length - i ≤ m → z ≤ B + 1 + 1000000 → da (m + 1) d most z i (min most (z + wDs (d.L.drop i)) : Nat) := fun m => by
  induction m with
  | zero =>
   intro i z hi hz
   refine gv 0 _ _ _ _ _ ⟨fun h => by omega, fun h => ?_⟩
   rw [List.drop_of_length_le (by omega), wDs]; omega
  | succ m ihm =>
   intro i z hi hz
   refine gv (m + 1) _ _ _ _ _ ⟨fun h => ⟨fun hlt => ?_, fun hge => by omega⟩, fun h => ?_⟩
   ·obtain ⟨u, hu, hl⟩ | h' := aE d.L i
    ·rw [aI hu, wDs]
     have hm := rZ (List.mem_of_getElem? hu)
     refine ⟨u, hu, by constructor <;> omega, ((min (most - z) (wD u) : Nat) : Int), ?_, ?_, ?_⟩
     ·rw [show ((most : Int) - (z : Int)) = ((most - z : Nat) : Int) by omega]
      exact ih u (List.mem_of_getElem? hu) (most - z) (by omega) (by omega) (by omega)
     ·constructor <;> omega
     ·have := ihm (i + 1) (z + min (most - z) (wD u)) (by omega) (by omega)
      rw [show ((z : Int) + ((min (most - z) (wD u) : Nat) : Int)) = ((z + min (most - z) (wD u) : Nat) : Int) by omega, show min most (z + (wD u + wDs (d.L.drop (i + 1)))) = min most (z + min (most - z) (wD u) + wDs (d.L.drop (i + 1))) by omega]
      exact this
    ·exact absurd h h'
   ·rw [List.drop_of_length_le (by omega), wDs]; omega
 refine lY (d.L.length + 1) _ _ _ ⟨by omega, ?_⟩
 have := loop d.L.length 0 (1 + d.S.length) (by omega) (by omega)
 rw [List.drop_zero, ← li] at this
 exact this
theorem ly (d : GDatum) (hd : mD d ≤ 1000000000000000) : bI d (min 4097 (wD d) : Nat) := mg 0 _ _ ⟨_, wM (Nat.le_refl _) d 4097 hd (by omega) (by omega), rfl⟩
theorem ye : ∀ d : GDatum, nD d ≤ 1000000000 → gL d (formD d) := iQ fun d ih hn => by
 have hlen := rY d
 have loop : ∀ m i, d.L.length - i ≤ m → fZ (m + 1) d i (formDs (d.L.drop i) && d.S == [] && d.N == 0) := fun m => by
  induction m with
  | zero =>
   intro i hi
   refine lC 0 _ _ _ ⟨fun h => by omega, fun h => ?_⟩
   rw [List.drop_of_length_le (by omega), formDs]
   exact ⟨fun e => by simp [e], fun e => by simp [e]⟩
  | succ m ihm =>
   intro i hi
   refine lC (m + 1) _ _ _ ⟨fun h => ?_, fun h => ?_⟩
   ·obtain ⟨u, hu, hl⟩ | h' := aE d.L i
    ·rw [aI hu, formDs]
     have := sf hu
     refine ⟨u, hu, _, ih u (List.mem_of_getElem? hu) (by omega), fun e => by simp [e], fun e => ⟨by omega, ?_⟩⟩
     rw [e, Bool.true_and]
     exact ihm (i + 1) (by omega)
    ·exact absurd h h'
   ·rw [List.drop_of_length_le (by omega), formDs]
    exact ⟨fun e => by simp [e], fun e => by simp [e]⟩
 refine qR (d.L.length + 1) _ _ ⟨fun h => ?_, fun h => ⟨fun h2 => ?_, fun h2 => ⟨fun h3 => ?_, fun h3 => ⟨fun h4 => ?_, fun h4 => ?_⟩⟩⟩⟩
 ·rw [en, if_pos h]; exact ⟨fun e => by simp [e], fun e => by simp [e]⟩
 ·rw [en, if_neg h, if_pos h2]; exact ⟨fun e => by simp [e], fun e => by simp [e]⟩
 ·rw [en, if_neg h, if_neg h2, if_pos h3]
  exact ⟨fun e => ⟨fun e1 => ⟨fun e2 => by simp [e, e1, e2], fun e2 => by simp [e, e1, e2]⟩, fun e1 => by simp [e]; exact fun q => absurd (by rw [q]; rfl) e1⟩, fun e => by simp [e]⟩
 ·rw [en, if_neg h, if_neg h2, if_neg h3, if_pos h4]
  exact loop d.L.length 0 (by omega)
 ·rw [en, if_neg h, if_neg h2, if_neg h3, if_neg h4]
theorem zt : ∀ d : GDatum, ej d (formD d) := iQ fun d ih => by
 have loop : ∀ m i, d.L.length - i ≤ m → dN (m + 1) d i (formDs (d.L.drop i) && d.S == [] && d.N == 0) := fun m => by
  induction m with
  | zero =>
   intro i hi
   refine ik 0 _ _ _ ⟨fun h => by omega, fun h => ?_⟩
   rw [List.drop_of_length_le (by omega), formDs]
   exact ⟨fun e => by simp [e], fun e => by simp [e]⟩
  | succ m ihm =>
   intro i hi
   refine ik (m + 1) _ _ _ ⟨fun h => ?_, fun h => ?_⟩
   ·obtain ⟨u, hu, hl⟩ | h' := aE d.L i
    ·rw [aI hu, formDs]
     refine ⟨u, hu, _, ih u (List.mem_of_getElem? hu), fun e => by simp [e], fun e => ?_⟩
     rw [e, Bool.true_and]
     exact ihm (i + 1) (by omega)
    ·exact absurd h h'
   ·rw [List.drop_of_length_le (by omega), formDs]
    exact ⟨fun e => by simp [e], fun e => by simp [e]⟩
 refine nz (d.L.length + 1) _ _ ⟨fun h => ?_, fun h => ⟨fun h2 => ?_, fun h2 => ⟨fun h3 => ?_, fun h3 => ⟨fun h4 => ?_, fun h4 => ?_⟩⟩⟩⟩
 ·rw [en, if_pos h]; exact ⟨fun e => by simp [e], fun e => by simp [e]⟩
 ·rw [en, if_neg h, if_pos h2]; exact ⟨fun e => by simp [e], fun e => by simp [e]⟩
 ·rw [en, if_neg h, if_neg h2, if_pos h3]
  exact ⟨fun e => ⟨fun e1 => by simp [e, e1], fun e1 => by simp [e1]⟩, fun e => ⟨fun e1 => ⟨fun e2 => by simp [e1, e2], fun e2 => by simp [e2]⟩, fun e1 => by simp [e, e1]⟩⟩
 ·rw [en, if_neg h, if_neg h2, if_neg h3, if_pos h4]
  exact loop d.L.length 0 (by omega)
 ·rw [en, if_neg h, if_neg h2, if_neg h3, if_neg h4]
def cb (d : GDatum) : Bool := decide (wD d ≤ 4096) && formD d
theorem qw (d : GDatum) : fN d (cb d) := rx 0 _ _ ⟨_, pD d, fun h => ⟨_, ye d (by have := qg d; omega), by unfold cb; rw [decide_eq_true (by omega), Bool.true_and]⟩, fun h => by unfold cb; rw [decide_eq_false (by omega), Bool.false_and]⟩
theorem sg (d : GDatum) (hd : mD d ≤ 1000000000000000) : dP d (cb d) := mZ 0 _ _ ⟨_, ly d hd, fun h => ⟨_, zt d, by unfold cb; rw [decide_eq_true (by omega), Bool.true_and]⟩, fun h => by unfold cb; rw [decide_eq_false (by omega), Bool.false_and]⟩
theorem nK : ∀ a : GDatum, nD a ≤ 1000000000 → ∀ b, dv a b (sameD a b) := iQ fun a ih hn b => by
 have hlen := rY a
 rw [pz]
 refine sd (a.L.length + 1) _ _ _ ⟨fun h => by simp [h], fun h => ⟨fun h2 => by simp [h2], fun h2 => ⟨fun h3 => by simp [h3], fun h3 => ⟨fun h4 => by simp [h4], fun h4 => ?_⟩⟩⟩⟩
 rw [show (a.Kind == b.Kind && a.N == b.N && a.S == b.S && a.L.length == b.L.length) = true by simp [h, h2, h3, h4], Bool.true_and]
 have loop : ∀ m i, a.L.length - i ≤ m → iX (m + 1) a b i (sameDs (a.L.drop i) (b.L.drop i)) := fun m => by
  induction m with
  | zero =>
   intro i hi
   refine nu 0 _ _ _ _ ⟨fun h => by omega, fun h => ?_⟩
   rw [List.drop_of_length_le (by omega), sameDs]
  | succ m ihm =>
   intro i hi
   refine nu (m + 1) _ _ _ _ ⟨fun h => ?_, fun h => ?_⟩
   ·obtain ⟨u, hu, hl⟩ | h' := aE a.L i
    ·obtain ⟨v, hv, _⟩ | h'' := aE b.L i
     ·rw [aI hu, aI hv, sameDs]
      have := sf hu
      refine ⟨u, hu, v, hv, _, ih u (List.mem_of_getElem? hu) (by omega) v, fun e => by simp [e], fun e => ⟨by omega, ?_⟩⟩
      rw [e, Bool.true_and]
      exact ihm (i + 1) (by omega)
     ·omega
    ·exact absurd h h'
   ·rw [List.drop_of_length_le (by omega), sameDs]
 exact loop a.L.length 0 (by omega)
theorem qv : ∀ a : GDatum, nD a ≤ 1000000000 → ∀ b, cd a b (sameD a b) := iQ fun a ih hn b => by
 have hlen := rY a
 rw [pz]
 refine nw (a.L.length + 1) _ _ _ ⟨fun h => by simp [h], fun h => ⟨fun h2 => by simp [h2], fun h2 => ⟨fun h3 => by simp [h3], fun h3 => ⟨fun h4 => by simp [h4], fun h4 => ?_⟩⟩⟩⟩
 rw [show (a.Kind == b.Kind && a.N == b.N && a.S == b.S && a.L.length == b.L.length) = true by simp [h, h2, h3, h4], Bool.true_and]
 have loop : ∀ m i, a.L.length - i ≤ m → dL (m + 1) a b i (sameDs (a.L.drop i) (b.L.drop i)) := fun m => by
  induction m with
  | zero =>
   intro i hi
   refine iS 0 _ _ _ _ ⟨fun h => by omega, fun h => ?_⟩
   rw [List.drop_of_length_le (by omega), sameDs]
  | succ m ihm =>
   intro i hi
   refine iS (m + 1) _ _ _ _ ⟨fun h => ?_, fun h => ?_⟩
   ·obtain ⟨u, hu, hl⟩ | h' := aE a.L i
    ·obtain ⟨v, hv, _⟩ | h'' := aE b.L i
     ·rw [aI hu, aI hv, sameDs]
      have := sf hu
      refine ⟨u, hu, v, hv, _, ih u (List.mem_of_getElem? hu) (by omega) v, fun e => by simp [e], fun e => ?_⟩
      rw [e, Bool.true_and]
      exact ihm (i + 1) (by omega)
     ·omega
    ·exact absurd h h'
   ·rw [List.drop_of_length_le (by omega), sameDs]
 exact loop a.L.length 0 (by omega)
theorem Bf (d : GDatum) : GDatum.mk d.Kind d.N d.S d.L = d := by cases d; rfl
theorem xV : ∀ d : GDatum, wD d ≤ 1000000000 → gM d d := iQ fun d ih hd => by
 rw [li] at hd
 have hlen := uC d.L
 have loop : ∀ m i l, d.L.length - i ≤ m → i ≤ d.L.length → l = d.L.take i → gb (m + 1) d l i d := fun m => by
  induction m with
  | zero =>
   intro i l hi hle hl
   refine lE 0 _ _ _ _ ⟨fun h => by omega, fun h => ?_⟩
   rw [hl, List.take_of_length_le (by omega)]; exact Bf d
  | succ m ihm =>
   intro i l hi hle hl
   refine lE (m + 1) _ _ _ _ ⟨fun h => ?_, fun h => ?_⟩
   ·obtain ⟨u, hu, hlt⟩ | h' := aE d.L i
    ·have := wV (List.mem_of_getElem? hu)
     have hl2 : l ++ [u] = d.L.take (i + 1) := by rw [hl, List.take_add_one, hu]; rfl
     refine ⟨u, hu, u, ih u (List.mem_of_getElem? hu) (by omega), ?_, by omega, ihm (i + 1) _ (by omega) (by omega) hl2⟩
     rw [hl2, List.length_take]; omega
    ·exact absurd h h'
   ·rw [hl, List.take_of_length_le (by omega)]; exact Bf d
 exact qE _ _ _ (loop d.L.length 0 [] (by omega) (by omega) (by simp))
theorem xv : ∀ (d : GDatum) (lim : Nat), 1 ≤ lim → lim ≤ 1000000 → dM d lim (min lim (nD d) : Nat) := iQ fun d ih lim h1 h2 => by
 have loop : ∀ m i (z : Nat), d.L.length - i ≤ m → 1 ≤ z → z ≤ lim → di (m + 1) d lim z i (min lim (z + nDs (d.L.drop i)) : Nat) := fun m => by
  induction m with
  | zero =>
   intro i z hi h0 hz
   refine hW 0 _ _ _ _ _ ⟨fun h => by omega, fun h => ?_⟩
   rw [List.drop_of_length_le (by omega), nDs]; omega
  | succ m ihm =>
   intro i z hi h0 hz
   refine hW (m + 1) _ _ _ _ _ ⟨fun h => ⟨fun hlt => ?_, fun hge => by omega⟩, fun h => ?_⟩
   ·obtain ⟨u, hu, hl⟩ | h' := aE d.L i
    ·rw [aI hu, nDs]
     refine ⟨u, hu, by constructor <;> omega, ((min (lim - z) (nD u) : Nat) : Int), ?_, ?_, ?_⟩
     ·rw [show ((lim : Int) - (z : Int)) = ((lim - z : Nat) : Int) by omega]
      exact ih u (List.mem_of_getElem? hu) (lim - z) (by omega) (by omega)
     ·constructor <;> omega
     ·have := ihm (i + 1) (z + min (lim - z) (nD u)) (by omega) (by omega) (by omega)
      rw [show ((z : Int) + ((min (lim - z) (nD u) : Nat) : Int)) = ((z + min (lim - z) (nD u) : Nat) : Int) by omega, show min lim (z + (nD u + nDs (d.L.drop (i + 1)))) = min lim (z + min (lim - z) (nD u) + nDs (d.L.drop (i + 1))) by omega]
      exact this
    ·exact absurd h h'
   ·rw [List.drop_of_length_le (by omega), nDs]; omega
 refine mR (d.L.length + 1) _ _ _ ?_
 have := loop d.L.length 0 1 (by omega) (by omega) (by omega)
 rw [List.drop_zero, ← pV] at this
 exact this
theorem oM (d : GDatum) : bQ d (decide (nD d < 3000)) := nj 0 _ _ ⟨_, xv d 3000 (by omega) (by omega), by
 by_cases h : nD d < 3000
 ·rw [decide_eq_true h, decide_eq_true (by omega)]
 ·rw [decide_eq_false h, decide_eq_false (by omega)]⟩
theorem kJ (n : Int) : bt n (dI n) := mc 0 _ _ rfl
end Go.Proofs.YthnohcipianijaaGreatDoor
namespace Go.Proofs.YthnohcipianijaaGreatDoor
open Go.RowKit Lx Sx
set_option maxRecDepth 100000
section
variable {p : List Tree} {g : Nat} {m : Int} {t : Tree} {env : List Bnd} {r : Nat}
theorem vA : evG p (g + 1) m t env 0 = (GD0, 21, 0) := by rw [evG]
theorem mM (h : t.kind = 10) : evG p (g + 1) m t env (r + 1) = (dI (iy t.text 0), 0, r) := by simp [evG, h]
theorem rL (h : t.kind = 11) : evG p (g + 1) m t env (r + 1) = (⟨2, 0, (t.text.drop 1).take (t.text.length - 1 - 1), []⟩, 0, r) := by simp [evG, h]
theorem rS (h : t.kind = 13) : evG p (g + 1) m t env (r + 1) = (dB true, 0, r) := by simp [evG, h]
theorem rI (h : t.kind = 14) : evG p (g + 1) m t env (r + 1) = (dB false, 0, r) := by simp [evG, h]
theorem rE (h : t.kind = 22) : evG p (g + 1) m t env (r + 1) = evG p g m (am t 0) env r := by simp [evG, h]
theorem nk (h : t.kind = 12) : evG p (g + 1) m t env (r + 1) = (match eI env t.text with | some d => (d, 0, r) | none => (GD0, 7, r)) := by simp only [evG, h]; rfl
theorem rP (h : t.kind = 20) : evG p (g + 1) m t env (r + 1) = (match evG p g m (am t 0) env r with | (d, e, r') => if e = 0 then evG p g m (am t 1) ((t.text, d) :: env) r' else (GD0, e, r')) := by simp only [evG, h]; rfl
theorem oz (h : t.kind = 19) : evG p (g + 1) m t env (r + 1) = (match evG p g m (am t 0) env r with | (d, e, r') => if e = 0 then (if d.Kind = 3 then (if d.N = 1 then evG p g m (am t 1) env r' else evG p g m (am t 2) env r') else (GD0, 20, r')) else (GD0, e, r')) := by simp only [evG, h]; rfl
theorem rU (h : t.kind = 18) : evG p (g + 1) m t env (r + 1) = (match evL (fun k r => evG p g m k env r) t.kids r with | (l, e, r') => if e = 0 then (if 4096 < 1 + wDs l then (GD0, 3, r') else (⟨4, 0, [], l⟩, 0, r')) else (GD0, e, r')) := by simp only [evG, h]; rfl
theorem pL (h : t.kind = 16) : evG p (g + 1) m t env (r + 1) = (match evL (fun k r => evG p g m k env r) t.kids r with | (l, e, r') => if e = 0 then (if (az p m t.text).2.2 = true then (if (bD p (az p m t.text).1 (az p m t.text).2.1).kids.length = l.length + 2 then evG p g (az p m t.text).1 (am (bD p (az p m t.text).1 (az p m t.text).2.1) (l.length + 1)) (bu (bD p (az p m t.text).1 (az p m t.text).2.1).kids l) r' else (GD0, 5, r')) else (GD0, 7, r')) else (GD0, e, r')) := by simp only [evG, h]; rfl
theorem nb (h : t.kind = 21) : evG p (g + 1) m t env (r + 1) = (match evL (fun k r => evG p g m k env r) t.kids r with | (l, e, r') => if e = 0 then ((aV t.text (l.getD 0 GD0) (l.getD 1 GD0)).1, (aV t.text (l.getD 0 GD0) (l.getD 1 GD0)).2, r') else (GD0, e, r')) := by simp only [evG, h]; rfl
theorem zb (h : ¬ (10 ≤ t.kind ∧ t.kind ≤ 22 ∧ t.kind ≠ 17 ∧ t.kind ≠ 15)) : evG p (g + 1) m t env (r + 1) = (GD0, 7, r) := by
 rw [evG]
 repeat rw [if_neg (by omega)]
theorem rH (h : t.kind = 15) : evG p (g + 1) m t env (r + 1) = (GD0, 7, r) := by simp [evG, h]
end
theorem kinds (k : Int) : k = 10 ∨ k = 11 ∨ k = 12 ∨ k = 13 ∨ k = 14 ∨ k = 15 ∨ k = 16 ∨ k = 18 ∨ k = 19 ∨ k = 20 ∨ k = 21 ∨ k = 22 ∨ ¬ (10 ≤ k ∧ k ≤ 22 ∧ k ≠ 17 ∧ k ≠ 15) := by omega
theorem Bw (t : Tree) : 1 ≤ tbulk t := by rw [jE]; omega
theorem dx (t : Tree) (i : Nat) : tbulk (am t i) ≤ tbulk t := by
 rcases Nat.lt_or_ge i t.kids.length with h | h
 ·exact Nat.le_of_lt (by have := bj (cv h); omega)
 ·have e : am t i = .node 0 [] [] [] := by simp only [am, List.getD_eq_getElem?_getD]; rw [List.getElem?_eq_none h]; rfl
  rw [e]; exact Bw t
theorem qY {p : List Tree} {B : Nat} (hb : kbulk p ≤ B) (hB : 1 ≤ B) (m d : Int) : tbulk (bD p m d) ≤ B := by
 refine Nat.le_trans (dx _ _) ?_
 rcases aE p m.toNat with ⟨t, ht, _⟩ | h
 ·rw [dw ht]; exact Nat.le_trans (bY ht) hb
 ·rw [List.getD_eq_getElem?_getD, List.getElem?_eq_none (Nat.le_of_not_lt h)]; exact hB
theorem ka (t : Tree) : tbulk (ba t) ≤ tbulk t := by
 unfold ba
 split
 ·exact dx t 0
 ·exact Nat.le_refl _
def EOk (env : List Bnd) : Prop := ∀ b, b ∈ env → wD b.2 ≤ 2000000
theorem tZ : ∀ {env : List Bnd} {s : List UInt8} {d : GDatum}, EOk env → eI env s = some d → wD d ≤ 2000000
 | [], s, d, _, h => by simp [eI] at h
 | b :: r, s, d, he, h => by
  unfold eI at h
  split at h
  ·simp only [Option.some.injEq] at h; subst h; exact he b (by simp)
  ·exact tZ (fun x hx => he x (by simp [hx])) h
theorem mu {l : List GDatum} (hl : ∀ d, d ∈ l → wD d ≤ 2000000) : ∀ ks : List Tree, EOk (bu ks l) := by
 induction l with
 | nil => intro ks b hb; simp [bu] at hb
 | cons d r ih =>
  intro ks b hb
  cases ks with
  | nil => simp [bu] at hb
  | cons k ks =>
   simp only [bu, List.zipWith_cons_cons, List.mem_cons] at hb
   rcases hb with rfl | hb
   ·exact hl d (by simp)
   ·exact ih (fun x hx => hl x (by simp [hx])) ks b hb
theorem kw {f : Tree → Nat → GDatum × Int × Nat} {B : Nat} : ∀ (ts : List Tree) (r : Nat), (∀ t, t ∈ ts → ∀ r, wD (f (ba t) r).1 ≤ B ∧ (f (ba t) r).2.2 ≤ r) → (∀ d, d ∈ (evL f ts r).1 → wD d ≤ B) ∧ (evL f ts r).2.2 ≤ r ∧ ((evL f ts r).2.1 = 0 → (evL f ts r).1.length = ts.length) ∧ (¬ (evL f ts r).2.1 = 0 → (evL f ts r).1 = [])
 | [], r, _ => by simp [evL]
 | t :: ts, r, h => by
  have h1 := h t (by simp) r
  simp only [evL]
  revert h1
  generalize f (ba t) r = x
  obtain ⟨d, e, r'⟩ := x
  intro h1
  have h2 := kw ts r' fun t ht => h t (by simp [ht])
  simp only at h1 ⊢
  by_cases he : e = 0
  ·rw [if_pos he]
   revert h2
   generalize evL f ts r' = y
   obtain ⟨l, e', r''⟩ := y
   intro h2
   simp only at h2 ⊢
   by_cases he' : e' = 0
   ·rw [if_pos he']
    refine ⟨fun x hx => ?_, by simp only; omega, fun _ => by simp [h2.2.2.1 he'], fun hh => absurd rfl hh⟩
    rcases List.mem_cons.1 hx with rfl | hx
    ·exact h1.1
    ·exact h2.1 x hx
   ·rw [if_neg he']
    exact ⟨by simp, by simp only; omega, fun hh => absurd hh he', fun _ => rfl⟩
  ·rw [if_neg he]
   exact ⟨by simp, h1.2, fun hh => absurd hh he, fun _ => rfl⟩
theorem ct : wD GD0 ≤ 2000000 := by decide
theorem ww (n : Int) : wD (dI n) ≤ 2000000 := by simp [dI, wD, wDs]
theorem qt (b : Bool) : wD (dB b) ≤ 2000000 := by simp [dB, wD, wDs]
theorem Ac (op : List UInt8) (a b : GDatum) : wD (aV op a b).1 ≤ 2000000 := by
 unfold aV
 repeat' split
 all_goals first | exact ct | exact ww _ | exact qt _ | (simp only [wD, wDs, List.length_append]; omega)
theorem fy {p : List Tree} (hb : kbulk p ≤ 1100000) : ∀ (g r : Nat) (m : Int) (t : Tree) (env : List Bnd), tbulk t ≤ 1100000 → EOk env → wD (evG p g m t env r).1 ≤ 2000000 ∧ (evG p g m t env r).2.2 ≤ r := fun g => by
 induction g with
 | zero => intro r m t env _ _; rw [evG]; exact ⟨ct, Nat.zero_le _⟩
 | succ g ih =>
  intro r m t env ht he
  cases r with
  | zero => rw [vA]; exact ⟨ct, Nat.le_refl _⟩
  | succ r =>
   have hk : ∀ i, tbulk (am t i) ≤ 1100000 := fun i => Nat.le_trans (dx t i) ht
   have hL := kw (f := fun k r => evG p g m k env r) (B := 2000000) t.kids r fun k hk' r => ih r m (ba k) env (by
    obtain ⟨i, hi⟩ := List.getElem?_of_mem hk'
    have := bj hi
    have := ka k
    omega) he
   rcases kinds t.kind with h | h | h | h | h | h | h | h | h | h | h | h | h
   ·rw [mM h]; exact ⟨ww _, by simp only; omega⟩
   ·rw [rL h]
    have := jH t
    exact ⟨by simp only [wD, wDs, List.length_take, List.length_drop]; omega, by simp only; omega⟩
   ·rw [nk h]
    cases hl : eI env t.text with
    | none => exact ⟨ct, by simp only; omega⟩
    | some d => exact ⟨tZ he hl, by simp only; omega⟩
   ·rw [rS h]; exact ⟨qt _, by simp only; omega⟩
   ·rw [rI h]; exact ⟨qt _, by simp only; omega⟩
   ·rw [rH h]; exact ⟨ct, by simp only; omega⟩
   ·rw [pL h]
    revert hL
    generalize evL (fun k r => evG p g m k env r) t.kids r = x
    obtain ⟨l, e, r'⟩ := x
    intro hL
    simp only at hL ⊢
    split
    ·split
     ·split
      ·have h1 := ih r' (az p m t.text).1 (am (bD p (az p m t.text).1 (az p m t.text).2.1) (l.length + 1)) (bu (bD p (az p m t.text).1 (az p m t.text).2.1).kids l) (Nat.le_trans (dx _ _) (qY hb (by omega) _ _)) (mu hL.1 _)
       exact ⟨h1.1, by omega⟩
      ·exact ⟨ct, by simp only; omega⟩
     ·exact ⟨ct, by simp only; omega⟩
    ·exact ⟨ct, by simp only; omega⟩
   ·rw [rU h]
    revert hL
    generalize evL (fun k r => evG p g m k env r) t.kids r = x
    obtain ⟨l, e, r'⟩ := x
    intro hL
    simp only at hL ⊢
    split
    ·split
     ·exact ⟨ct, by simp only; omega⟩
     ·exact ⟨by simp only [wD, List.length_nil]; omega, by simp only; omega⟩
    ·exact ⟨ct, by simp only; omega⟩
   ·rw [oz h]
    have h1 := ih r m (am t 0) env (hk 0) he
    revert h1
    generalize evG p g m (am t 0) env r = x
    obtain ⟨d, e, r'⟩ := x
    intro h1
    simp only at h1 ⊢
    split
    ·split
     ·split
      ·have h2 := ih r' m (am t 1) env (hk 1) he
       exact ⟨h2.1, by omega⟩
      ·have h2 := ih r' m (am t 2) env (hk 2) he
       exact ⟨h2.1, by omega⟩
     ·exact ⟨ct, by simp only; omega⟩
    ·exact ⟨ct, by simp only; omega⟩
   ·rw [rP h]
    have h1 := ih r m (am t 0) env (hk 0) he
    revert h1
    generalize evG p g m (am t 0) env r = x
    obtain ⟨d, e, r'⟩ := x
    intro h1
    simp only at h1 ⊢
    split
    ·have h2 := ih r' m (am t 1) ((t.text, d) :: env) (hk 1) (fun b hb => by
      rcases List.mem_cons.1 hb with rfl | hb
      ·exact h1.1
      ·exact he b hb)
     exact ⟨h2.1, by omega⟩
    ·exact ⟨ct, by simp only; omega⟩
   ·rw [nb h]
    revert hL
    generalize evL (fun k r => evG p g m k env r) t.kids r = x
    obtain ⟨l, e, r'⟩ := x
    intro hL
    simp only at hL ⊢
    split
    ·exact ⟨Ac _ _ _, by simp only; omega⟩
    ·exact ⟨ct, by simp only; omega⟩
   ·rw [rE h]
    have h1 := ih r m (am t 0) env (hk 0) he
    exact ⟨h1.1, by omega⟩
   ·rw [zb h]; exact ⟨ct, by simp only; omega⟩
end Go.Proofs.YthnohcipianijaaGreatDoor
namespace Go.Proofs.YthnohcipianijaaGreatDoor
open Go.RowKit Lx Sx
set_option maxRecDepth 100000
set_option maxHeartbeats 1100000
mutual
def prepN (p : List Tree) (m : Int) : Tree → aa
 | .node k s _ ks => ⟨k, if (k == 16 || k == 9) = true then (az p m s).1 else 0, if (k == 16 || k == 9) = true then (az p m s).2.1 else 0, if (k == 16 || k == 9) = true then !(az p m s).2.2 else false, s, prepNs p m ks⟩
def prepNs (p : List Tree) (m : Int) : List Tree → List aa
 | [] => []
 | t :: r => prepN p m t :: prepNs p m r
end
theorem pT (p : List Tree) (m : Int) : ∀ l, prepNs p m l = l.map (prepN p m)
 | [] => by simp [prepNs]
 | t :: r => by simp [prepNs, pT p m r]
section
variable {p : List Tree} {m : Int}
theorem jD (t : Tree) : prepN p m t = ⟨t.kind, if hG t = true then (az p m t.text).1 else 0, if hG t = true then (az p m t.text).2.1 else 0, if hG t = true then !(az p m t.text).2.2 else false, t.text, t.kids.map (prepN p m)⟩ := by
 cases t; simp only [prepN, pT]; rfl
theorem bA (t : Tree) : (prepN p m t).kind = t.kind := by rw [jD]
theorem gf (t : Tree) : (prepN p m t).text = t.text := by rw [jD]
theorem qa (t : Tree) : (prepN p m t).kids = t.kids.map (prepN p m) := by rw [jD]
theorem fW {t u : Tree} {i : Nat} (h : t.kids[i]? = some u) : (prepN p m t).kids[i]? = some (prepN p m u) := by rw [qa, List.getElem?_map, h]; rfl
theorem jW (t : Tree) : (prepN p m t).kids.length = t.kids.length := by rw [qa, List.length_map]
theorem we {t : Tree} (h : t.kind = 16) : (prepN p m t).module = (az p m t.text).1 ∧ (prepN p m t).def_ = (az p m t.text).2.1 ∧ (prepN p m t).free = !(az p m t.text).2.2 := by
 have : hG t = true := by simp [hG, h]
 rw [jD]; simp only [if_pos this, true_and]
theorem uR : ∀ t : Tree, tbulk t ≤ 1000000000 → ∀ (q : List Int) (rest : List GTarget), fF t (dT p m (nodK t q) ++ rest) (prepN p m t) rest := kZ fun t ih hb q rest => by
 have hk := dg t
 have loop : ∀ j i l, t.kids.length - i ≤ j → i ≤ t.kids.length → l = (t.kids.take i).map (prepN p m) → ∀ (z1 z2 : Int) (b : Bool), dC (j + 1) t (dT p m (nodKs (t.kids.drop i) q i) ++ rest) z1 z2 b l i ⟨t.kind, z1, z2, b, t.text, t.kids.map (prepN p m)⟩ rest := fun j => by
  induction j with
  | zero =>
   intro i l hi hle hl z1 z2 b
   refine kh 0 _ _ _ _ _ _ _ _ _ ⟨fun h => by omega, fun h => ?_⟩
   rw [List.drop_of_length_le (by omega), hl, List.take_of_length_le (by omega)]
   exact ⟨rfl, by simp [nodKs, dT]⟩
  | succ j ihj =>
   intro i l hi hle hl z1 z2 b
   refine kh (j + 1) _ _ _ _ _ _ _ _ _ ⟨fun h => ?_, fun h => ?_⟩
   ·obtain ⟨u, hu, hlt⟩ | h' := aE t.kids i
    ·have hbu := bj hu
     rw [aI hu, nodKs, pA, List.append_assoc]
     have hl2 : l ++ [prepN p m u] = (t.kids.take (i + 1)).map (prepN p m) := by rw [hl, List.take_add_one, hu]; simp
     refine ⟨u, hu, prepN p m u, _, ih i u hu (by omega) (q ++ [(i : Int)]) _, ?_, by omega, ihj (i + 1) _ (by omega) (by omega) hl2 z1 z2 b⟩
     rw [hl2, List.length_map, List.length_take]; omega
    ·exact absurd h h'
   ·rw [List.drop_of_length_le (by omega), hl, List.take_of_length_le (by omega)]
    exact ⟨rfl, by simp [nodKs, dT]⟩
 have l0 : fu (t.kids.length + 2) t (dT p m (nodK t q) ++ rest) (hG t) (prepN p m t) rest := by
  refine oP (t.kids.length + 1) _ _ _ _ _ ⟨fun h => ?_, fun h => ?_⟩
  ·rw [qM, dT, if_pos h]
   refine ⟨tgK p m q t, rfl, by simp, ?_⟩
   have := loop t.kids.length 0 [] (by omega) (by omega) (by simp) (az p m t.text).1 (az p m t.text).2.1 (!(az p m t.text).2.2)
   rw [jD, if_pos h, if_pos h, if_pos h]
   exact this
  ·have h' : ¬ hG t = true := by rw [h]; decide
   rw [qM, dT, if_neg h']
   have := loop t.kids.length 0 [] (by omega) (by omega) (by simp) 0 0 false
   rw [jD, if_neg h', if_neg h', if_neg h']
   exact this
 refine pa (t.kids.length + 2) _ _ _ _ ⟨fun h => ?_, fun h => ?_⟩
 ·have : hG t = true := by simp [hG, h]
  rw [this] at l0; exact l0
 ·have : hG t = (t.kind == 9) := by simp [hG, h]
  rw [this] at l0; exact l0
end
def mX (p : List Tree) : Nat → List Tree → List aa
 | _, [] => []
 | i, t :: r => prepN p i t :: mX p (i + 1) r
def cg (p : List Tree) : List aa := mX p 0 p
theorem re (p : List Tree) : ∀ (l : List Tree) (i k : Nat) (t : Tree), l[k]? = some t → (mX p i l)[k]? = some (prepN p ((i + k : Nat) : Int) t)
 | [], i, k, t, h => by simp at h
 | u :: r, i, 0, t, h => by simp at h; subst h; simp [mX]
 | u :: r, i, k + 1, t, h => by
  have := re p r (i + 1) k t (by simpa using h)
  rw [show i + 1 + k = i + (k + 1) by omega] at this
  simpa [mX] using this
theorem mF {p : List Tree} {k : Nat} {t : Tree} (h : p[k]? = some t) : (cg p)[k]? = some (prepN p (k : Int) t) := by
 have := re p p 0 k t h
 simpa [cg] using this
def pb (b : Bnd) : ah := ⟨b.1, b.2⟩
def VOk (p : List Tree) (g : Nat) : Prop := ∀ (r m : Nat) (t : Tree) (env : List Bnd) (fuel : Nat), r < g → r ≤ fuel → fuel ≤ 16384 → m < p.length → exT t → tbulk t ≤ 1100000 → EOk env →
 S_eval_runner_value (cg p) fuel ((fuel : Int) - (r : Int)) (prepN p m t) (env.map pb) (evG p g m t env r).1 (evG p g m t env r).2.1 (cg p) fuel ((fuel : Int) - ((evG p g m t env r).2.2 : Int))
section
variable {p : List Tree} (hb : kbulk p ≤ 1100000)
theorem BL {g : Nat} (hb : kbulk p ≤ 1100000) (H : VOk p g) (m : Nat) (t : Tree) (env : List Bnd) (fuel : Nat) (hf : fuel ≤ 16384) (hm : m < p.length) (hx : exT t) (ht : tbulk t ≤ 1100000) (he : EOk env) (r : Nat) (hr : r < g) (hrf : r ≤ fuel) :
  S_eval_runner_all (cg p) fuel ((fuel : Int) - (r : Int)) (prepN p m t) (env.map pb) (evL (fun k r => evG p g m k env r) t.kids r).1 (evL (fun k r => evG p g m k env r) t.kids r).2.1 (cg p) fuel ((fuel : Int) - ((evL (fun k r => evG p g m k env r) t.kids r).2.2 : Int)) := by
 have hk := dg t
 have loop : ∀ j i (r : Nat) acc, t.kids.length - i ≤ j → i ≤ t.kids.length → acc.length = i → r < g → r ≤ fuel → eb (2 * j + 1) (prepN p m t) (env.map pb) (cg p) fuel ((fuel : Int) - (r : Int)) acc i
   (if (evL (fun k r => evG p g m k env r) (t.kids.drop i) r).2.1 = 0 then acc ++ (evL (fun k r => evG p g m k env r) (t.kids.drop i) r).1 else []) (evL (fun k r => evG p g m k env r) (t.kids.drop i) r).2.1 (cg p) fuel ((fuel : Int) - ((evL (fun k r => evG p g m k env r) (t.kids.drop i) r).2.2 : Int)) := fun j => by
  induction j with
  | zero =>
   intro i r acc hi hle hacc hr hrf
   refine jk 0 _ _ _ _ _ _ _ _ _ _ _ _ ⟨fun h => by rw [jW] at h; omega, fun h => ?_⟩
   rw [List.drop_of_length_le (by omega), evL]
   exact ⟨by simp, rfl, rfl, rfl, rfl⟩
  | succ j ihj =>
   intro i r acc hi hle hacc hr hrf
   refine jk (2 * j + 2) _ _ _ _ _ _ _ _ _ _ _ _ ⟨fun h => ?_, fun h => ?_⟩
   ·rw [jW] at h
    obtain ⟨u, hu, hlt⟩ | h' := aE t.kids i
    ·obtain ⟨a1, a2, a3, a4⟩ := sh hx hu
     have hbu := bj hu
     have hv := H r m (ba u) env fuel hr hrf hf hm a1 (by omega) he
     have hin := fy hb g r m (ba u) env (by omega) he
     rw [aI hu, evL]
     revert hv hin
     generalize evG p g m (ba u) env r = y
     obtain ⟨d, e, r'⟩ := y
     intro hv hin
     simp only at hv hin ⊢
     have l1 : dZ (2 * j + 2) (prepN p m t) (env.map pb) (prepN p m (ba u)) (cg p) fuel ((fuel : Int) - (r : Int)) acc i
       (if (if e = 0 then (match evL (fun k r => evG p g m k env r) (t.kids.drop (i + 1)) r' with | (l, e', r'') => if e' = 0 then (d :: l, (0 : Int), r'') else ([], e', r'')) else ([], e, r')).2.1 = 0 then acc ++ (if e = 0 then (match evL (fun k r => evG p g m k env r) (t.kids.drop (i + 1)) r' with | (l, e', r'') => if e' = 0 then (d :: l, (0 : Int), r'') else ([], e', r'')) else ([], e, r')).1 else [])
       (if e = 0 then (match evL (fun k r => evG p g m k env r) (t.kids.drop (i + 1)) r' with | (l, e', r'') => if e' = 0 then (d :: l, (0 : Int), r'') else ([], e', r'')) else ([], e, r')).2.1 (cg p) fuel ((fuel : Int) - ((if e = 0 then (match evL (fun k r => evG p g m k env r) (t.kids.drop (i + 1)) r' with | (l, e', r'') => if e' = 0 then (d :: l, (0 : Int), r'') else ([], e', r'')) else ([], e, r')).2.2 : Int)) := by
      refine nH (2 * j + 1) _ _ _ _ _ _ _ _ _ _ _ _ _ ⟨d, e, _, _, _, hv, fun h0 => ?_, fun h0 => ?_⟩
      ·exact ⟨by simp [h0], by simp [h0], rfl, rfl, by simp [h0]⟩
      ·have hrec := ihj (i + 1) r' (acc ++ [d]) (by omega) (by omega) (by simp [hacc]) (by omega) (by omega)
       refine ⟨by simp [hacc]; omega, by omega, ?_⟩
       simp only [if_pos h0]
       revert hrec
       generalize evL (fun k r => evG p g m k env r) (t.kids.drop (i + 1)) r' = x
       obtain ⟨l, e', r''⟩ := x
       intro hrec
       simp only at hrec ⊢
       by_cases he' : e' = 0
       ·simp only [if_pos he'] at hrec ⊢
        subst he'
        simpa using hrec
       ·simp only [if_neg he'] at hrec ⊢
        exact hrec
     refine ⟨prepN p m u, fW hu, fun h17 => ?_, fun h17 => ?_⟩
     ·rw [bA] at h17
      obtain ⟨b1, b2, b3⟩ := qI hx hu (a4.1 h17)
      have e : ba u = am u 0 := by rw [ba, if_pos h17]
      rw [e] at l1
      exact ⟨_, fW (cv (by omega)), l1⟩
     ·rw [bA] at h17
      have e : ba u = u := by rw [ba, if_neg h17]
      rw [e] at l1
      exact l1
    ·exact absurd h h'
   ·rw [jW] at h
    rw [List.drop_of_length_le (by omega), evL]
    exact ⟨by simp, rfl, rfl, rfl, rfl⟩
 refine oo (2 * t.kids.length + 1) _ _ _ _ _ _ _ _ _ _ ?_
 have := loop t.kids.length 0 r [] (by omega) (by omega) rfl hr hrf
 rw [List.drop_zero] at this
 have e : (if (evL (fun k r => evG p g m k env r) t.kids r).2.1 = 0 then [] ++ (evL (fun k r => evG p g m k env r) t.kids r).1 else []) = (evL (fun k r => evG p g m k env r) t.kids r).1 := by
  split
  ·rfl
  ·rename_i hne
   refine ((kw (B := 2000000) t.kids r fun k hk' r => ?_).2.2.2 hne).symm
   obtain ⟨i, hi⟩ := List.getElem?_of_mem hk'
   have := bj hi
   have := ka k
   exact fy hb g r m (ba k) env (by omega) he
 rw [e] at this
 exact this
theorem uF {g : Nat} (H : VOk p g) (i : Nat) (a : Tree) (l : List GDatum) (fuel : Nat) (hf : fuel ≤ 16384) (hi : i < p.length) (ha : a.kids.length = l.length + 2) (hx : exT (am a (l.length + 1))) (hab : tbulk a ≤ 1100000) (hl : ∀ d, d ∈ l → wD d ≤ 2000000) (r : Nat) (hr : r < g) (hrf : r ≤ fuel) :
  S_eval_runner_enter (cg p) fuel ((fuel : Int) - (r : Int)) (prepN p i a) l (evG p g i (am a (l.length + 1)) (bu a.kids l) r).1 (evG p g i (am a (l.length + 1)) (bu a.kids l) r).2.1 (cg p) fuel ((fuel : Int) - ((evG p g i (am a (l.length + 1)) (bu a.kids l) r).2.2 : Int)) := by
 have hlen := dg a
 have loop : ∀ j, j ≤ l.length → dl (j + 1) (cg p) fuel ((fuel : Int) - (r : Int)) (prepN p i a) l ((bu (a.kids.drop j) (l.drop j)).map pb) ((j : Int) - 1) (evG p g i (am a (l.length + 1)) (bu a.kids l) r).1 (evG p g i (am a (l.length + 1)) (bu a.kids l) r).2.1 (cg p) fuel ((fuel : Int) - ((evG p g i (am a (l.length + 1)) (bu a.kids l) r).2.2 : Int)) := fun j => by
  induction j with
  | zero =>
   intro _
   refine ie 0 _ _ _ _ _ _ _ _ _ _ _ _ ⟨fun h => by omega, fun h => ⟨by omega, _, fW (cv (by omega)), _, _, _, _, _, H r i _ _ fuel hr hrf hf hi hx (Nat.le_trans (dx _ _) hab) (mu hl a.kids), rfl, rfl, rfl, rfl, rfl⟩⟩
  | succ j ihj =>
   intro hj
   obtain ⟨u, hu, _⟩ | h' := aE a.kids j
   ·obtain ⟨d, hd, _⟩ | h'' := aE l j
    ·refine ie (j + 1) _ _ _ _ _ _ _ _ _ _ _ _ ⟨fun h => ⟨j, by omega, _, fW hu, j, by omega, d, hd, by constructor <;> omega, ?_⟩, fun h => by omega⟩
     have := ihj (by omega)
     rw [aI hu, aI hd] at this
     rw [show (((j + 1 : Nat) : Int) - 1 - 1) = (j : Int) - 1 by omega, gf]
     simpa [bu, pb] using this
    ·omega
   ·omega
 have := loop l.length (Nat.le_refl _)
 rw [List.drop_of_length_le (Nat.le_refl l.length)] at this
 refine mC (l.length + 1) _ _ _ _ _ _ _ _ _ _ ?_
 simpa [bu] using this
end
end Go.Proofs.YthnohcipianijaaGreatDoor
namespace Go.Proofs.YthnohcipianijaaGreatDoor
open Go.RowKit Lx Sx
set_option maxRecDepth 100000
set_option maxHeartbeats 1100000
theorem lF (b : Bool) : dA b (dB b) := pN 0 _ _ ⟨fun h => by rw [h]; rfl, fun h => by rw [h]; rfl⟩
theorem vw {d : GDatum} {B : Nat} (h : wD d ≤ B) : d.S.length ≤ B := by rw [li] at h; omega
theorem qL {P : List aa} {F U : Int} {N : aa} {x y : GDatum} (b : Bool) (hx : wD x ≤ 2000000) (hy : wD y ≤ 2000000) (h61 : ¬ N.text = [61, 61]) (hb : b = true ↔ (N.text = [43] ∧ x.Kind = 2 ∧ y.Kind = 2)) :
  L1_eval_runner_operation 1 N P F U x y b (aV N.text x y).1 (aV N.text x y).2 P F U := by
 have h1 := vw hx
 have h2 := vw hy
 have e1 : IntKind.i64.wrap (((x.S.length : Nat) : Int) + ((y.S.length : Nat) : Int)) = ((x.S.length : Nat) : Int) + ((y.S.length : Nat) : Int) := IntWalk.i64_in _ (by omega)
 have e2 : IntKind.i64.wrap (((x.S.length : Nat) : Int) + ((y.S.length : Nat) : Int) + 1) = ((x.S.length : Nat) : Int) + ((y.S.length : Nat) : Int) + 1 := IntWalk.i64_in _ (by omega)
 refine kr 0 _ _ _ _ _ _ _ _ _ _ _ _ ⟨fun ht => ⟨fun h => ?_, fun h => ⟨by omega, ?_⟩⟩, fun hf => ?_⟩
 ·rw [e1, e2] at h
  have e : aV N.text x y = (GD0, 3) := by rw [aV, if_neg h61, if_pos (hb.1 ht), if_pos (by omega)]
  rw [e]; exact ⟨rfl, rfl, rfl, rfl, rfl⟩
 ·rw [e1, e2] at h
  have e : aV N.text x y = (⟨2, 0, x.S ++ y.S, []⟩, 0) := by rw [aV, if_neg h61, if_pos (hb.1 ht), if_neg (by omega)]
  rw [e]; exact ⟨rfl, rfl, rfl, rfl, rfl⟩
 ·have hn : ¬ (N.text = [43] ∧ x.Kind = 2 ∧ y.Kind = 2) := fun h => by rw [hb.2 h] at hf; cases hf
  have e : aV N.text x y = (if ¬ (x.Kind = 1 ∧ y.Kind = 1) then (GD0, 20) else if N.text = [43] then (dI (IntKind.i64.wrap (x.N + y.N)), 0) else if N.text = [45] then (dI (IntKind.i64.wrap (x.N - y.N)), 0) else if N.text = [42] then (dI (IntKind.i64.wrap (x.N * y.N)), 0) else (dB (decide (x.N < y.N)), 0)) := by rw [aV, if_neg h61, if_neg hn]
  rw [e]
  refine ⟨fun k => ?_, fun k => ⟨fun k2 => ?_, fun k2 => ?_⟩⟩
  ·rw [if_pos (fun h => k h.1)]; exact ⟨rfl, rfl, rfl, rfl, rfl⟩
  ·rw [if_pos (fun h => k2 h.2)]; exact ⟨rfl, rfl, rfl, rfl, rfl⟩
  ·rw [if_neg (fun h => h ⟨k, k2⟩)]
   refine ⟨fun q => ?_, fun q => ⟨fun q2 => ?_, fun q2 => ⟨fun q3 => ?_, fun q3 => ?_⟩⟩⟩
   ·rw [if_pos q]; exact ⟨rfl, rfl, rfl, rfl, rfl⟩
   ·rw [if_neg q, if_pos q2]; exact ⟨rfl, rfl, rfl, rfl, rfl⟩
   ·rw [if_neg q, if_neg q2, if_pos q3]; exact ⟨rfl, rfl, rfl, rfl, rfl⟩
   ·rw [if_neg q, if_neg q2, if_neg q3]; exact ⟨_, lF _, rfl, rfl, rfl, rfl, rfl⟩
theorem AX {P : List aa} {F U : Int} {N : aa} {x y : GDatum} (hx : wD x ≤ 2000000) (hy : wD y ≤ 2000000) :
  L0_eval_runner_operation 2 N P F U x y (aV N.text x y).1 (aV N.text x y).2 P F U := by
 refine kv 1 _ _ _ _ _ _ _ _ _ _ _ ⟨fun h => ⟨fun k => ?_, fun k => ?_⟩, fun h => ⟨fun k => ⟨fun q => ?_, fun q => ?_⟩, fun k => ?_⟩⟩
 ·have e : aV N.text x y = (GD0, 20) := by rw [aV, if_pos h, if_neg k]
  rw [e]; exact ⟨rfl, rfl, rfl, rfl, rfl⟩
 ·have e : aV N.text x y = (dB (sameD x y), 0) := by rw [aV, if_pos h, if_pos k]
  rw [e]; exact ⟨_, nK x (by have := qg x; omega) y, _, lF _, rfl, rfl, rfl, rfl, rfl⟩
 ·exact qL _ hx hy h (by simp [k, q])
 ·exact qL _ hx hy h (by simp [q])
 ·exact qL _ hx hy h (by simp [k])
theorem rr {P : List aa} {F U : Int} {N : aa} (k : Nat) : ∀ (env : List Bnd), dj (env.length + k + 1) P F U N (env.map pb) ((eI env N.text).getD GD0) (if (eI env N.text).isSome = true then 0 else 7) P F (U + 1)
 | [] => ic _ _ _ _ _ _ _ _ _ _ _ ⟨fun _ => ⟨rfl, rfl, rfl, rfl, rfl⟩, fun x l h => by cases h⟩
 | b :: r => by
  rw [show (b :: r).length + k + 1 = (r.length + k + 1) + 1 by simp only [List.length_cons]; omega]
  refine ic (r.length + k + 1) _ _ _ _ _ _ _ _ _ _ ⟨fun h => (by cases h), fun x l h => ?_⟩
  simp only [List.map_cons, List.cons.injEq] at h
  obtain ⟨rfl, rfl⟩ := h
  refine ⟨fun h => ?_, fun h => ?_⟩
  ·have h' : b.1 = N.text := h
   rw [eI, if_pos h']; exact ⟨rfl, rfl, rfl, rfl, rfl⟩
  ·have h' : ¬ b.1 = N.text := h
   rw [eI, if_neg h']; exact rr k r
theorem zH {p : List Tree} (hp : bV p = true) (hb : kbulk p ≤ 1100000) : ∀ g, VOk p g := fun g => by
 induction g with
 | zero => intro r m t env fuel hr; omega
 | succ g ih =>
  intro r m t env fuel hr hrf hf hm hx ht he
  have hkb : ∀ i, tbulk (am t i) ≤ 1100000 := fun i => Nat.le_trans (dx t i) ht
  cases r with
  | zero =>
   rw [vA]
   exact il 20 _ _ _ _ _ _ _ _ _ _ ⟨fun _ => ⟨rfl, rfl, rfl, rfl, rfl⟩, fun h => absurd (by omega) h⟩
  | succ r =>
   have e1 : (fuel : Int) - ((r + 1 : Nat) : Int) + 1 = (fuel : Int) - (r : Int) := by omega
   obtain ⟨hl22, hl20, hl19, hl21⟩ := ur hx
   obtain ⟨hw10, hw11, hw16, hw21⟩ := rW hx
   have kid : ∀ i, i < t.kids.length → t.kind ≠ 16 → exT (am t i) ∧ (prepN p m t).kids[i]? = some (prepN p m (am t i)) := fun i hi h16 => ⟨(qQ hx (cv hi) h16).1, fW (cv hi)⟩
   have hall := BL hb ih m t env fuel hf hm hx ht he r (by omega) (by omega)
   have hinv : (∀ d, d ∈ (evL (fun k r => evG p g m k env r) t.kids r).1 → wD d ≤ 2000000) ∧ (evL (fun k r => evG p g m k env r) t.kids r).2.2 ≤ r ∧ ((evL (fun k r => evG p g m k env r) t.kids r).2.1 = 0 → (evL (fun k r => evG p g m k env r) t.kids r).1.length = t.kids.length) := by
    have := kw (f := fun k r => evG p g m k env r) (B := 2000000) t.kids r fun k hk' r => by
     obtain ⟨i, hi⟩ := List.getElem?_of_mem hk'
     have := bj hi
     have := ka k
     exact fy hb g r m (ba k) env (by omega) he
    exact ⟨this.1, this.2.1, this.2.2.1⟩
   have htl := jH t
   have hkl := dg t
   have c15 : t.kind ≠ 10 → t.kind ≠ 11 → t.kind ≠ 13 → t.kind ≠ 14 → t.kind ≠ 12 → t.kind ≠ 22 → t.kind ≠ 20 → t.kind ≠ 19 → t.kind ≠ 18 → t.kind ≠ 16 → t.kind ≠ 21 → t.kind = 15 := by
    have h : 10 ≤ t.kind ∧ t.kind ≤ 22 ∧ t.kind ≠ 17 := by simpa [dQ] using hx.2
    omega
   refine il (env.length + 30) _ _ _ _ _ _ _ _ _ _ ⟨fun h => by omega, fun _ => ⟨by constructor <;> omega, fun h10 => ?_, fun n10 => mv (env.length + 29) _ _ _ _ _ _ _ _ _ _ ⟨fun h11 => ?_, fun n11 => lV (env.length + 28) _ _ _ _ _ _ _ _ _ _ ⟨fun h13 => ?_, fun n13 => mj (env.length + 27) _ _ _ _ _ _ _ _ _ _ ⟨fun h14 => ?_, fun n14 => mq (env.length + 26) _ _ _ _ _ _ _ _ _ _ ⟨fun h12 => ?_, fun n12 => mB (env.length + 25) _ _ _ _ _ _ _ _ _ _ ⟨fun h22 => ?_, fun n22 => mA (env.length + 24) _ _ _ _ _ _ _ _ _ _ ⟨fun h20 => ?_, fun n20 => lS (env.length + 23) _ _ _ _ _ _ _ _ _ _ ⟨fun h19 => ?_, fun n19 => lL (env.length + 22) _ _ _ _ _ _ _ _ _ _ ⟨fun h18 => ?_, fun n18 => lI (env.length + 21) _ _ _ _ _ _ _ _ _ _ ⟨fun h16 => ?_, fun n16 => lJ (env.length + 20) _ _ _ _ _ _ _ _ _ _ ⟨fun h21 => ?_, fun n21 => ?_⟩⟩⟩⟩⟩⟩⟩⟩⟩⟩⟩⟩
   ·rw [bA] at h10
    rw [mM h10]
    refine my _ _ _ _ _ _ _ _ _ _ ⟨_, (), ?_, rfl, rfl, rfl, rfl, e1⟩
    rw [gf]; exact vT (hw10 h10)
   ·rw [bA] at h11
    have h2 := Bn (hw11 h11)
    rw [rL h11]
    refine mx _ _ _ _ _ _ _ _ _ _ ?_
    rw [gf]
    exact ⟨by constructor <;> omega, t.text.length - 1, by omega, by omega, by omega, rfl, rfl, rfl, rfl, e1⟩
   ·rw [bA] at h13
    rw [rS h13]
    exact ⟨_, lF _, rfl, rfl, rfl, rfl, e1⟩
   ·rw [bA] at h14
    rw [rI h14]
    exact ⟨_, lF _, rfl, rfl, rfl, rfl, e1⟩
   ·rw [bA] at h12
    have h6 := rr (P := cg p) (F := fuel) (U := (fuel : Int) - ((r + 1 : Nat) : Int)) (N := prepN p m t) 25 env
    rw [nk h12]
    rw [gf, e1] at h6
    cases hE : eI env t.text with
    | none => rw [hE] at h6; exact h6
    | some d => rw [hE] at h6; exact h6
   ·rw [bA] at h22
    rw [rE h22]
    obtain ⟨k1, k2⟩ := kid 0 (by have := hl22 h22; omega) (by omega)
    have hv := ih r m (am t 0) env fuel (by omega) (by omega) hf hm k1 (hkb 0) he
    exact mo _ _ _ _ _ _ _ _ _ _ _ ⟨_, k2, _, _, _, _, _, by rw [e1]; exact hv, rfl, rfl, rfl, rfl, rfl⟩
   ·rw [bA] at h20
    rw [rP h20]
    have hl := hl20 h20
    obtain ⟨k1, k2⟩ := kid 0 (by omega) (by omega)
    obtain ⟨k3, k4⟩ := kid 1 (by omega) (by omega)
    have hv := ih r m (am t 0) env fuel (by omega) (by omega) hf hm k1 (hkb 0) he
    have hi := fy hb g r m (am t 0) env (hkb 0) he
    revert hv hi
    generalize evG p g m (am t 0) env r = x
    obtain ⟨d, e, r'⟩ := x
    intro hv hi
    simp only at hv hi ⊢
    refine lK _ _ _ _ _ _ _ _ _ _ _ ⟨_, k2, d, e, _, _, _, by rw [e1]; exact hv, fun hne => ?_, fun h0 => ?_⟩
    ·rw [if_neg hne]; exact ⟨rfl, rfl, rfl, rfl, rfl⟩
    ·rw [if_pos h0]
     have hv1 := ih r' m (am t 1) ((t.text, d) :: env) fuel (by omega) (by omega) hf hm k3 (hkb 1) (fun b hb => by
      rcases List.mem_cons.1 hb with rfl | hb
      ·exact hi.1
      ·exact he b hb)
     exact ⟨_, k4, _, _, _, _, _, by rw [gf]; exact hv1, rfl, rfl, rfl, rfl, rfl⟩
   ·rw [bA] at h19
    rw [oz h19]
    have hl := hl19 h19
    obtain ⟨k1, k2⟩ := kid 0 (by omega) (by omega)
    obtain ⟨k3, k4⟩ := kid 1 (by omega) (by omega)
    obtain ⟨k5, k6⟩ := kid 2 (by omega) (by omega)
    have hv := ih r m (am t 0) env fuel (by omega) (by omega) hf hm k1 (hkb 0) he
    have hi := fy hb g r m (am t 0) env (hkb 0) he
    revert hv hi
    generalize evG p g m (am t 0) env r = x
    obtain ⟨d, e, r'⟩ := x
    intro hv hi
    simp only at hv hi ⊢
    refine ⟨_, _, _, _, _, ?_, rfl, rfl, rfl, rfl, rfl⟩
    rw [e1]
    refine mm 0 _ _ _ _ _ _ _ _ _ _ ⟨_, k2, d, e, _, _, _, hv, fun hne => ?_, fun h0 => ⟨fun q => ?_, fun q => ⟨fun q1 => ?_, fun q1 => ?_⟩⟩⟩
    ·rw [if_neg hne]; exact ⟨rfl, rfl, rfl, rfl, rfl⟩
    ·rw [if_pos h0, if_neg q]; exact ⟨rfl, rfl, rfl, rfl, rfl⟩
    ·rw [if_pos h0, if_pos q, if_pos q1]
     have hv1 := ih r' m (am t 1) env fuel (by omega) (by omega) hf hm k3 (hkb 1) he
     exact ⟨_, k4, _, _, _, _, _, hv1, rfl, rfl, rfl, rfl, rfl⟩
    ·rw [if_pos h0, if_pos q, if_neg q1]
     have hv1 := ih r' m (am t 2) env fuel (by omega) (by omega) hf hm k5 (hkb 2) he
     exact ⟨_, k6, _, _, _, _, _, hv1, rfl, rfl, rfl, rfl, rfl⟩
   ·rw [bA] at h18
    rw [rU h18]
    revert hall hinv
    generalize evL (fun k r => evG p g m k env r) t.kids r = x
    obtain ⟨l, e, r'⟩ := x
    intro hall hinv
    simp only at hall hinv ⊢
    refine ⟨_, _, _, _, _, ?_, rfl, rfl, rfl, rfl, rfl⟩
    rw [e1]
    have hw : wD ⟨4, 0, [], l⟩ = 1 + wDs l := by simp [wD]
    refine nF 0 _ _ _ _ _ _ _ _ _ _ ⟨l, e, _, _, _, hall, fun hne => ?_, fun h0 => ⟨_, pD _, fun q => ?_, fun q => ?_⟩⟩
    ·rw [if_neg hne]; exact ⟨rfl, rfl, rfl, rfl, rfl⟩
    ·rw [if_pos h0, if_pos (by omega)]; exact ⟨rfl, rfl, rfl, rfl, rfl⟩
    ·rw [if_pos h0, if_neg (by omega)]; exact ⟨rfl, rfl, rfl, rfl, rfl⟩
   ·rw [bA] at h16
    rw [pL h16]
    obtain ⟨u1, u2, u3⟩ := we (p := p) (m := m) h16
    revert hall hinv
    generalize evL (fun k r => evG p g m k env r) t.kids r = x
    obtain ⟨l, e, r'⟩ := x
    intro hall hinv
    simp only at hall hinv ⊢
    refine ⟨_, _, _, _, _, ?_, rfl, rfl, rfl, rfl, rfl⟩
    rw [e1]
    refine nv 0 _ _ _ _ _ _ _ _ _ _ ⟨l, e, _, _, _, hall, fun hne => ?_, fun h0 => ⟨fun q => ?_, fun q => ?_⟩⟩
    ·rw [if_neg hne]; exact ⟨rfl, rfl, rfl, rfl, rfl⟩
    ·rw [u3] at q
     have q' : ¬ (az p m t.text).2.2 = true := by intro h; rw [h] at q; cases q
     rw [if_pos h0, if_neg q']; exact ⟨rfl, rfl, rfl, rfl, rfl⟩
    ·rw [u3] at q
     have q' : (az p m t.text).2.2 = true := by
      cases h : (az p m t.text).2.2
      ·rw [h] at q; cases q
      ·rfl
     obtain ⟨i, dd, tt, a, g1, g2, g3, g4⟩ := uH q'
     have hd : bD p (az p m t.text).1 (az p m t.text).2.1 = a := by
      rw [g1, g2]
      unfold bD am
      rw [Int.toNat_natCast, dw g3, Int.toNat_natCast, dw g4]
     rw [if_pos h0, if_pos q', hd, u1, u2, g1, g2]
     have hpos : i < p.length := (List.getElem?_eq_some_iff.1 g3).1
     have hab : tbulk a ≤ 1100000 := Nat.le_trans (Nat.le_of_lt (by have := bj g4; omega)) (Nat.le_trans (bY g3) hb)
     have hlen := hinv.2.2 h0
     refine ⟨i, rfl, _, mF g3, dd, rfl, _, fW g4, by omega, fun z => ?_, fun z => ?_⟩
     ·rw [jW] at z
      rw [if_neg z]; exact ⟨rfl, rfl, rfl, rfl, rfl⟩
     ·rw [jW] at z
      rw [if_pos z]
      obtain ⟨_, hbx⟩ := ni hp g3 g4 z
      exact ⟨_, _, _, _, _, uF ih i a l fuel hf hpos z hbx hab hinv.1 r' (by omega) (by omega), rfl, rfl, rfl, rfl, rfl⟩
   ·rw [bA] at h21
    rw [nb h21]
    have hl := hl21 h21
    revert hall hinv
    generalize evL (fun k r => evG p g m k env r) t.kids r = x
    obtain ⟨l, e, r'⟩ := x
    intro hall hinv
    simp only at hall hinv ⊢
    refine ⟨_, _, _, _, _, ?_, rfl, rfl, rfl, rfl, rfl⟩
    rw [e1]
    refine kK 2 _ _ _ _ _ _ _ _ _ _ ⟨l, e, _, _, _, hall, fun hne => ?_, fun h0 => ?_⟩
    ·rw [if_neg hne]; exact ⟨rfl, rfl, rfl, rfl, rfl⟩
    ·rw [if_pos h0]
     have hlen := hinv.2.2 h0
     obtain ⟨x, y, rfl⟩ : ∃ x y, l = [x, y] := by
      match l, hlen.trans hl with
      | [x, y], _ => exact ⟨x, y, rfl⟩
     have := AX (P := cg p) (F := fuel) (U := (fuel : Int) - (r' : Int)) (N := prepN p m t) (hinv.1 x (by simp)) (hinv.1 y (by simp))
     rw [gf] at this
     exact ⟨x, rfl, y, rfl, this⟩
   ·rw [bA] at n10 n11 n13 n14 n12 n22 n20 n19 n18 n16 n21
    rw [rH (c15 n10 n11 n13 n14 n12 n22 n20 n19 n18 n16 n21)]
    exact ⟨rfl, rfl, rfl, rfl, e1⟩
end Go.Proofs.YthnohcipianijaaGreatDoor
namespace Go.Proofs.YthnohcipianijaaGreatDoor
open Go.RowKit Lx Sx
set_option maxRecDepth 100000
set_option maxHeartbeats 1100000
def rb (b : Bnd) : ac := ⟨b.1, b.2⟩
def ROk (p : List Tree) (g : Nat) : Prop := ∀ (r m : Nat) (t : Tree) (env : List Bnd) (fuel : Nat), r < g → r ≤ fuel → fuel ≤ 16384 → m < p.length → exT t → tbulk t ≤ 1100000 → EOk env →
 S_semvcsref09_machine_eval p fuel ((fuel : Int) - (r : Int)) m t (env.map rb) (evG p g m t env r).1 (evG p g m t env r).2.1 p fuel ((fuel : Int) - ((evG p g m t env r).2.2 : Int))
section
variable {p : List Tree}
theorem Aj {g : Nat} (hb : kbulk p ≤ 1100000) (H : ROk p g) (m : Nat) (t : Tree) (env : List Bnd) (fuel : Nat) (hf : fuel ≤ 16384) (hm : m < p.length) (hx : exT t) (ht : tbulk t ≤ 1100000) (he : EOk env) (r : Nat) (hr : r < g) (hrf : r ≤ fuel) :
  S_semvcsref09_machine_all p fuel ((fuel : Int) - (r : Int)) m t (env.map rb) (evL (fun k r => evG p g m k env r) t.kids r).1 (evL (fun k r => evG p g m k env r) t.kids r).2.1 p fuel ((fuel : Int) - ((evL (fun k r => evG p g m k env r) t.kids r).2.2 : Int)) := by
 have hk := dg t
 have loop : ∀ j i (r : Nat) acc, t.kids.length - i ≤ j → i ≤ t.kids.length → acc.length = i → r < g → r ≤ fuel → bU (j + 1) m t (env.map rb) p fuel ((fuel : Int) - (r : Int)) acc i
   (if (evL (fun k r => evG p g m k env r) (t.kids.drop i) r).2.1 = 0 then acc ++ (evL (fun k r => evG p g m k env r) (t.kids.drop i) r).1 else []) (evL (fun k r => evG p g m k env r) (t.kids.drop i) r).2.1 p fuel ((fuel : Int) - ((evL (fun k r => evG p g m k env r) (t.kids.drop i) r).2.2 : Int)) := fun j => by
  induction j with
  | zero =>
   intro i r acc hi hle hacc hr hrf
   refine eV 0 _ _ _ _ _ _ _ _ _ _ _ _ _ ⟨fun h => by omega, fun h => ?_⟩
   rw [List.drop_of_length_le (by omega), evL]
   exact ⟨by simp, rfl, rfl, rfl, rfl⟩
  | succ j ihj =>
   intro i r acc hi hle hacc hr hrf
   refine eV (j + 1) _ _ _ _ _ _ _ _ _ _ _ _ _ ⟨fun h => ?_, fun h => ?_⟩
   ·obtain ⟨u, hu, hlt⟩ | h' := aE t.kids i
    ·obtain ⟨a1, a2, a3, a4⟩ := sh hx hu
     have hbu := bj hu
     have hv := H r m (ba u) env fuel hr hrf hf hm a1 (by omega) he
     have hin := fy hb g r m (ba u) env (by omega) he
     have hv' : S_semvcsref09_machine_eval p fuel ((fuel : Int) - (r : Int)) m u (env.map rb) (evG p g m (ba u) env r).1 (evG p g m (ba u) env r).2.1 p fuel ((fuel : Int) - ((evG p g m (ba u) env r).2.2 : Int)) := by
      by_cases h17 : u.kind = 17
      ·obtain ⟨b1, b2, b3⟩ := qI hx hu (a4.1 h17)
       have e : ba u = am u 0 := by rw [ba, if_pos h17]
       rw [e] at hv ⊢
       exact cU 1 _ _ _ _ _ _ _ _ _ _ _ ⟨fun _ => jP 0 _ _ _ _ _ _ _ _ _ _ _ ⟨_, cv (by omega), _, _, _, _, _, hv, rfl, rfl, rfl, rfl, rfl⟩, fun h => absurd h17 h⟩
      ·have e : ba u = u := by rw [ba, if_neg h17]
       rw [e] at hv ⊢
       exact hv
     rw [aI hu, evL]
     revert hv' hin
     generalize evG p g m (ba u) env r = y
     obtain ⟨d, e, r'⟩ := y
     intro hin hv'
     simp only at hv' hin ⊢
     refine ⟨u, hu, d, e, _, _, _, hv', fun h0 => ?_, fun h0 => ?_⟩
     ·exact ⟨by simp [h0], by simp [h0], rfl, rfl, by simp [h0]⟩
     ·have hrec := ihj (i + 1) r' (acc ++ [d]) (by omega) (by omega) (by simp [hacc]) (by omega) (by omega)
      refine ⟨by simp [hacc]; omega, ?_⟩
      simp only [if_pos h0]
      revert hrec
      generalize evL (fun k r => evG p g m k env r) (t.kids.drop (i + 1)) r' = x
      obtain ⟨l, e', r''⟩ := x
      intro hrec
      simp only at hrec ⊢
      by_cases he' : e' = 0
      ·simp only [if_pos he'] at hrec ⊢
       subst he'
       simpa using hrec
      ·simp only [if_neg he'] at hrec ⊢
       exact hrec
    ·exact absurd h h'
   ·rw [List.drop_of_length_le (by omega), evL]
    exact ⟨by simp, rfl, rfl, rfl, rfl⟩
 refine kc (t.kids.length + 1) _ _ _ _ _ _ _ _ _ _ _ ?_
 have := loop t.kids.length 0 r [] (by omega) (by omega) rfl hr hrf
 rw [List.drop_zero] at this
 have e : (if (evL (fun k r => evG p g m k env r) t.kids r).2.1 = 0 then [] ++ (evL (fun k r => evG p g m k env r) t.kids r).1 else []) = (evL (fun k r => evG p g m k env r) t.kids r).1 := by
  split
  ·rfl
  ·rename_i hne
   refine ((kw (B := 2000000) t.kids r fun k hk' r => ?_).2.2.2 hne).symm
   obtain ⟨i, hi⟩ := List.getElem?_of_mem hk'
   have := bj hi
   have := ka k
   exact fy hb g r m (ba k) env (by omega) he
 rw [e] at this
 exact this
theorem ux {g : Nat} (H : ROk p g) (i : Nat) (a : Tree) (l : List GDatum) (fuel : Nat) (hf : fuel ≤ 16384) (hi : i < p.length) (ha : a.kids.length = l.length + 2) (hx : exT (am a (l.length + 1))) (hab : tbulk a ≤ 1100000) (hl : ∀ d, d ∈ l → wD d ≤ 2000000) (r : Nat) (hr : r < g) (hrf : r ≤ fuel) :
  S_semvcsref09_machine_call p fuel ((fuel : Int) - (r : Int)) i a l (evG p g i (am a (l.length + 1)) (bu a.kids l) r).1 (evG p g i (am a (l.length + 1)) (bu a.kids l) r).2.1 p fuel ((fuel : Int) - ((evG p g i (am a (l.length + 1)) (bu a.kids l) r).2.2 : Int)) := by
 have hlen := dg a
 have loop : ∀ j, j ≤ l.length → bO (j + 1) p fuel ((fuel : Int) - (r : Int)) i a l ((bu (a.kids.drop j) (l.drop j)).map rb) ((j : Int) - 1) (evG p g i (am a (l.length + 1)) (bu a.kids l) r).1 (evG p g i (am a (l.length + 1)) (bu a.kids l) r).2.1 p fuel ((fuel : Int) - ((evG p g i (am a (l.length + 1)) (bu a.kids l) r).2.2 : Int)) := fun j => by
  induction j with
  | zero =>
   intro _
   refine eC 0 _ _ _ _ _ _ _ _ _ _ _ _ _ ⟨fun h => by omega, fun h => ⟨by constructor <;> omega, l.length + 1, by omega, _, cv (by omega), _, _, _, _, _, H r i _ _ fuel hr hrf hf hi hx (Nat.le_trans (dx _ _) hab) (mu hl a.kids), rfl, rfl, rfl, rfl, rfl⟩⟩
  | succ j ihj =>
   intro hj
   obtain ⟨u, hu, _⟩ | h' := aE a.kids j
   ·obtain ⟨d, hd, _⟩ | h'' := aE l j
    ·refine eC (j + 1) _ _ _ _ _ _ _ _ _ _ _ _ _ ⟨fun h => ⟨j, by omega, u, hu, j, by omega, d, hd, by constructor <;> omega, ?_⟩, fun h => by omega⟩
     have := ihj (by omega)
     rw [aI hu, aI hd] at this
     rw [show (((j + 1 : Nat) : Int) - 1 - 1) = (j : Int) - 1 by omega]
     simpa [bu, rb] using this
    ·omega
   ·omega
 have := loop l.length (Nat.le_refl _)
 rw [List.drop_of_length_le (Nat.le_refl l.length)] at this
 refine fa (l.length + 1) _ _ _ _ _ _ _ _ _ _ _ ⟨fun h => by omega, fun h => ⟨by constructor <;> omega, ?_⟩⟩
 rw [show ((a.kids.length : Int) - 2 - 1) = (l.length : Int) - 1 by omega]
 simpa [bu] using this
end
theorem pK (b : Bool) : cR b (dB b) := nC 0 _ _ ⟨fun h => by rw [h]; rfl, fun h => by rw [h]; rfl⟩
theorem qO {op : List UInt8} {x y : GDatum} (b1 b2 : Bool) (hx : wD x ≤ 2000000) (hy : wD y ≤ 2000000) (h61 : ¬ op = [61, 61]) (hop : op = [43] ∨ op = [45] ∨ op = [42] ∨ op = [60] ∨ op = [61, 61]) (hb : b2 = true ↔ (op = [43] ∧ x.Kind = 2 ∧ y.Kind = 2)) (hc : b1 = true ↔ (x.Kind = 1 ∧ y.Kind = 1)) :
  L1_semvcsref09_bin 1 op x y b1 b2 (aV op x y).1 (aV op x y).2 := by
 have h1 := vw hx
 have h2 := vw hy
 have hw : wD ⟨2, 0, x.S ++ y.S, []⟩ = 1 + (x.S.length + y.S.length) := by simp [wD, wDs]
 have hm : mD ⟨2, 0, x.S ++ y.S, []⟩ = x.S.length + y.S.length := by simp [mD, mDs]
 refine nJ 0 _ _ _ _ _ _ _ ⟨fun ht => ⟨by omega, _, ly _ (by omega), fun h => ?_, fun h => ?_⟩, fun hf => ?_⟩
 ·have e : aV op x y = (GD0, 3) := by rw [aV, if_neg h61, if_pos (hb.1 ht), if_pos (by omega)]
  rw [e]; exact ⟨rfl, rfl⟩
 ·have e : aV op x y = (⟨2, 0, x.S ++ y.S, []⟩, 0) := by rw [aV, if_neg h61, if_pos (hb.1 ht), if_neg (by omega)]
  rw [e]; exact ⟨rfl, rfl⟩
 ·have hn : ¬ (op = [43] ∧ x.Kind = 2 ∧ y.Kind = 2) := fun h => by rw [hb.2 h] at hf; cases hf
  have e : aV op x y = (if ¬ (x.Kind = 1 ∧ y.Kind = 1) then (GD0, 20) else if op = [43] then (dI (IntKind.i64.wrap (x.N + y.N)), 0) else if op = [45] then (dI (IntKind.i64.wrap (x.N - y.N)), 0) else if op = [42] then (dI (IntKind.i64.wrap (x.N * y.N)), 0) else (dB (decide (x.N < y.N)), 0)) := by rw [aV, if_neg h61, if_neg hn]
  rw [e]
  refine ⟨fun k => ?_, fun k => ⟨fun q => ?_, fun q => ⟨fun q2 => ?_, fun q2 => ⟨fun q3 => ?_, fun q3 => ?_⟩⟩⟩⟩
  ·rw [if_pos (fun h => by rw [hc.2 h] at k; cases k)]; exact ⟨rfl, rfl⟩
  ·subst q
   rw [if_neg (fun h => h (hc.1 k)), if_neg (by decide), if_neg (by decide), if_neg (by decide)]; exact ⟨_, pK _, rfl, rfl⟩
  ·rw [if_neg (fun h => h (hc.1 k)), if_pos q2]; exact ⟨rfl, rfl⟩
  ·rw [if_neg (fun h => h (hc.1 k)), if_neg q2, if_pos q3]; exact ⟨rfl, rfl⟩
  ·have q4 : op = [42] := by
    rcases hop with h | h | h | h | h
    ·exact absurd h q2
    ·exact absurd h q3
    ·exact h
    ·exact absurd h q
    ·exact absurd h h61
   rw [if_neg (fun h => h (hc.1 k)), if_neg q2, if_neg q3, if_pos q4]; exact ⟨rfl, rfl⟩
theorem AU {op : List UInt8} {x y : GDatum} (hx : wD x ≤ 2000000) (hy : wD y ≤ 2000000) (hop : op = [43] ∨ op = [45] ∨ op = [42] ∨ op = [60] ∨ op = [61, 61]) : gq op x y (aV op x y).1 (aV op x y).2 := by
 have l0 : ∀ b1 : Bool, (b1 = true ↔ (x.Kind = 1 ∧ y.Kind = 1)) → ef 2 op x y b1 (aV op x y).1 (aV op x y).2 := fun b1 hc => by
  refine nI 1 _ _ _ _ _ _ ⟨fun h => ⟨fun k => ?_, fun k => ?_⟩, fun h => ⟨fun k => ⟨fun q => ?_, fun q => ?_⟩, fun k => ?_⟩⟩
  ·have e : aV op x y = (GD0, 20) := by rw [aV, if_pos h, if_neg k]
   rw [e]; exact ⟨rfl, rfl⟩
  ·have e : aV op x y = (dB (sameD x y), 0) := by rw [aV, if_pos h, if_pos k]
   rw [e]; exact ⟨_, qv x (by have := qg x; omega) y, _, pK _, rfl, rfl⟩
  ·exact qO _ _ hx hy h hop (by simp [k, q]) hc
  ·exact qO _ _ hx hy h hop (by simp [q]) hc
  ·exact qO _ _ hx hy h hop (by simp [k]) hc
 exact nV 2 _ _ _ _ _ ⟨fun h => l0 _ (by simp [h]), fun h => l0 _ (by simp [h])⟩
theorem ql {P : List Tree} {F U : Int} {N : Tree} (k : Nat) : ∀ (env : List Bnd), bN (env.length + k + 1) P F U N (env.map rb) ((eI env N.text).getD GD0) (if (eI env N.text).isSome = true then 0 else 7) P F (U + 1)
 | [] => eJ _ _ _ _ _ _ _ _ _ _ _ ⟨fun _ => ⟨rfl, rfl, rfl, rfl, rfl⟩, fun x l h => by cases h⟩
 | b :: r => by
  rw [show (b :: r).length + k + 1 = (r.length + k + 1) + 1 by simp only [List.length_cons]; omega]
  refine eJ (r.length + k + 1) _ _ _ _ _ _ _ _ _ _ ⟨fun h => (by cases h), fun x l h => ?_⟩
  simp only [List.map_cons, List.cons.injEq] at h
  obtain ⟨rfl, rfl⟩ := h
  refine ⟨fun h => ?_, fun h => ?_⟩
  ·have h' : b.1 = N.text := h
   rw [eI, if_pos h']; exact ⟨rfl, rfl, rfl, rfl, rfl⟩
  ·have h' : ¬ b.1 = N.text := h
   rw [eI, if_neg h']; exact ql k r
theorem zR {p : List Tree} (hp : bV p = true) (hb : kbulk p ≤ 1100000) : ∀ g, ROk p g := fun g => by
 induction g with
 | zero => intro r m t env fuel hr; omega
 | succ g ih =>
  intro r m t env fuel hr hrf hf hm hx ht he
  have hkb : ∀ i, tbulk (am t i) ≤ 1100000 := fun i => Nat.le_trans (dx t i) ht
  have h10 : 10 ≤ t.kind ∧ t.kind ≤ 22 ∧ t.kind ≠ 17 := by simpa [dQ] using hx.2
  cases r with
  | zero =>
   rw [vA]
   exact cU 20 _ _ _ _ _ _ _ _ _ _ _ ⟨fun h => absurd h h10.2.2, fun _ => ⟨fun _ => ⟨rfl, rfl, rfl, rfl, rfl⟩, fun h => absurd (by omega) h⟩⟩
  | succ r =>
   have e1 : (fuel : Int) - ((r + 1 : Nat) : Int) + 1 = (fuel : Int) - (r : Int) := by omega
   obtain ⟨hl22, hl20, hl19, hl21⟩ := ur hx
   obtain ⟨hw10, hw11, hw16, hw21⟩ := rW hx
   have kid : ∀ i, i < t.kids.length → t.kind ≠ 16 → exT (am t i) ∧ t.kids[i]? = some (am t i) := fun i hi h16 => ⟨(qQ hx (cv hi) h16).1, cv hi⟩
   have hall := Aj hb ih m t env fuel hf hm hx ht he r (by omega) (by omega)
   have hinv : (∀ d, d ∈ (evL (fun k r => evG p g m k env r) t.kids r).1 → wD d ≤ 2000000) ∧ (evL (fun k r => evG p g m k env r) t.kids r).2.2 ≤ r ∧ ((evL (fun k r => evG p g m k env r) t.kids r).2.1 = 0 → (evL (fun k r => evG p g m k env r) t.kids r).1.length = t.kids.length) := by
    have := kw (f := fun k r => evG p g m k env r) (B := 2000000) t.kids r fun k hk' r => by
     obtain ⟨i, hi⟩ := List.getElem?_of_mem hk'
     have := bj hi
     have := ka k
     exact fy hb g r m (ba k) env (by omega) he
    exact ⟨this.1, this.2.1, this.2.2.1⟩
   have htl := jH t
   have hkl := dg t
   refine cU (env.length + 30) _ _ _ _ _ _ _ _ _ _ _ ⟨fun h => absurd h h10.2.2, fun _ => ⟨fun h => by omega, fun _ => ⟨by constructor <;> omega, fun h10 => ?_, fun n10 => jp (env.length + 29) _ _ _ _ _ _ _ _ _ _ _ ⟨fun h11 => ?_, fun n11 => jv (env.length + 28) _ _ _ _ _ _ _ _ _ _ _ ⟨fun h13 => eB (env.length + 27) _ _ _ _ _ _ _ _ _ _ _ _ ⟨fun _ => ?_, fun h => by cases h⟩, fun n13 => eB (env.length + 27) _ _ _ _ _ _ _ _ _ _ _ _ ⟨fun h14 => ?_, fun n14 => jy (env.length + 26) _ _ _ _ _ _ _ _ _ _ _ ⟨fun h22 => ?_, fun n22 => jC (env.length + 25) _ _ _ _ _ _ _ _ _ _ _ ⟨fun h12 => ?_, fun n12 => jQ (env.length + 24) _ _ _ _ _ _ _ _ _ _ _ ⟨fun h20 => ?_, fun n20 => iZ (env.length + 23) _ _ _ _ _ _ _ _ _ _ _ ⟨fun h19 => ?_, fun n19 => jg (env.length + 22) _ _ _ _ _ _ _ _ _ _ _ ⟨fun h18 => ?_, fun n18 => jf (env.length + 21) _ _ _ _ _ _ _ _ _ _ _ ⟨fun h16 => ?_, fun n16 => jj (env.length + 20) _ _ _ _ _ _ _ _ _ _ _ ⟨fun h21 => ?_, fun n21 => ?_⟩⟩⟩⟩⟩⟩⟩⟩⟩⟩⟩⟩⟩
   ·rw [mM h10]
    exact ⟨_, wT (hw10 h10), rfl, rfl, rfl, rfl, e1⟩
   ·have h2 := Bn (hw11 h11)
    rw [rL h11]
    exact ⟨by constructor <;> omega, t.text.length - 1, by omega, by omega, by omega, rfl, rfl, rfl, rfl, e1⟩
   ·rw [rS h13]
    have e : (t.kind == 13) = true := by simp [h13]
    exact ⟨_, pK _, by rw [e], rfl, rfl, rfl, e1⟩
   ·have h14' : t.kind = 14 := by simpa using h14
    rw [rI h14']
    have e : (t.kind == 13) = false := by simp [h14']
    exact ⟨_, pK _, by rw [e], rfl, rfl, rfl, e1⟩
   ·rw [rE h22]
    obtain ⟨k1, k2⟩ := kid 0 (by have := hl22 h22; omega) (by omega)
    have hv := ih r m (am t 0) env fuel (by omega) (by omega) hf hm k1 (hkb 0) he
    exact jB _ _ _ _ _ _ _ _ _ _ _ _ ⟨_, k2, _, _, _, _, _, by rw [e1]; exact hv, rfl, rfl, rfl, rfl, rfl⟩
   ·have h6 := ql (P := p) (F := fuel) (U := (fuel : Int) - ((r + 1 : Nat) : Int)) (N := t) 24 env
    rw [nk h12]
    rw [e1] at h6
    cases hE : eI env t.text with
    | none => rw [hE] at h6; exact h6
    | some d => rw [hE] at h6; exact h6
   ·rw [rP h20]
    have hl := hl20 h20
    obtain ⟨k1, k2⟩ := kid 0 (by omega) (by omega)
    obtain ⟨k3, k4⟩ := kid 1 (by omega) (by omega)
    have hv := ih r m (am t 0) env fuel (by omega) (by omega) hf hm k1 (hkb 0) he
    have hi := fy hb g r m (am t 0) env (hkb 0) he
    revert hv hi
    generalize evG p g m (am t 0) env r = x
    obtain ⟨d, e, r'⟩ := x
    intro hv hi
    simp only at hv hi ⊢
    refine jw _ _ _ _ _ _ _ _ _ _ _ _ ⟨_, k2, d, e, _, _, _, by rw [e1]; exact hv, fun hne => ?_, fun h0 => ?_⟩
    ·rw [if_neg hne]; exact ⟨rfl, rfl, rfl, rfl, rfl⟩
    ·rw [if_pos h0]
     have hv1 := ih r' m (am t 1) ((t.text, d) :: env) fuel (by omega) (by omega) hf hm k3 (hkb 1) (fun b hb => by
      rcases List.mem_cons.1 hb with rfl | hb
      ·exact hi.1
      ·exact he b hb)
     exact ⟨_, k4, _, _, _, _, _, hv1, rfl, rfl, rfl, rfl, rfl⟩
   ·rw [oz h19]
    have hl := hl19 h19
    obtain ⟨k1, k2⟩ := kid 0 (by omega) (by omega)
    obtain ⟨k3, k4⟩ := kid 1 (by omega) (by omega)
    obtain ⟨k5, k6⟩ := kid 2 (by omega) (by omega)
    have hv := ih r m (am t 0) env fuel (by omega) (by omega) hf hm k1 (hkb 0) he
    have hi := fy hb g r m (am t 0) env (hkb 0) he
    revert hv hi
    generalize evG p g m (am t 0) env r = x
    obtain ⟨d, e, r'⟩ := x
    intro hv hi
    simp only at hv hi ⊢
    refine jc (env.length + 22) _ _ _ _ _ _ _ _ _ _ _ ⟨_, k2, d, e, _, _, _, by rw [e1]; exact hv, fun hne => ?_, fun h0 => je (env.length + 21) _ _ _ _ _ _ _ _ _ _ _ _ ⟨fun q => ?_, fun q => jh (env.length + 20) _ _ _ _ _ _ _ _ _ _ _ _ ⟨fun q1 => jb (env.length + 19) _ _ _ _ _ _ _ _ _ _ _ ?_, fun q1 => ?_⟩⟩⟩
    ·rw [if_neg hne]; exact ⟨rfl, rfl, rfl, rfl, rfl⟩
    ·rw [if_pos h0, if_neg q]; exact ⟨rfl, rfl, rfl, rfl, rfl⟩
    ·rw [if_pos h0, if_pos q, if_pos q1]
     have hv1 := ih r' m (am t 1) env fuel (by omega) (by omega) hf hm k3 (hkb 1) he
     exact ⟨_, k4, _, _, _, _, _, hv1, rfl, rfl, rfl, rfl, rfl⟩
    ·rw [if_pos h0, if_pos q, if_neg q1]
     have hv1 := ih r' m (am t 2) env fuel (by omega) (by omega) hf hm k5 (hkb 2) he
     exact ⟨_, k6, _, _, _, _, _, hv1, rfl, rfl, rfl, rfl, rfl⟩
   ·rw [rU h18]
    revert hall hinv
    generalize evL (fun k r => evG p g m k env r) t.kids r = x
    obtain ⟨l, e, r'⟩ := x
    intro hall hinv
    simp only at hall hinv ⊢
    have hw : wD ⟨4, 0, [], l⟩ = 1 + wDs l := by simp [wD]
    refine ja _ _ _ _ _ _ _ _ _ _ _ _ ⟨l, e, _, _, _, by rw [e1]; exact hall, fun hne => ?_, fun h0 => ?_⟩
    ·rw [if_neg hne]; exact ⟨rfl, rfl, rfl, rfl, rfl⟩
    ·have hlen := hinv.2.2 h0
     have hbd := uc l hinv.1
     have hmul : l.length * 2000000 ≤ 1100000 * 2000000 := Nat.mul_le_mul_right _ (by omega)
     have hmd := BV ⟨4, 0, [], l⟩
     refine ⟨_, ly _ (by omega), fun q => ?_, fun q => ?_⟩
     ·rw [if_pos h0, if_pos (by omega)]; exact ⟨rfl, rfl, rfl, rfl, rfl⟩
     ·rw [if_pos h0, if_neg (by omega)]; exact ⟨rfl, rfl, rfl, rfl, rfl⟩
   ·rw [pL h16]
    revert hall hinv
    generalize evL (fun k r => evG p g m k env r) t.kids r = x
    obtain ⟨l, e, r'⟩ := x
    intro hall hinv
    simp only at hall hinv ⊢
    refine ji _ _ _ _ _ _ _ _ _ _ _ _ ⟨l, e, _, _, _, by rw [e1]; exact hall, fun hne => ?_, fun h0 => ⟨_, _, _, Bs (by omega) (by omega) (by omega) (by omega), fun q => ?_, fun q => ?_⟩⟩
    ·rw [if_neg hne]; exact ⟨rfl, rfl, rfl, rfl, rfl⟩
    ·have q' : ¬ (az p m t.text).2.2 = true := by rw [q]; decide
     rw [if_pos h0, if_neg q']; exact ⟨rfl, rfl, rfl, rfl, rfl⟩
    ·obtain ⟨i, dd, tt, a, g1, g2, g3, g4⟩ := uH q
     have hd : bD p (az p m t.text).1 (az p m t.text).2.1 = a := by
      rw [g1, g2]
      unfold bD am
      rw [Int.toNat_natCast, dw g3, Int.toNat_natCast, dw g4]
     rw [if_pos h0, if_pos q, hd, g1, g2]
     have hpos : i < p.length := (List.getElem?_eq_some_iff.1 g3).1
     have hab : tbulk a ≤ 1100000 := Nat.le_trans (Nat.le_of_lt (by have := bj g4; omega)) (Nat.le_trans (bY g3) hb)
     have hlen := hinv.2.2 h0
     refine ⟨i, rfl, tt, g3, dd, rfl, a, g4, ?_⟩
     by_cases z : a.kids.length = l.length + 2
     ·rw [if_pos z]
      obtain ⟨_, hbx⟩ := ni hp g3 g4 z
      exact ⟨_, _, _, _, _, ux ih i a l fuel hf hpos z hbx hab hinv.1 r' (by omega) (by omega), rfl, rfl, rfl, rfl, rfl⟩
     ·rw [if_neg z]
      exact ⟨_, _, _, _, _, fa 1 _ _ _ _ _ _ _ _ _ _ _ ⟨fun _ => ⟨rfl, rfl, rfl, rfl, rfl⟩, fun h => absurd h (by omega)⟩, rfl, rfl, rfl, rfl, rfl⟩
   ·rw [nb h21]
    have hl := hl21 h21
    revert hall hinv
    generalize evL (fun k r => evG p g m k env r) t.kids r = x
    obtain ⟨l, e, r'⟩ := x
    intro hall hinv
    simp only at hall hinv ⊢
    refine jd _ _ _ _ _ _ _ _ _ _ _ _ ⟨l, e, _, _, _, by rw [e1]; exact hall, fun hne => ?_, fun h0 => ?_⟩
    ·rw [if_neg hne]; exact ⟨rfl, rfl, rfl, rfl, rfl⟩
    ·rw [if_pos h0]
     have hlen := hinv.2.2 h0
     obtain ⟨x, y, rfl⟩ : ∃ x y, l = [x, y] := by
      match l, hlen.trans hl with
      | [x, y], _ => exact ⟨x, y, rfl⟩
     exact ⟨x, rfl, y, rfl, _, _, AU (hinv.1 x (by simp)) (hinv.1 y (by simp)) (hw21 h21), rfl, rfl, rfl, rfl, rfl⟩
   ·have n14' : ¬ t.kind = 14 := by simpa using n14
    rw [rH (by omega)]
    exact ⟨rfl, rfl, rfl, rfl, e1⟩
end Go.Proofs.YthnohcipianijaaGreatDoor
namespace Go.Proofs.YthnohcipianijaaGreatDoor
open Go.RowKit Lx Sx
set_option maxRecDepth 100000
set_option maxHeartbeats 1100000
theorem xR (op : List UInt8) (a b : GDatum) : ¬ (aV op a b).2 = 0 → (aV op a b).1 = GD0 := by
 unfold aV
 repeat' split
 all_goals intro h
 all_goals first | rfl | exact absurd rfl h
theorem AD {p : List Tree} : ∀ (g r : Nat) (m : Int) (t : Tree) (env : List Bnd), ¬ (evG p g m t env r).2.1 = 0 → (evG p g m t env r).1 = GD0 := fun g => by
 induction g with
 | zero => intro r m t env _; rw [evG]
 | succ g ih =>
  intro r m t env
  cases r with
  | zero => rw [vA]; intro _; rfl
  | succ r =>
   rcases kinds t.kind with h | h | h | h | h | h | h | h | h | h | h | h | h
   ·rw [mM h]; exact fun h => absurd rfl h
   ·rw [rL h]; exact fun h => absurd rfl h
   ·rw [nk h]
    cases eI env t.text with
    | none => intro _; rfl
    | some d => exact fun h => absurd rfl h
   ·rw [rS h]; exact fun h => absurd rfl h
   ·rw [rI h]; exact fun h => absurd rfl h
   ·rw [rH h]; intro _; rfl
   ·rw [pL h]
    generalize evL (fun k r => evG p g m k env r) t.kids r = x
    obtain ⟨l, e, r'⟩ := x
    simp only
    split
    ·split
     ·split
      ·exact ih _ _ _ _
      ·intro _; rfl
     ·intro _; rfl
    ·intro _; rfl
   ·rw [rU h]
    generalize evL (fun k r => evG p g m k env r) t.kids r = x
    obtain ⟨l, e, r'⟩ := x
    simp only
    split
    ·split
     ·intro _; rfl
     ·exact fun h => absurd rfl h
    ·intro _; rfl
   ·rw [oz h]
    generalize evG p g m (am t 0) env r = x
    obtain ⟨d, e, r'⟩ := x
    simp only
    split
    ·split
     ·split
      ·exact ih _ _ _ _
      ·exact ih _ _ _ _
     ·intro _; rfl
    ·intro _; rfl
   ·rw [rP h]
    generalize evG p g m (am t 0) env r = x
    obtain ⟨d, e, r'⟩ := x
    simp only
    split
    ·exact ih _ _ _ _
    ·intro _; rfl
   ·rw [nb h]
    generalize evL (fun k r => evG p g m k env r) t.kids r = x
    obtain ⟨l, e, r'⟩ := x
    simp only
    split
    ·exact xR _ _ _
    ·intro _; rfl
   ·rw [rE h]; exact ih _ _ _ _
   ·rw [zb h]; intro _; rfl
def mV (p : List Tree) (m d : Int) (n : Nat) : Bool := decide (0 ≤ m ∧ m < p.length ∧ 0 ≤ d ∧ d < (p.getD m.toNat (.node 0 [] [] [])).kids.length) && (bD p m d).kind == 2 && decide ((bD p m d).kids.length = n + 2)
def gP (p : List Tree) (m d : Int) (n : Nat) : Bool := bV p && mV p m d n
theorem pF {p : List Tree} {i k : Nat} {t a : Tree} (hi : p[i]? = some t) (hk : t.kids[k]? = some a) (n : Nat) : mV p i k n = (a.kind == 2 && decide (a.kids.length = n + 2)) ∧ bD p i k = a := by
 have h1 := (List.getElem?_eq_some_iff.1 hi).1
 have h2 := (List.getElem?_eq_some_iff.1 hk).1
 have hd : bD p i k = a := by
  unfold bD am
  rw [Int.toNat_natCast, dw hi, Int.toNat_natCast, dw hk]
 refine ⟨?_, hd⟩
 rw [mV, hd, Int.toNat_natCast, dw hi, decide_eq_true (show 0 ≤ (i : Int) ∧ (i : Int) < p.length ∧ 0 ≤ (k : Int) ∧ (k : Int) < t.kids.length by omega), Bool.true_and]
theorem kM {p : List Tree} {m d : Int} {n : Nat} (h : ¬ (0 ≤ m ∧ m < p.length ∧ 0 ≤ d ∧ d < (p.getD m.toNat (.node 0 [] [] [])).kids.length)) : mV p m d n = false := by rw [mV, decide_eq_false h, Bool.false_and, Bool.false_and]
theorem iM {m : Int} (h : ¬ m < 0) : ∃ i : Nat, m = i := ⟨m.toNat, by omega⟩
theorem pY (p : List Tree) (hb : kbulk p ≤ 1000000000) (m d : Int) (n : Nat) (hn : n ≤ 1000000000) : iO p m d n (gP p m d n) := by
 have hl := du p
 have fin : ∀ i j, ¬ i < p.length → dG (j + 1) p m d n i (mV p m d n) := fun i j hi => by
  refine kn j _ _ _ _ _ _ ⟨fun h => absurd h hi, fun _ => ⟨fun h => ?_, fun h => ⟨fun h1 => ?_, fun h1 => ⟨fun h2 => ?_, fun h2 => ?_⟩⟩⟩⟩
  ·rw [kM (by omega)]
  ·rw [kM (by omega)]
  ·rw [kM (by omega)]
  ·obtain ⟨a, rfl⟩ := iM h
   obtain ⟨b, rfl⟩ := iM h2
   obtain ⟨t, ht, _⟩ | h' := aE p a
   ·refine ⟨a, rfl, t, ht, fun h3 => ?_, fun h3 => ?_⟩
    ·rw [kM (by rw [Int.toNat_natCast, dw ht]; omega)]
    ·obtain ⟨u, hu, _⟩ | h'' := aE t.kids b
     ·obtain ⟨e, _⟩ := pF ht hu n
      refine ⟨a, rfl, t, ht, b, rfl, u, hu, fun hk => ⟨by constructor <;> omega, ?_⟩, fun hk => ?_⟩
      ·rw [e, hk]
       by_cases hz : u.kids.length = n + 2
       ·rw [decide_eq_true hz]; simp [hz]
       ·rw [decide_eq_false hz]; simp; omega
      ·rw [e]; simp [hk]
     ·omega
   ·omega
 have loop : ∀ j i, p.length - i ≤ j → dG (j + 1) p m d n i (bV (p.drop i) && mV p m d n) := fun j => by
  induction j with
  | zero =>
   intro i hi
   rw [List.drop_of_length_le (by omega), bV, Bool.true_and]
   exact fin i 0 (by omega)
  | succ j ihj =>
   intro i hi
   obtain ⟨t, ht, hlt⟩ | h' := aE p i
   ·have hbt := bY ht
    rw [aI ht, bV]
    refine kn (j + 1) _ _ _ _ _ _ ⟨fun _ => ⟨t, ht, fun hk => by simp [hk], fun hk => ⟨_, si t (by omega), fun hs => by simp [hs], fun hs => ⟨by omega, ?_⟩⟩⟩, fun h => absurd hlt h⟩
    have := ihj (i + 1) (by omega)
    simpa [hk, hs] using this
   ·rw [List.drop_of_length_le (by omega), bV, Bool.true_and]
    exact fin i (j + 1) h'
 exact pe _ _ _ _ _ _ (loop p.length 0 (by omega))
def bh (p : List Tree) (m d : Int) (l : List GDatum) (fuel : Int) : GDatum × Int × Int :=
 if gP p m d l.length = true ∧ 0 ≤ fuel ∧ fuel ≤ 16384 ∧ l.all cb = true then
  ((evG p 16385 m (am (bD p m d) (l.length + 1)) (bu (bD p m d).kids l) fuel.toNat).1, fuel - ((evG p 16385 m (am (bD p m d) (l.length + 1)) (bu (bD p m d).kids l) fuel.toNat).2.2 : Int), (evG p 16385 m (am (bD p m d) (l.length + 1)) (bu (bD p m d).kids l) fuel.toNat).2.1)
 else (GD0, 0, 5)
theorem oG {p : List Tree} {m d : Int} {l : List GDatum} {fuel : Int} (h : ¬ (gP p m d l.length = true ∧ 0 ≤ fuel ∧ fuel ≤ 16384 ∧ l.all cb = true)) : bh p m d l fuel = (GD0, 0, 5) := by rw [bh, if_neg h]
theorem jz {p : List Tree} {m d : Int} {n : Nat} (h : gP p m d n = true) : bV p = true ∧ ∃ (i k : Nat) (t a : Tree), m = i ∧ d = k ∧ p[i]? = some t ∧ t.kids[k]? = some a ∧ a.kind = 2 ∧ a.kids.length = n + 2 ∧ bD p m d = a := by
 simp only [gP, Bool.and_eq_true] at h
 refine ⟨h.1, ?_⟩
 have hr := h.2
 by_cases hc : 0 ≤ m ∧ m < p.length ∧ 0 ≤ d ∧ d < (p.getD m.toNat (.node 0 [] [] [])).kids.length
 ·obtain ⟨i, rfl⟩ := iM (m := m) (by omega)
  obtain ⟨k, rfl⟩ := iM (m := d) (by omega)
  obtain ⟨t, ht, _⟩ | h' := aE p i
  ·rw [Int.toNat_natCast, dw ht] at hc
   obtain ⟨a, ha, _⟩ | h'' := aE t.kids k
   ·obtain ⟨e, e2⟩ := pF ht ha n
    rw [e] at hr
    simp only [Bool.and_eq_true, beq_iff_eq, decide_eq_true_eq] at hr
    exact ⟨i, k, t, a, rfl, rfl, ht, ha, hr.1, hr.2, e2⟩
   ·omega
  ·omega
 ·rw [kM hc] at hr; cases hr
theorem qf {l : List GDatum} (h : l.all cb = true) : ∀ d, d ∈ l → wD d ≤ 2000000 := fun d hd => by
 have := List.all_eq_true.1 h d hd
 simp only [cb, Bool.and_eq_true, decide_eq_true_eq] at this
 omega
theorem um {p : List Tree} (hb : kbulk p ≤ 1100000) (m d : Int) (l : List GDatum) (fuel : Int) : wD (bh p m d l fuel).1 ≤ 2000000 := by
 by_cases h : gP p m d l.length = true ∧ 0 ≤ fuel ∧ fuel ≤ 16384 ∧ l.all cb = true
 ·rw [bh, if_pos h]
  exact (fy hb 16385 fuel.toNat m _ _ (Nat.le_trans (dx _ _) (qY hb (by omega) _ _)) (mu (qf h.2.2.2) _)).1
 ·rw [oG h]; exact ct
theorem rf (p : List Tree) : ∀ (l : List Tree) (i : Nat), (mX p i l).length = l.length
 | [], i => rfl
 | t :: r, i => by simp [mX, rf p r (i + 1)]
theorem na (p : List Tree) : (cg p).length = p.length := rf p p 0
theorem rT {p : List Tree} (hb : kbulk p ≤ 1100000) (m d : Int) (l : List GDatum) (hl : l.length ≤ 1000000000) (fuel : Int) : gd p m d l fuel (bh p m d l fuel).1 (bh p m d l fuel).2.1 (bh p m d l fuel).2.2 := by
 have hlp := du p
 by_cases hc : gP p m d l.length = true ∧ 0 ≤ fuel ∧ fuel ≤ 16384
 ·obtain ⟨hp, i, k, t, a, rfl, rfl, ht, ha, ha2, han, hd⟩ := jz hc.1
  obtain ⟨F, rfl⟩ := iM (m := fuel) (by omega)
  have hF : F ≤ 16384 := by omega
  have hpos := (List.getElem?_eq_some_iff.1 ht).1
  have hab : tbulk a ≤ 1100000 := Nat.le_trans (Nat.le_of_lt (by have := bj ha; omega)) (Nat.le_trans (bY ht) hb)
  -- the end
  have fin : l.all cb = true → ∀ j s acc q, p.length - s ≤ j → s ≤ p.length → q = ku p s (p.drop s) → acc = (cg p).take s → gx (2 * j + 1) p i k l F q acc s (bh p i k l F).1 (bh p i k l F).2.1 (bh p i k l F).2.2 := fun hall j => by
   have last : ∀ (j' s : Nat) (acc : List aa) (q : List GTarget), ¬ s < p.length → acc = cg p → gx (j' + 1) p i k l F q acc s (bh p i k l F).1 (bh p i k l F).2.1 (bh p i k l F).2.2 := fun j' s acc q hs hacc => by
    subst hacc
    have hrun : bh p i k l F = ((evG p 16385 i (am a (l.length + 1)) (bu a.kids l) F).1, (F : Int) - ((evG p 16385 i (am a (l.length + 1)) (bu a.kids l) F).2.2 : Int), (evG p 16385 i (am a (l.length + 1)) (bu a.kids l) F).2.1) := by
     rw [bh, if_pos ⟨hc.1, hc.2.1, hc.2.2, hall⟩, hd, Int.toNat_natCast]
    rw [hrun]
    obtain ⟨_, hbx⟩ := ni hp ht ha han
    have hen := uF (zH hp hb 16385) i a l F hF hpos han hbx hab (qf hall) F (by omega) (Nat.le_refl _)
    rw [show ((F : Int) - (F : Int)) = 0 by omega] at hen
    have hinv := fy hb 16385 F i (am a (l.length + 1)) (bu a.kids l) (Nat.le_trans (dx _ _) hab) (mu (qf hall) _)
    refine oa j' _ _ _ _ _ _ _ _ _ _ _ ⟨fun h => absurd h hs, fun _ => ⟨i, rfl, _, mF ht, k, rfl, _, fW ha, _, _, _, _, _, hen, fun hne => ⟨(AD 16385 F i _ _ hne).symm, rfl, rfl⟩, fun h0 => ⟨_, xV _ (by omega), rfl, rfl, h0.symm⟩⟩⟩
   induction j with
   | zero =>
    intro s acc q hj hs hq hacc
    exact last 0 s acc q (by omega) (by rw [hacc, List.take_of_length_le (by rw [na]; omega)])
   | succ j ihj =>
    intro s acc q hj hs hq hacc
    obtain ⟨u, hu, hlt⟩ | h' := aE p s
    ·have hbu := bY hu
     have hu2 := mF hu
     have hal : acc.length = s := by rw [hacc, List.length_take, na]; omega
     rw [hq, aI hu, ku]
     have hset : ((acc ++ [aa.mk 0 0 0 false [] []]).set acc.length (prepN p s u)) = (cg p).take (s + 1) := by
      rw [List.take_add_one, hu2, ← hacc]; simp
     refine oa (2 * j + 2) _ _ _ _ _ _ _ _ _ _ _ ⟨fun _ => ⟨u, hu, _, _, uR u (by omega) [] _, by simp [hal]; omega, _, by simp; rfl, tk (2 * j + 1) _ _ _ _ _ _ _ _ _ _ _ ⟨by omega, ?_⟩⟩, fun h => absurd hlt h⟩
     rw [hset]
     exact ihj (s + 1) _ _ (by omega) (by omega) rfl rfl
    ·exact last _ s acc q h' (by rw [hacc, List.take_of_length_le (by rw [na]; omega)])
  have loop : ∀ j s, l.length - s ≤ j → ((l.take s).all cb = true) → gE (j + 2 * p.length + 2) p i k l F s (bh p i k l F).1 (bh p i k l F).2.1 (bh p i k l F).2.2 := fun j => by
   have last : ∀ (j' s : Nat), ¬ s < l.length → l.all cb = true → gE (j' + 2 * p.length + 2) p i k l F s (bh p i k l F).1 (bh p i k l F).2.1 (bh p i k l F).2.2 := fun j' s hs hall => by
    refine ot (j' + 2 * p.length + 1) _ _ _ _ _ _ _ _ _ ⟨fun h => absurd h hs, fun _ => ⟨_, wX p (by omega), ?_⟩⟩
    have htk : jA p = ku p 0 (p.drop 0) := by rw [jA, if_pos hp, List.drop_zero]
    have := fin hall (p.length) 0 [] (jA p) (by omega) (by omega) htk (by simp)
    rw [show j' + 2 * p.length + 1 = (2 * p.length + 1) + j' by omega]
    exact fun K j1 hK h1 => this K j1 hK (by omega)
   induction j with
   | zero =>
    intro s hj hv
    rw [List.take_of_length_le (by omega)] at hv
    exact last 0 s (by omega) hv
   | succ j ihj =>
    intro s hj hv
    obtain ⟨x, hx, hlt⟩ | h' := aE l s
    ·rw [show j + 1 + 2 * p.length + 2 = (j + 2 * p.length + 2) + 1 by omega]
     refine ot (j + 2 * p.length + 2) _ _ _ _ _ _ _ _ _ ⟨fun _ => ⟨x, hx, _, qw x, fun hf => ?_, fun hv2 => ⟨by omega, ihj (s + 1) (by omega) ?_⟩⟩, fun h => absurd hlt h⟩
     ·rw [oG (fun hh => by
       have := List.all_eq_true.1 hh.2.2.2 x (List.mem_of_getElem? hx)
       rw [this] at hf; cases hf)]
      exact ⟨rfl, rfl, rfl⟩
     ·rw [List.take_add_one, hx, List.all_append, hv]; simp [hv2]
    ·rw [List.take_of_length_le (by omega)] at hv
     exact last _ s h' hv
  refine oW (l.length + 2 * p.length + 2) _ _ _ _ _ _ _ _ ⟨_, pY p (by omega) _ _ _ hl, fun h => ?_, fun _ => ⟨fun h => by omega, fun _ => ⟨fun h => by omega, fun _ => loop l.length 0 (by omega) (by simp)⟩⟩⟩
  rw [hc.1] at h; cases h
 ·have e : bh p m d l fuel = (GD0, 0, 5) := oG fun h => hc ⟨h.1, h.2.1, h.2.2.1⟩
  rw [e]
  exact oW 0 _ _ _ _ _ _ _ _ ⟨_, pY p (by omega) m d _ hl, fun h => ⟨rfl, rfl, rfl⟩, fun h => ⟨fun _ => ⟨rfl, rfl, rfl⟩, fun h1 => ⟨fun _ => ⟨rfl, rfl, rfl⟩, fun h2 => absurd ⟨h, by omega, by omega⟩ hc⟩⟩⟩
end Go.Proofs.YthnohcipianijaaGreatDoor
namespace Go.Proofs.YthnohcipianijaaGreatDoor
open Go.RowKit Lx Sx
set_option maxRecDepth 100000
set_option maxHeartbeats 1100000
theorem Ar {p : List Tree} (hb : kbulk p ≤ 1100000) (m d : Int) (l : List GDatum) (hl : l.length ≤ 1000000000) (hm : ∀ x, x ∈ l → mD x ≤ 1000000000000000) (fuel : Int) : gp p m d l fuel (bh p m d l fuel).1 (bh p m d l fuel).2.1 (bh p m d l fuel).2.2 := by
 have hlp := du p
 have fail : ¬ (gP p m d l.length = true ∧ 0 ≤ fuel ∧ fuel ≤ 16384 ∧ l.all cb = true) → GDatum.mk 0 0 [] [] = (bh p m d l fuel).1 ∧ 0 = (bh p m d l fuel).2.1 ∧ 5 = (bh p m d l fuel).2.2 := fun h => by rw [oG h]; exact ⟨rfl, rfl, rfl⟩
 refine nP (l.length + 1) _ _ _ _ _ _ _ _ ⟨_, uZ p (by omega), fun h => fail fun hh => ?_, fun hp => ⟨fun h => fail fun hh => ?_, fun h1 => ⟨fun h => fail fun hh => ?_, fun h2 => ⟨fun h => fail fun hh => ?_, fun h3 => ?_⟩⟩⟩⟩
 ·rw [(jz hh.1).1] at h; cases h
 ·obtain ⟨_, i, k, t, a, e1, e2, g1, g2, _⟩ := jz hh.1; omega
 ·obtain ⟨_, i, k, t, a, e1, e2, g1, g2, _⟩ := jz hh.1
  have := (List.getElem?_eq_some_iff.1 g1).1
  omega
 ·obtain ⟨_, i, k, t, a, e1, e2, g1, g2, _⟩ := jz hh.1; omega
 obtain ⟨i, rfl⟩ := iM h1
 obtain ⟨k, rfl⟩ := iM h3
 obtain ⟨t, ht, hpos⟩ | h' := aE p i
 ·refine ⟨i, rfl, t, ht, fun h => fail fun hh => ?_, fun h4 => ?_⟩
  ·obtain ⟨_, i', k', t', a', e1, e2, g1, g2, _⟩ := jz hh.1
   obtain rfl : i = i' := by omega
   rw [ht] at g1; cases g1
   have := (List.getElem?_eq_some_iff.1 g2).1
   omega
  obtain ⟨a, ha, _⟩ | h'' := aE t.kids k
  ·obtain ⟨cr, hd⟩ := pF ht ha l.length
   have hab : tbulk a ≤ 1100000 := Nat.le_trans (Nat.le_of_lt (by have := bj ha; omega)) (Nat.le_trans (bY ht) hb)
   have hka := dg a
   have hck : gP p i k l.length = (a.kind == 2 && decide (a.kids.length = l.length + 2)) := by rw [gP, hp, Bool.true_and, cr]
   refine ⟨i, rfl, t, ht, k, rfl, a, ha, fun h => fail fun hh => ?_, fun h5 => ⟨i, rfl, t, ht, k, rfl, a, ha, fun h => fail fun hh => ?_, fun h6 => ⟨fun h => fail fun hh => by omega, fun h7 => ⟨fun h => fail fun hh => by omega, fun h8 => ?_⟩⟩⟩⟩
   ·have := hh.1; rw [hck] at this; simp at this; exact h this.1
   ·have := hh.1; rw [hck] at this; simp at this; omega
   obtain ⟨F, rfl⟩ := iM h7
   have hF : F ≤ 16384 := by omega
   have han : a.kids.length = l.length + 2 := by omega
   have hck2 : gP p i k l.length = true := by rw [hck]; simp [h5, han]
   have loop : ∀ j s, l.length - s ≤ j → ((l.take s).all cb = true) → cS (j + 1) p i k l F s (bh p i k l F).1 (bh p i k l F).2.1 (bh p i k l F).2.2 := fun j => by
    have last : ∀ (j' s : Nat), ¬ s < l.length → l.all cb = true → cS (j' + 1) p i k l F s (bh p i k l F).1 (bh p i k l F).2.1 (bh p i k l F).2.2 := fun j' s hs hall => by
     have hrun : bh p i k l F = ((evG p 16385 i (am a (l.length + 1)) (bu a.kids l) F).1, (F : Int) - ((evG p 16385 i (am a (l.length + 1)) (bu a.kids l) F).2.2 : Int), (evG p 16385 i (am a (l.length + 1)) (bu a.kids l) F).2.1) := by
      rw [bh, if_pos ⟨hck2, by omega, by omega, hall⟩, hd, Int.toNat_natCast]
     rw [hrun]
     obtain ⟨_, hbx⟩ := ni hp ht ha han
     have hen := ux (zR hp hb 16385) i a l F hF hpos han hbx hab (qf hall) F (by omega) (Nat.le_refl _)
     rw [show ((F : Int) - (F : Int)) = 0 by omega] at hen
     exact jl j' _ _ _ _ _ _ _ _ _ ⟨fun h => absurd h hs, fun _ => ⟨i, rfl, t, ht, k, rfl, a, ha, _, _, _, _, _, hen, rfl, rfl, rfl⟩⟩
    induction j with
    | zero =>
     intro s hj hv
     rw [List.take_of_length_le (by omega)] at hv
     exact last 0 s (by omega) hv
    | succ j ihj =>
     intro s hj hv
     obtain ⟨x, hx, hlt⟩ | h' := aE l s
     ·refine jl (j + 1) _ _ _ _ _ _ _ _ _ ⟨fun _ => ⟨x, hx, _, sg x (hm x (List.mem_of_getElem? hx)), fun hf => fail fun hh => ?_, fun hv2 => ihj (s + 1) (by omega) ?_⟩, fun h => absurd hlt h⟩
      ·have := List.all_eq_true.1 hh.2.2.2 x (List.mem_of_getElem? hx)
       rw [this] at hf; cases hf
      ·rw [List.take_add_one, hx, List.all_append, hv]; simp [hv2]
     ·rw [List.take_of_length_le (by omega)] at hv
      exact last _ s h' hv
   exact loop l.length 0 (by omega) (by simp)
  ·omega
 ·omega
theorem Bi {B : Nat} {l : List GDatum} (h : mDs l ≤ B) : ∀ x, x ∈ l → mD x ≤ B := fun x hx => Nat.le_trans (rZ hx) h
end Go.Proofs.YthnohcipianijaaGreatDoor
namespace Go.Proofs.YthnohcipianijaaGreatDoor
open Go.RowKit Lx Sx
set_option maxRecDepth 100000
set_option maxHeartbeats 4000000
structure ew where
 Lead : (List UInt8)
 Text : (List UInt8)
abbrev ew.c (x : ew) : List V := [.str x.Lead, .str x.Text]
abbrev ew.w (x : ew) : V := .agg x.c
def hI (p0 p1 r0 : Int) : Prop := qS 26 [.int .i64 p0, .int .i64 p1] (.int .i64 r0)
theorem km (m : Nat) (p0 p1 r0 : Int) (h : p1 ≠ 0 ∧ (((Int.tmod p0 p1) < 0) → InI ((Int.tmod p0 p1) + p1) ∧ ((Int.tmod p0 p1) + p1) = r0) ∧ ((¬ (Int.tmod p0 p1) < 0) → (Int.tmod p0 p1) = r0)) : hI p0 p1 r0 := by
 refine ⟨rfl, rfl, ?_⟩
 refine aj 14 [] Tryz.func26 rfl rfl rfl (av rfl) fun K hK => ?_
 refine gR 9 rfl ?_
 obtain ⟨hb, h⟩ := h
 refine gY (CF rfl rfl hb) rfl rfl <| gR 10 rfl <| qBd 9 rfl rfl rfl h (fun h => ?_) fun h => ?_
 refine gR 4 rfl ?_
 obtain ⟨hb, h⟩ := h
 refine gR 1 rfl <| gV 12 (.int .i64 ((Int.tmod p0 p1) + p1)) rfl (ax hb rfl) rfl <| gR 10 rfl ?_
 subst h
 exact go_end ab (rs := [.tmp 4]) rfl rfl rfl
 refine gR 10 rfl ?_
 subst h
 exact go_end ab (rs := [.tmp 4]) rfl rfl rfl
end Go.Proofs.YthnohcipianijaaGreatDoor
namespace Go.Proofs.YthnohcipianijaaGreatDoor
open Go.RowKit Lx Sx
set_option maxRecDepth 100000
set_option maxHeartbeats 4000000
def aK (r0 : Bool) : Prop := qS 13 [] (.bool r0)
def kX (p0 : List UInt8) (r0 : Tree) (r1 r2 : Int) : Prop := qS 27 [.str p0] (.tup [.agg (aM r0), .int .i64 r1, .int .i64 r2])
def gG (p0 : GDatum) (r0 : Bool) : Prop := qS 3 [.agg (GDatum.c p0)] (.bool r0)
def gl (p0 p1 : GDatum) (r0 : Bool) : Prop := qS 4 [.agg (GDatum.c p0), .agg (GDatum.c p1)] (.bool r0)
def gH (p0 : Int) (r0 : Bool) : Prop := qS 9 [.int .i64 p0] (.bool r0)
def hO (r0 : Bool) : Prop := qS 13 [] (.bool r0)
theorem lb (m : Nat) (p0 : GDatum) (r0 : Bool) (h : ∃ a, bQ p0 a ∧ ((a = false) → ∃ e, aK e ∧ e = r0) ∧ ((a = true) → ∃ b, aK b ∧ ((b = true) → ∃ c, fN p0 c ∧ ∃ d, dP p0 d ∧ ((c = d) → ∃ f, fx p0 f ∧ ∃ g, bI p0 g ∧ (f == g) = r0) ∧ ((c ≠ d) → false = r0)) ∧ ((b = false) → false = r0))) : gG p0 r0 := by
 refine ⟨rfl, rfl, ?_⟩
 refine aj 22 [] Tryz.func3 rfl rfl rfl (av rfl) fun K hK => ?_
 refine gR 3 rfl <| gFP 0 rfl rfl rfl rfl <| gR 7 rfl ?_
 obtain ⟨a, hs8, h⟩ := h
 refine gC0 hs8 (by kernel_rfl) rfl rfl .rfl rfl <| gR 3 rfl <| qBh 5 rfl rfl rfl h cj ci (fun h => ?_) fun h => ?_
 refine gR 3 rfl ?_
 obtain ⟨e, hs9, h⟩ := h
 refine gC0 hs9 (by kernel_rfl) rfl rfl .rfl rfl <| gR 5 rfl ?_
 subst h
 exact go_end ab (rs := [.tmp 2]) rfl rfl rfl
 refine gR 4 rfl <| gDs [] 16 16 rfl (by kernel_rfl) (by kernel_rfl) ?_
 obtain ⟨b, hs10, h⟩ := h
 refine aG 0 hs10 (by kernel_rfl) rfl (by kernel_rfl) rfl rfl .rfl rfl rfl ?_
 refine gDr [(1, 0)] (by kernel_rfl) rfl rfl <| qBiZ 8 7 rfl rfl rfl rfl h (fun h => ?_) fun h => ?_
 refine gDr [(2, 2), (4, 2)] (by kernel_rfl) rfl rfl ?_
 obtain ⟨c, hs11, h⟩ := h
 refine aG 3 hs11 (by kernel_rfl) rfl (by kernel_rfl) rfl rfl .rfl rfl rfl ?_
 obtain ⟨d, hs12, h⟩ := h
 refine aG 5 hs12 (by kernel_rfl) rfl (by kernel_rfl) rfl rfl .rfl rfl rfl ?_
 refine gDr [(6, 0), (7, 0), (8, 0)] (by kernel_rfl) rfl rfl <| qBeZ 15 14 rfl rfl rfl rfl h (fun h => ?_) fun h => ?_
 refine gDr [(9, 2), (11, 2)] (by kernel_rfl) rfl rfl ?_
 obtain ⟨f, hs13, h⟩ := h
 refine aG 10 hs13 (by kernel_rfl) rfl (by kernel_rfl) rfl rfl .rfl rfl rfl ?_
 obtain ⟨g, hs14, h⟩ := h
 refine aG 12 hs14 (by kernel_rfl) rfl (by kernel_rfl) rfl rfl .rfl rfl rfl ?_
 refine gDr [(13, 0), (14, 0), (15, 0)] (by kernel_rfl) rfl rfl <| gDe (by kernel_rfl) <| gR 2 rfl ?_
 subst h
 exact go_end ab (rs := [.tmp 2]) rfl rfl rfl
 refine gDr [(9, 2), (11, 2), (10, 0), (12, 0), (13, 0), (14, 0), (15, 0)] (by kernel_rfl) rfl rfl <| gDe (by kernel_rfl) <| gR 2 rfl ?_
 subst h
 exact go_end ab (rs := [.tmp 2]) rfl rfl rfl
 refine gDr [(2, 2), (4, 2), (3, 0), (5, 0), (6, 0), (7, 0), (8, 0), (9, 2), (11, 2), (10, 0), (12, 0), (13, 0), (14, 0), (15, 0)] (by kernel_rfl) rfl rfl <| gDe (by kernel_rfl) <| gR 2 rfl ?_
 subst h
 exact go_end ab (rs := [.tmp 2]) rfl rfl rfl
theorem kY (m : Nat) (p0 p1 : GDatum) (r0 : Bool) (h : ∃ a, bQ p0 a ∧ ((a = false) → ∃ f, aK f ∧ f = r0) ∧ ((a = true) → ∃ b, bQ p1 b ∧ ((b = false) → ∃ g, aK g ∧ g = r0) ∧ ((b = true) → ∃ c, aK c ∧ ((c = true) → ∃ d, dv p0 p1 d ∧ ∃ e, cd p0 p1 e ∧ ((d = e) → ∃ i, dv p0 p0 i ∧ i = r0) ∧ ((d ≠ e) → false = r0)) ∧ ((c = false) → false = r0)))) : gl p0 p1 r0 := by
 refine ⟨rfl, rfl, ?_⟩
 refine aj 29 [] Tryz.func4 rfl rfl rfl (av rfl) fun K hK => ?_
 refine gR 3 rfl <| gFP 0 rfl rfl rfl rfl <| gR 1 rfl <| gFP 1 rfl rfl rfl rfl <| gR 7 rfl ?_
 obtain ⟨a, hs9, h⟩ := h
 refine gC0 hs9 (by kernel_rfl) rfl rfl .rfl rfl <| gR 2 rfl <| qBhZ 8 7 rfl rfl rfl rfl h cj ci (fun h => ?_) fun h => ?_
 refine gR 9 rfl ?_
 obtain ⟨f, hs10, h⟩ := h
 refine gC0 hs10 (by kernel_rfl) rfl rfl .rfl rfl <| gR 5 rfl ?_
 subst h
 exact go_end ab (rs := [.tmp 4]) rfl rfl rfl
 refine gR 1 rfl ?_
 obtain ⟨b, hs11, h⟩ := h
 refine gC0 hs11 (by kernel_rfl) rfl rfl .rfl rfl <| gR 4 rfl <| qBh 12 rfl rfl rfl h cj ci (fun h => ?_) fun h => ?_
 refine gR 3 rfl ?_
 obtain ⟨g, hs12, h⟩ := h
 refine gC0 hs12 (by kernel_rfl) rfl rfl .rfl rfl <| gR 5 rfl ?_
 subst h
 exact go_end ab (rs := [.tmp 4]) rfl rfl rfl
 refine gR 4 rfl <| gDs [] 16 16 rfl (by kernel_rfl) (by kernel_rfl) ?_
 obtain ⟨c, hs13, h⟩ := h
 refine aG 0 hs13 (by kernel_rfl) rfl (by kernel_rfl) rfl rfl .rfl rfl rfl ?_
 refine gDr [(1, 0)] (by kernel_rfl) rfl rfl <| qBiZ 15 14 rfl rfl rfl rfl h (fun h => ?_) fun h => ?_
 refine gDr [(2, 2), (3, 2), (5, 2), (6, 2)] (by kernel_rfl) rfl rfl ?_
 obtain ⟨d, hs14, h⟩ := h
 refine aG 4 hs14 (by kernel_rfl) rfl (by kernel_rfl) rfl rfl .rfl rfl rfl ?_
 obtain ⟨e, hs15, h⟩ := h
 refine aG 7 hs15 (by kernel_rfl) rfl (by kernel_rfl) rfl rfl .rfl rfl rfl ?_
 refine gDr [(8, 0), (9, 0), (10, 0)] (by kernel_rfl) rfl rfl <| qBeZ 24 23 rfl rfl rfl rfl h (fun h => ?_) fun h => ?_
 refine gDr [(11, 2), (12, 0)] (by kernel_rfl) rfl rfl ?_
 obtain ⟨i, hs16, h⟩ := h
 refine aG 13 hs16 (by kernel_rfl) rfl (by kernel_rfl) rfl rfl .rfl rfl rfl ?_
 refine gDr [(14, 0), (15, 0)] (by kernel_rfl) rfl rfl <| gDe (by kernel_rfl) <| gR 2 rfl ?_
 subst h
 exact go_end ab (rs := [.tmp 4]) rfl rfl rfl
 refine gDr [(11, 2), (12, 0), (13, 0), (14, 0), (15, 0)] (by kernel_rfl) rfl rfl <| gDe (by kernel_rfl) <| gR 2 rfl ?_
 subst h
 exact go_end ab (rs := [.tmp 4]) rfl rfl rfl
 refine gDr [(2, 2), (3, 2), (5, 2), (6, 2), (4, 0), (7, 0), (8, 0), (9, 0), (10, 0), (11, 2), (12, 0), (13, 0), (14, 0), (15, 0)] (by kernel_rfl) rfl rfl <| gDe (by kernel_rfl) <| gR 2 rfl ?_
 subst h
 exact go_end ab (rs := [.tmp 4]) rfl rfl rfl
def gi (m : Nat) (a b : Int) (d : GDatum) (e f : Int) (r0 : Bool) : Prop := ∀ (K : Ctx), ao K [] → Go Tryz.prog K (bodyPost Tryz.prog Tryz.f9 (SP K (fun u _ => u = .bool r0))) (.ex .normal) [.seq (xJ (ae Tryz.f9))] 52 (mkF 52 0 [(0, .int .i64 a), (5, .int .i64 b), (6, .ptr 0 0), (7, .int .i64 e), (8, .int .i64 f)]) ⟨1, [(0, .var 24 (GDatum.c d))]⟩
theorem lf (m : Nat) (p0 : Int) (r0 : Bool) (h : ∃ f, hI p0 300 f ∧ ∃ b k g, kX [109, 111, 100, 117, 108, 101, 32, 77, 32, 100, 101, 102, 32, 102, 40, 110, 58, 32, 73, 110, 116, 41, 58, 32, 73, 110, 116, 32, 61, 32, 105, 102, 32, 110, 32, 60, 32, 49, 32, 116, 104, 101, 110, 32, 48, 32, 101, 108, 115, 101, 32, 110, 32, 43, 32, 102, 40, 110, 32, 45, 32, 49, 41] b k g ∧ ∃ a, bt f a ∧ ∃ c d e, gd [b] 0 0 [a] 16384 c d e ∧ gi m f g c d e r0) : gH p0 r0 := by
 refine ⟨rfl, rfl, ?_⟩
 refine aj 52 [] Tryz.func9 rfl rfl rfl (av rfl) fun K hK => ?_
 refine gR 8 rfl ?_
 obtain ⟨f, hs37, h⟩ := h
 refine gC0 hs37 (by kernel_rfl) rfl rfl .rfl rfl <| gR 5 rfl ?_
 obtain ⟨b, k, g, hs38, h⟩ := h
 refine gC0 hs38 (by kernel_rfl) rfl rfl .rfl rfl <| gR 11 rfl <| gDs [0] 11 14 rfl (by kernel_rfl) (by kernel_rfl) <| gDr [(0, 3), (2, 2)] (by kernel_rfl) rfl rfl ?_
 obtain ⟨a, hs39, h⟩ := h
 apply ml (i := 1) (j := 3) (l := 10) (by kernel_rfl) rfl rfl rfl rfl rfl rfl
 exact (ak ab rfl rfl)
 exact (aW (L' := [0]) (by kernel_rfl) rfl rfl (cQ hs39 .rfl [0] rfl) (.inl rfl))
 exact (ak ab rfl rfl)
 refine gHR 1 (kidsV [b]) rfl (cI b) rfl ?_
 apply aC (i := 3) (j := 10) (by kernel_rfl) rfl rfl rfl rfl
 exact (aW (L' := [0]) (by kernel_rfl) rfl rfl (cQ hs39 .rfl [0] rfl) (.inl rfl))
 exact (ak ab rfl rfl)
 apply aC (i := 4) (j := 10) (by kernel_rfl) rfl rfl rfl rfl
 exact (ak ab rfl rfl)
 exact (ak ab rfl rfl)
 refine gHR 2 (GDatum.vs [a]) rfl (GDatum.vone a) rfl <| gFR 1 rfl (bf _) rfl rfl <| gFR 2 rfl (GDatum.vpure _) rfl rfl ?_
 obtain ⟨c, d, e, hs40, h⟩ := h
 apply aC (i := 5) (j := 10) (by kernel_rfl) rfl rfl rfl rfl
 exact (aW (L' := [0]) (by kernel_rfl) rfl rfl (cQ hs40 .rfl [0] rfl) (.inl rfl))
 exact (ak ab rfl rfl)
 exact gDr [(6, 2), (7, 2), (8, 2), (9, 2), (10, 0), (11, 1), (12, 1), (13, 1)] (by kernel_rfl) rfl rfl <| gDe (by kernel_rfl) <| gJ (h K hK) [3] [] rfl hK pq5 (pqo1 rfl rfl) rfl
 refine aG 5 hs40 (by kernel_rfl) rfl (by kernel_rfl) rfl rfl .rfl rfl rfl ?_
 exact gDr [(6, 0), (7, 2), (8, 2), (9, 2), (11, 1), (12, 1), (13, 1)] (by kernel_rfl) rfl rfl <| gDe (by kernel_rfl) <| gJ (h K hK) [3] [] rfl hK pq5 (pqo1 rfl rfl) rfl
 refine gDr [(4, 0)] (by kernel_rfl) rfl rfl <| gHR 3 (GDatum.vs [a]) rfl (GDatum.vone a) rfl <| gFR 1 rfl (bf _) rfl rfl <| gFR 3 rfl (GDatum.vpure _) rfl rfl ?_
 obtain ⟨c, d, e, hs41, h⟩ := h
 refine aG 5 hs41 (by kernel_rfl) rfl (by kernel_rfl) rfl rfl .rfl rfl rfl ?_
 exact gDr [(6, 0), (7, 2), (8, 2), (9, 2), (11, 1), (12, 1), (13, 1)] (by kernel_rfl) rfl rfl <| gDe (by kernel_rfl) <| gJ (h K hK) [2] [] rfl hK pq5 (pqo1 rfl rfl) rfl
 refine aG 3 hs39 (by kernel_rfl) rfl (by kernel_rfl) rfl rfl .rfl rfl rfl ?_
 refine gDr [(4, 0)] (by kernel_rfl) rfl rfl <| gHR 3 (GDatum.vs [a]) rfl (GDatum.vone a) rfl <| gFR 1 rfl (bf _) rfl rfl <| gFR 3 rfl (GDatum.vpure _) rfl rfl ?_
 obtain ⟨c, d, e, hs42, h⟩ := h
 refine aG 5 hs42 (by kernel_rfl) rfl (by kernel_rfl) rfl rfl .rfl rfl rfl ?_
 exact gDr [(6, 0), (7, 2), (8, 2), (9, 2), (11, 1), (12, 1), (13, 1)] (by kernel_rfl) rfl rfl <| gDe (by kernel_rfl) <| gJ (h K hK) [2] [] rfl hK pq5 (pqo1 rfl rfl) rfl
 apply ml (i := 1) (j := 4) (l := 10) (by kernel_rfl) rfl rfl rfl rfl rfl rfl
 exact (ak ab rfl rfl)
 exact (ak ab rfl rfl)
 exact (ak ab rfl rfl)
 refine gHR 1 (kidsV [b]) rfl (cI b) rfl ?_
 apply aC (i := 4) (j := 10) (by kernel_rfl) rfl rfl rfl rfl
 exact (ak ab rfl rfl)
 exact (ak ab rfl rfl)
 refine gHR 2 (GDatum.vs [a]) rfl (GDatum.vone a) rfl <| gFR 1 rfl (bf _) rfl rfl <| gFR 2 rfl (GDatum.vpure _) rfl rfl ?_
 obtain ⟨c, d, e, hs43, h⟩ := h
 apply aC (i := 5) (j := 10) (by kernel_rfl) rfl rfl rfl rfl
 exact (aW (L' := [0]) (by kernel_rfl) rfl rfl (cQ hs43 .rfl [0] rfl) (.inl rfl))
 exact (ak ab rfl rfl)
 exact gDr [(6, 2), (7, 2), (8, 2), (9, 2), (10, 0), (11, 1), (12, 1), (13, 1)] (by kernel_rfl) rfl rfl <| gDe (by kernel_rfl) <| gJ (h K hK) [3] [] rfl hK pq5 (pqo1 rfl rfl) rfl
 refine aG 5 hs43 (by kernel_rfl) rfl (by kernel_rfl) rfl rfl .rfl rfl rfl ?_
 exact gDr [(6, 0), (7, 2), (8, 2), (9, 2), (11, 1), (12, 1), (13, 1)] (by kernel_rfl) rfl rfl <| gDe (by kernel_rfl) <| gJ (h K hK) [3] [] rfl hK pq5 (pqo1 rfl rfl) rfl
 refine gDr [(4, 0)] (by kernel_rfl) rfl rfl <| gHR 3 (GDatum.vs [a]) rfl (GDatum.vone a) rfl <| gFR 1 rfl (bf _) rfl rfl <| gFR 3 rfl (GDatum.vpure _) rfl rfl ?_
 obtain ⟨c, d, e, hs44, h⟩ := h
 refine aG 5 hs44 (by kernel_rfl) rfl (by kernel_rfl) rfl rfl .rfl rfl rfl ?_
 exact gDr [(6, 0), (7, 2), (8, 2), (9, 2), (11, 1), (12, 1), (13, 1)] (by kernel_rfl) rfl rfl <| gDe (by kernel_rfl) <| gJ (h K hK) [2] [] rfl hK pq5 (pqo1 rfl rfl) rfl
 refine gHR 1 (GDatum.vs [a]) rfl (GDatum.vone a) rfl ?_
 apply aC (i := 1) (j := 10) (by kernel_rfl) rfl rfl rfl rfl
 exact (ak ab rfl rfl)
 exact (ak ab rfl rfl)
 refine gHR 2 (kidsV [b]) rfl (cI b) rfl <| gFR 2 rfl (bf _) rfl rfl <| gFR 1 rfl (GDatum.vpure _) rfl rfl ?_
 obtain ⟨c, d, e, hs45, h⟩ := h
 apply aC (i := 5) (j := 10) (by kernel_rfl) rfl rfl rfl rfl
 exact (aW (L' := [0]) (by kernel_rfl) rfl rfl (cQ hs45 .rfl [0] rfl) (.inl rfl))
 exact (ak ab rfl rfl)
 exact gDr [(6, 2), (7, 2), (8, 2), (9, 2), (10, 0), (11, 1), (12, 1), (13, 1)] (by kernel_rfl) rfl rfl <| gDe (by kernel_rfl) <| gJ (h K hK) [3] [] rfl hK pq5 (pqo1 rfl rfl) rfl
 refine aG 5 hs45 (by kernel_rfl) rfl (by kernel_rfl) rfl rfl .rfl rfl rfl ?_
 exact gDr [(6, 0), (7, 2), (8, 2), (9, 2), (11, 1), (12, 1), (13, 1)] (by kernel_rfl) rfl rfl <| gDe (by kernel_rfl) <| gJ (h K hK) [3] [] rfl hK pq5 (pqo1 rfl rfl) rfl
 refine gDr [(1, 0)] (by kernel_rfl) rfl rfl <| gHR 3 (kidsV [b]) rfl (cI b) rfl <| gFR 3 rfl (bf _) rfl rfl <| gFR 1 rfl (GDatum.vpure _) rfl rfl ?_
 obtain ⟨c, d, e, hs46, h⟩ := h
 refine aG 5 hs46 (by kernel_rfl) rfl (by kernel_rfl) rfl rfl .rfl rfl rfl ?_
 exact gDr [(6, 0), (7, 2), (8, 2), (9, 2), (11, 1), (12, 1), (13, 1)] (by kernel_rfl) rfl rfl <| gDe (by kernel_rfl) <| gJ (h K hK) [2] [] rfl hK pq5 (pqo1 rfl rfl) rfl
 apply aC (i := 1) (j := 4) (by kernel_rfl) rfl rfl rfl rfl
 exact (ak ab rfl rfl)
 exact (ak ab rfl rfl)
 refine gHR 2 (kidsV [b]) rfl (cI b) rfl <| gDr [(4, 0)] (by kernel_rfl) rfl rfl <| gHR 3 (GDatum.vs [a]) rfl (GDatum.vone a) rfl <| gFR 2 rfl (bf _) rfl rfl <| gFR 3 rfl (GDatum.vpure _) rfl rfl ?_
 obtain ⟨c, d, e, hs47, h⟩ := h
 refine aG 5 hs47 (by kernel_rfl) rfl (by kernel_rfl) rfl rfl .rfl rfl rfl ?_
 exact gDr [(6, 0), (7, 2), (8, 2), (9, 2), (11, 1), (12, 1), (13, 1)] (by kernel_rfl) rfl rfl <| gDe (by kernel_rfl) <| gJ (h K hK) [1] [] rfl hK pq5 (pqo1 rfl rfl) rfl
 refine gHR 2 (GDatum.vs [a]) rfl (GDatum.vone a) rfl <| gDr [(1, 0)] (by kernel_rfl) rfl rfl <| gHR 3 (kidsV [b]) rfl (cI b) rfl <| gFR 3 rfl (bf _) rfl rfl <| gFR 2 rfl (GDatum.vpure _) rfl rfl ?_
 obtain ⟨c, d, e, hs48, h⟩ := h
 refine aG 5 hs48 (by kernel_rfl) rfl (by kernel_rfl) rfl rfl .rfl rfl rfl ?_
 exact gDr [(6, 0), (7, 2), (8, 2), (9, 2), (11, 1), (12, 1), (13, 1)] (by kernel_rfl) rfl rfl <| gDe (by kernel_rfl) <| gJ (h K hK) [1] [] rfl hK pq5 (pqo1 rfl rfl) rfl
 apply aC (i := 1) (j := 3) (by kernel_rfl) rfl rfl rfl rfl
 exact (ak ab rfl rfl)
 exact (aW (L' := [0]) (by kernel_rfl) rfl rfl (cQ hs39 .rfl [0] rfl) (.inl rfl))
 refine gHR 2 (kidsV [b]) rfl (cI b) rfl <| aG 3 hs39 (by kernel_rfl) rfl (by kernel_rfl) rfl rfl .rfl rfl rfl <| gDr [(4, 0)] (by kernel_rfl) rfl rfl <| gHR 3 (GDatum.vs [a]) rfl (GDatum.vone a) rfl <| gFR 2 rfl (bf _) rfl rfl <| gFR 3 rfl (GDatum.vpure _) rfl rfl ?_
 obtain ⟨c, d, e, hs49, h⟩ := h
 refine aG 5 hs49 (by kernel_rfl) rfl (by kernel_rfl) rfl rfl .rfl rfl rfl ?_
 exact gDr [(6, 0), (7, 2), (8, 2), (9, 2), (11, 1), (12, 1), (13, 1)] (by kernel_rfl) rfl rfl <| gDe (by kernel_rfl) <| gJ (h K hK) [1] [] rfl hK pq5 (pqo1 rfl rfl) rfl
 apply aC (i := 1) (j := 4) (by kernel_rfl) rfl rfl rfl rfl
 exact (ak ab rfl rfl)
 exact (ak ab rfl rfl)
 refine gHR 2 (kidsV [b]) rfl (cI b) rfl <| gDr [(4, 0)] (by kernel_rfl) rfl rfl <| gHR 3 (GDatum.vs [a]) rfl (GDatum.vone a) rfl <| gFR 2 rfl (bf _) rfl rfl <| gFR 3 rfl (GDatum.vpure _) rfl rfl ?_
 obtain ⟨c, d, e, hs50, h⟩ := h
 refine aG 5 hs50 (by kernel_rfl) rfl (by kernel_rfl) rfl rfl .rfl rfl rfl ?_
 exact gDr [(6, 0), (7, 2), (8, 2), (9, 2), (11, 1), (12, 1), (13, 1)] (by kernel_rfl) rfl rfl <| gDe (by kernel_rfl) <| gJ (h K hK) [1] [] rfl hK pq5 (pqo1 rfl rfl) rfl
 refine gHR 2 (GDatum.vs [a]) rfl (GDatum.vone a) rfl <| gDr [(1, 0)] (by kernel_rfl) rfl rfl <| gHR 3 (kidsV [b]) rfl (cI b) rfl <| gFR 3 rfl (bf _) rfl rfl <| gFR 2 rfl (GDatum.vpure _) rfl rfl ?_
 obtain ⟨c, d, e, hs51, h⟩ := h
 refine aG 5 hs51 (by kernel_rfl) rfl (by kernel_rfl) rfl rfl .rfl rfl rfl ?_
 exact gDr [(6, 0), (7, 2), (8, 2), (9, 2), (11, 1), (12, 1), (13, 1)] (by kernel_rfl) rfl rfl <| gDe (by kernel_rfl) <| gJ (h K hK) [1] [] rfl hK pq5 (pqo1 rfl rfl) rfl
theorem kI (m : Nat) (a c : Int) (i : GDatum) (d e : Int) (r0 : Bool) (h : ∃ b, aK b ∧ ((b = true) → ((c = 0) → ((e = 0) → InI (10 * a) ∧ InI ((10 * a) + 5) ∧ ((d = ((10 * a) + 5)) → InI (a + 1) ∧ InI (a * (a + 1)) ∧ ((2 : Int) ≠ 0 ∧ InI (Int.tdiv (a * (a + 1)) 2)) ∧ ∃ f, bt (Int.tdiv (a * (a + 1)) 2) f ∧ ∃ g, dv i f g ∧ g = r0) ∧ ((d ≠ ((10 * a) + 5)) → false = r0)) ∧ ((e ≠ 0) → false = r0)) ∧ ((c ≠ 0) → false = r0)) ∧ ((b = false) → false = r0)) : gi (m + 1) a c i d e r0 := by
 intro K hK
 refine gR 2 rfl <| gDs [0] 24 27 rfl (by kernel_rfl) (by kernel_rfl) ?_
 obtain ⟨b, hs52, h⟩ := h
 refine aG 0 hs52 (by kernel_rfl) rfl (by kernel_rfl) rfl rfl .rfl rfl rfl ?_
 refine gDr [(1, 0)] (by kernel_rfl) rfl rfl <| qBiZ 27 26 rfl rfl rfl rfl h (fun h => ?_) fun h => ?_
 refine gDr [(2, 0), (3, 0), (4, 0), (5, 0)] (by kernel_rfl) rfl rfl <| qBeZ 31 30 rfl rfl rfl rfl h (fun h => ?_) fun h => ?_
 refine gDr [(6, 0), (7, 0), (8, 0), (9, 0)] (by kernel_rfl) rfl rfl <| qBeZ 35 34 rfl rfl rfl rfl h (fun h => ?_) fun h => ?_
 refine gDr [(10, 2), (11, 0)] (by kernel_rfl) rfl rfl ?_
 obtain ⟨hb, h⟩ := h
 refine kf 12 rfl (by kernel_rfl) (yw rfl rfl hb) rfl rfl ?_
 obtain ⟨hb, h⟩ := h
 refine gDr [(13, 0)] (by kernel_rfl) rfl rfl <| gV 39 (.int .i64 ((10 * a) + 5)) rfl (ax hb rfl) rfl <| gDr [(14, 0), (15, 0), (16, 0)] (by kernel_rfl) rfl rfl <| qBeZ 42 41 rfl rfl rfl rfl h (fun h => ?_) fun h => ?_
 refine gDr [(17, 3), (18, 2), (19, 0)] (by kernel_rfl) rfl rfl ?_
 obtain ⟨hb, h⟩ := h
 refine gDr [(20, 0)] (by kernel_rfl) rfl rfl <| gV 46 (.int .i64 (a + 1)) rfl (ax hb rfl) rfl ?_
 obtain ⟨hb, h⟩ := h
 refine kf 21 rfl (by kernel_rfl) (yw rfl rfl hb) rfl rfl ?_
 obtain ⟨hb, h⟩ := h
 refine kf 22 rfl (by kernel_rfl) (CX rfl rfl hb.1 hb.2) rfl rfl ?_
 obtain ⟨f, hs53, h⟩ := h
 refine aG 23 hs53 (by kernel_rfl) rfl (by kernel_rfl) rfl rfl .rfl rfl rfl ?_
 obtain ⟨g, hs54, h⟩ := h
 refine aG 24 hs54 (by kernel_rfl) rfl (by kernel_rfl) rfl rfl .rfl rfl rfl ?_
 refine gDr [(25, 1), (26, 1)] (by kernel_rfl) rfl rfl <| gDe (by kernel_rfl) <| gR 2 rfl ?_
 subst h
 exact go_end ab (rs := [.tmp 2]) rfl rfl rfl
 refine gDr [(17, 2), (18, 2), (19, 0), (20, 0), (21, 0), (22, 0), (23, 0), (24, 0), (25, 1), (26, 1)] (by kernel_rfl) rfl rfl <| gDe (by kernel_rfl) <| gR 2 rfl ?_
 subst h
 exact go_end ab (rs := [.tmp 2]) rfl rfl rfl
 refine gDr [(10, 2), (11, 0), (12, 0), (13, 0), (14, 0), (15, 0), (16, 0), (17, 2), (18, 2), (19, 0), (20, 0), (21, 0), (22, 0), (23, 0), (24, 0), (25, 1), (26, 1)] (by kernel_rfl) rfl rfl <| gDe (by kernel_rfl) <| gR 2 rfl ?_
 subst h
 exact go_end ab (rs := [.tmp 2]) rfl rfl rfl
 refine gDr [(6, 0), (7, 0), (8, 0), (9, 0), (10, 2), (11, 0), (12, 0), (13, 0), (14, 0), (15, 0), (16, 0), (17, 2), (18, 2), (19, 0), (20, 0), (21, 0), (22, 0), (23, 0), (24, 0), (25, 1), (26, 1)] (by kernel_rfl) rfl rfl <| gDe (by kernel_rfl) <| gR 2 rfl ?_
 subst h
 exact go_end ab (rs := [.tmp 2]) rfl rfl rfl
 refine gDr [(2, 0), (3, 0), (4, 0), (5, 0), (6, 0), (7, 0), (8, 0), (9, 0), (10, 2), (11, 0), (12, 0), (13, 0), (14, 0), (15, 0), (16, 0), (17, 2), (18, 2), (19, 0), (20, 0), (21, 0), (22, 0), (23, 0), (24, 0), (25, 1), (26, 1)] (by kernel_rfl) rfl rfl <| gDe (by kernel_rfl) <| gR 2 rfl ?_
 subst h
 exact go_end ab (rs := [.tmp 2]) rfl rfl rfl
def gz (m : Nat) (a : Tree) (b : Int) (d : GDatum) (e f : Int) (r0 : Bool) : Prop := ∀ (K : Ctx), ao K [] → Go Tryz.prog K (bodyPost Tryz.prog Tryz.f13 (SP K (fun u _ => u = .bool r0))) (.ex .normal) [.seq (xG (ae Tryz.f13))] 60 (mkF 60 0 [(1, .ptr 0 0), (3, .int .i64 b), (4, .ptr 1 0), (5, .int .i64 e), (6, .int .i64 f)]) ⟨2, [(1, .var 24 (GDatum.c d)), (0, .var 35 (aM a))]⟩
def gw (m : Nat) (a : Int) (b : GDatum) (d e f g : Int) (r0 : Bool) : Prop := ∀ (K : Ctx), ao K [] → Go Tryz.prog K (bodyPost Tryz.prog Tryz.f13 (SP K (fun u _ => u = .bool r0))) (.ex .normal) [.seq (xJ (ae Tryz.f13))] 60 (mkF 60 0 [(3, .int .i64 a), (4, .ptr 0 0), (5, .int .i64 d), (6, .int .i64 e), (8, .int .i64 f), (9, .int .i64 g)]) ⟨1, [(0, .var 24 (GDatum.c b))]⟩
theorem lG (m : Nat) (r0 : Bool) (h : ∃ b g f, kX [109, 111, 100, 117, 108, 101, 32, 77, 32, 100, 101, 102, 32, 102, 40, 110, 58, 32, 73, 110, 116, 41, 58, 32, 73, 110, 116, 32, 61, 32, 105, 102, 32, 110, 32, 60, 32, 49, 32, 116, 104, 101, 110, 32, 48, 32, 101, 108, 115, 101, 32, 110, 32, 43, 32, 102, 40, 110, 32, 45, 32, 49, 41] b g f ∧ ∃ a, bt 2 a ∧ ∃ c d e, gd [b] 0 0 [a] 100 c d e ∧ gz m b f c d e r0) : hO r0 := by
 refine ⟨rfl, rfl, ?_⟩
 refine aj 60 [] Tryz.func13 rfl rfl rfl (av rfl) fun K hK => ?_
 refine gR 7 rfl ?_
 obtain ⟨b, g, f, hs61, h⟩ := h
 refine gC0 hs61 (by kernel_rfl) rfl rfl .rfl rfl <| gR 11 rfl <| gDs [0] 10 13 rfl (by kernel_rfl) (by kernel_rfl) <| gDr [(0, 3)] (by kernel_rfl) rfl rfl ?_
 obtain ⟨a, hs62, h⟩ := h
 apply ml (i := 1) (j := 2) (l := 9) (by kernel_rfl) rfl rfl rfl rfl rfl rfl
 exact (ak ab rfl rfl)
 exact (aW (L' := [0]) (by kernel_rfl) rfl rfl (cQ hs62 .rfl [0] rfl) (.inl rfl))
 exact (ak ab rfl rfl)
 refine gHR 1 (kidsV [b]) rfl (cI b) rfl ?_
 apply aC (i := 2) (j := 9) (by kernel_rfl) rfl rfl rfl rfl
 exact (aW (L' := [0]) (by kernel_rfl) rfl rfl (cQ hs62 .rfl [0] rfl) (.inl rfl))
 exact (ak ab rfl rfl)
 apply aC (i := 3) (j := 9) (by kernel_rfl) rfl rfl rfl rfl
 exact (ak ab rfl rfl)
 exact (ak ab rfl rfl)
 refine gHR 2 (GDatum.vs [a]) rfl (GDatum.vone a) rfl <| gFR 1 rfl (bf _) rfl rfl <| gFR 2 rfl (GDatum.vpure _) rfl rfl ?_
 obtain ⟨c, d, e, hs63, h⟩ := h
 apply aC (i := 4) (j := 9) (by kernel_rfl) rfl rfl rfl rfl
 exact (aW (L' := [0]) (by kernel_rfl) rfl rfl (cQ hs63 .rfl [0] rfl) (.inl rfl))
 exact (ak ab rfl rfl)
 exact gDr [(5, 2), (6, 2), (7, 2), (8, 2), (9, 0), (10, 1), (11, 1), (12, 1)] (by kernel_rfl) rfl rfl <| gDe (by kernel_rfl) <| gJ (h K hK) [0, 3] [] rfl hK pq5 (pqo2 rfl rfl rfl rfl) rfl
 refine aG 4 hs63 (by kernel_rfl) rfl (by kernel_rfl) rfl rfl .rfl rfl rfl ?_
 exact gDr [(5, 0), (6, 2), (7, 2), (8, 2), (10, 1), (11, 1), (12, 1)] (by kernel_rfl) rfl rfl <| gDe (by kernel_rfl) <| gJ (h K hK) [0, 3] [] rfl hK pq5 (pqo2 rfl rfl rfl rfl) rfl
 refine gDr [(3, 0)] (by kernel_rfl) rfl rfl <| gHR 3 (GDatum.vs [a]) rfl (GDatum.vone a) rfl <| gFR 1 rfl (bf _) rfl rfl <| gFR 3 rfl (GDatum.vpure _) rfl rfl ?_
 obtain ⟨c, d, e, hs64, h⟩ := h
 refine aG 4 hs64 (by kernel_rfl) rfl (by kernel_rfl) rfl rfl .rfl rfl rfl ?_
 exact gDr [(5, 0), (6, 2), (7, 2), (8, 2), (10, 1), (11, 1), (12, 1)] (by kernel_rfl) rfl rfl <| gDe (by kernel_rfl) <| gJ (h K hK) [0, 2] [] rfl hK pq5 (pqo2 rfl rfl rfl rfl) rfl
 refine aG 2 hs62 (by kernel_rfl) rfl (by kernel_rfl) rfl rfl .rfl rfl rfl ?_
 refine gDr [(3, 0)] (by kernel_rfl) rfl rfl <| gHR 3 (GDatum.vs [a]) rfl (GDatum.vone a) rfl <| gFR 1 rfl (bf _) rfl rfl <| gFR 3 rfl (GDatum.vpure _) rfl rfl ?_
 obtain ⟨c, d, e, hs65, h⟩ := h
 refine aG 4 hs65 (by kernel_rfl) rfl (by kernel_rfl) rfl rfl .rfl rfl rfl ?_
 exact gDr [(5, 0), (6, 2), (7, 2), (8, 2), (10, 1), (11, 1), (12, 1)] (by kernel_rfl) rfl rfl <| gDe (by kernel_rfl) <| gJ (h K hK) [0, 2] [] rfl hK pq5 (pqo2 rfl rfl rfl rfl) rfl
 apply ml (i := 1) (j := 3) (l := 9) (by kernel_rfl) rfl rfl rfl rfl rfl rfl
 exact (ak ab rfl rfl)
 exact (ak ab rfl rfl)
 exact (ak ab rfl rfl)
 refine gHR 1 (kidsV [b]) rfl (cI b) rfl ?_
 apply aC (i := 3) (j := 9) (by kernel_rfl) rfl rfl rfl rfl
 exact (ak ab rfl rfl)
 exact (ak ab rfl rfl)
 refine gHR 2 (GDatum.vs [a]) rfl (GDatum.vone a) rfl <| gFR 1 rfl (bf _) rfl rfl <| gFR 2 rfl (GDatum.vpure _) rfl rfl ?_
 obtain ⟨c, d, e, hs66, h⟩ := h
 apply aC (i := 4) (j := 9) (by kernel_rfl) rfl rfl rfl rfl
 exact (aW (L' := [0]) (by kernel_rfl) rfl rfl (cQ hs66 .rfl [0] rfl) (.inl rfl))
 exact (ak ab rfl rfl)
 exact gDr [(5, 2), (6, 2), (7, 2), (8, 2), (9, 0), (10, 1), (11, 1), (12, 1)] (by kernel_rfl) rfl rfl <| gDe (by kernel_rfl) <| gJ (h K hK) [0, 3] [] rfl hK pq5 (pqo2 rfl rfl rfl rfl) rfl
 refine aG 4 hs66 (by kernel_rfl) rfl (by kernel_rfl) rfl rfl .rfl rfl rfl ?_
 exact gDr [(5, 0), (6, 2), (7, 2), (8, 2), (10, 1), (11, 1), (12, 1)] (by kernel_rfl) rfl rfl <| gDe (by kernel_rfl) <| gJ (h K hK) [0, 3] [] rfl hK pq5 (pqo2 rfl rfl rfl rfl) rfl
 refine gDr [(3, 0)] (by kernel_rfl) rfl rfl <| gHR 3 (GDatum.vs [a]) rfl (GDatum.vone a) rfl <| gFR 1 rfl (bf _) rfl rfl <| gFR 3 rfl (GDatum.vpure _) rfl rfl ?_
 obtain ⟨c, d, e, hs67, h⟩ := h
 refine aG 4 hs67 (by kernel_rfl) rfl (by kernel_rfl) rfl rfl .rfl rfl rfl ?_
 exact gDr [(5, 0), (6, 2), (7, 2), (8, 2), (10, 1), (11, 1), (12, 1)] (by kernel_rfl) rfl rfl <| gDe (by kernel_rfl) <| gJ (h K hK) [0, 2] [] rfl hK pq5 (pqo2 rfl rfl rfl rfl) rfl
 refine gHR 1 (GDatum.vs [a]) rfl (GDatum.vone a) rfl ?_
 apply aC (i := 1) (j := 9) (by kernel_rfl) rfl rfl rfl rfl
 exact (ak ab rfl rfl)
 exact (ak ab rfl rfl)
 refine gHR 2 (kidsV [b]) rfl (cI b) rfl <| gFR 2 rfl (bf _) rfl rfl <| gFR 1 rfl (GDatum.vpure _) rfl rfl ?_
 obtain ⟨c, d, e, hs68, h⟩ := h
 apply aC (i := 4) (j := 9) (by kernel_rfl) rfl rfl rfl rfl
 exact (aW (L' := [0]) (by kernel_rfl) rfl rfl (cQ hs68 .rfl [0] rfl) (.inl rfl))
 exact (ak ab rfl rfl)
 exact gDr [(5, 2), (6, 2), (7, 2), (8, 2), (9, 0), (10, 1), (11, 1), (12, 1)] (by kernel_rfl) rfl rfl <| gDe (by kernel_rfl) <| gJ (h K hK) [0, 3] [] rfl hK pq5 (pqo2 rfl rfl rfl rfl) rfl
 refine aG 4 hs68 (by kernel_rfl) rfl (by kernel_rfl) rfl rfl .rfl rfl rfl ?_
 exact gDr [(5, 0), (6, 2), (7, 2), (8, 2), (10, 1), (11, 1), (12, 1)] (by kernel_rfl) rfl rfl <| gDe (by kernel_rfl) <| gJ (h K hK) [0, 3] [] rfl hK pq5 (pqo2 rfl rfl rfl rfl) rfl
 refine gDr [(1, 0)] (by kernel_rfl) rfl rfl <| gHR 3 (kidsV [b]) rfl (cI b) rfl <| gFR 3 rfl (bf _) rfl rfl <| gFR 1 rfl (GDatum.vpure _) rfl rfl ?_
 obtain ⟨c, d, e, hs69, h⟩ := h
 refine aG 4 hs69 (by kernel_rfl) rfl (by kernel_rfl) rfl rfl .rfl rfl rfl ?_
 exact gDr [(5, 0), (6, 2), (7, 2), (8, 2), (10, 1), (11, 1), (12, 1)] (by kernel_rfl) rfl rfl <| gDe (by kernel_rfl) <| gJ (h K hK) [0, 2] [] rfl hK pq5 (pqo2 rfl rfl rfl rfl) rfl
 apply aC (i := 1) (j := 3) (by kernel_rfl) rfl rfl rfl rfl
 exact (ak ab rfl rfl)
 exact (ak ab rfl rfl)
 refine gHR 2 (kidsV [b]) rfl (cI b) rfl <| gDr [(3, 0)] (by kernel_rfl) rfl rfl <| gHR 3 (GDatum.vs [a]) rfl (GDatum.vone a) rfl <| gFR 2 rfl (bf _) rfl rfl <| gFR 3 rfl (GDatum.vpure _) rfl rfl ?_
 obtain ⟨c, d, e, hs70, h⟩ := h
 refine aG 4 hs70 (by kernel_rfl) rfl (by kernel_rfl) rfl rfl .rfl rfl rfl ?_
 exact gDr [(5, 0), (6, 2), (7, 2), (8, 2), (10, 1), (11, 1), (12, 1)] (by kernel_rfl) rfl rfl <| gDe (by kernel_rfl) <| gJ (h K hK) [0, 1] [] rfl hK pq5 (pqo2 rfl rfl rfl rfl) rfl
 refine gHR 2 (GDatum.vs [a]) rfl (GDatum.vone a) rfl <| gDr [(1, 0)] (by kernel_rfl) rfl rfl <| gHR 3 (kidsV [b]) rfl (cI b) rfl <| gFR 3 rfl (bf _) rfl rfl <| gFR 2 rfl (GDatum.vpure _) rfl rfl ?_
 obtain ⟨c, d, e, hs71, h⟩ := h
 refine aG 4 hs71 (by kernel_rfl) rfl (by kernel_rfl) rfl rfl .rfl rfl rfl ?_
 exact gDr [(5, 0), (6, 2), (7, 2), (8, 2), (10, 1), (11, 1), (12, 1)] (by kernel_rfl) rfl rfl <| gDe (by kernel_rfl) <| gJ (h K hK) [0, 1] [] rfl hK pq5 (pqo2 rfl rfl rfl rfl) rfl
 apply aC (i := 1) (j := 2) (by kernel_rfl) rfl rfl rfl rfl
 exact (ak ab rfl rfl)
 exact (aW (L' := [0]) (by kernel_rfl) rfl rfl (cQ hs62 .rfl [0] rfl) (.inl rfl))
 refine gHR 2 (kidsV [b]) rfl (cI b) rfl <| aG 2 hs62 (by kernel_rfl) rfl (by kernel_rfl) rfl rfl .rfl rfl rfl <| gDr [(3, 0)] (by kernel_rfl) rfl rfl <| gHR 3 (GDatum.vs [a]) rfl (GDatum.vone a) rfl <| gFR 2 rfl (bf _) rfl rfl <| gFR 3 rfl (GDatum.vpure _) rfl rfl ?_
 obtain ⟨c, d, e, hs72, h⟩ := h
 refine aG 4 hs72 (by kernel_rfl) rfl (by kernel_rfl) rfl rfl .rfl rfl rfl ?_
 exact gDr [(5, 0), (6, 2), (7, 2), (8, 2), (10, 1), (11, 1), (12, 1)] (by kernel_rfl) rfl rfl <| gDe (by kernel_rfl) <| gJ (h K hK) [0, 1] [] rfl hK pq5 (pqo2 rfl rfl rfl rfl) rfl
 apply aC (i := 1) (j := 3) (by kernel_rfl) rfl rfl rfl rfl
 exact (ak ab rfl rfl)
 exact (ak ab rfl rfl)
 refine gHR 2 (kidsV [b]) rfl (cI b) rfl <| gDr [(3, 0)] (by kernel_rfl) rfl rfl <| gHR 3 (GDatum.vs [a]) rfl (GDatum.vone a) rfl <| gFR 2 rfl (bf _) rfl rfl <| gFR 3 rfl (GDatum.vpure _) rfl rfl ?_
 obtain ⟨c, d, e, hs73, h⟩ := h
 refine aG 4 hs73 (by kernel_rfl) rfl (by kernel_rfl) rfl rfl .rfl rfl rfl ?_
 exact gDr [(5, 0), (6, 2), (7, 2), (8, 2), (10, 1), (11, 1), (12, 1)] (by kernel_rfl) rfl rfl <| gDe (by kernel_rfl) <| gJ (h K hK) [0, 1] [] rfl hK pq5 (pqo2 rfl rfl rfl rfl) rfl
 refine gHR 2 (GDatum.vs [a]) rfl (GDatum.vone a) rfl <| gDr [(1, 0)] (by kernel_rfl) rfl rfl <| gHR 3 (kidsV [b]) rfl (cI b) rfl <| gFR 3 rfl (bf _) rfl rfl <| gFR 2 rfl (GDatum.vpure _) rfl rfl ?_
 obtain ⟨c, d, e, hs74, h⟩ := h
 refine aG 4 hs74 (by kernel_rfl) rfl (by kernel_rfl) rfl rfl .rfl rfl rfl ?_
 exact gDr [(5, 0), (6, 2), (7, 2), (8, 2), (10, 1), (11, 1), (12, 1)] (by kernel_rfl) rfl rfl <| gDe (by kernel_rfl) <| gJ (h K hK) [0, 1] [] rfl hK pq5 (pqo2 rfl rfl rfl rfl) rfl
theorem lc (m : Nat) (b : Tree) (f : Int) (g : GDatum) (k n : Int) (r0 : Bool) (h : ∃ a, bt 2 a ∧ ∃ e c d, gd [b] 0 0 [a] 5 e c d ∧ gw m f g k n c d r0) : gz (m + 1) b f g k n r0 := by
 intro K hK
 refine gR 2 rfl <| gDs [0] 10 13 rfl (by kernel_rfl) (by kernel_rfl) <| gDr [(0, 3)] (by kernel_rfl) rfl rfl ?_
 obtain ⟨a, hs75, h⟩ := h
 apply ml (i := 1) (j := 2) (l := 9) (by kernel_rfl) rfl rfl rfl rfl rfl rfl
 exact (ak ab rfl rfl)
 exact (aW (L' := [0]) (by kernel_rfl) rfl rfl (cQ hs75 .rfl [0] rfl) (.inl rfl))
 exact (ak ab rfl rfl)
 refine gHR 2 (kidsV [b]) rfl (cI b) rfl ?_
 apply aC (i := 2) (j := 9) (by kernel_rfl) rfl rfl rfl rfl
 exact (aW (L' := [0]) (by kernel_rfl) rfl rfl (cQ hs75 .rfl [0] rfl) (.inl rfl))
 exact (ak ab rfl rfl)
 apply aC (i := 3) (j := 9) (by kernel_rfl) rfl rfl rfl rfl
 exact (ak ab rfl rfl)
 exact (ak ab rfl rfl)
 refine gHR 3 (GDatum.vs [a]) rfl (GDatum.vone a) rfl <| gFR 2 rfl (bf _) rfl rfl <| gFR 3 rfl (GDatum.vpure _) rfl rfl ?_
 obtain ⟨e, c, d, hs76, h⟩ := h
 apply aC (i := 4) (j := 9) (by kernel_rfl) rfl rfl rfl rfl
 exact (aW (L' := [0]) (by kernel_rfl) rfl rfl (cQ hs76 .rfl [0] rfl) (.inl rfl))
 exact (ak ab rfl rfl)
 exact gDr [(5, 2), (6, 2), (7, 2), (8, 2), (9, 0), (10, 1), (11, 1), (12, 1)] (by kernel_rfl) rfl rfl <| gDe (by kernel_rfl) <| gJ (h K hK) [1] [] rfl hK pq6 (pqo1 rfl rfl) rfl
 refine aG 4 hs76 (by kernel_rfl) rfl (by kernel_rfl) rfl rfl .rfl rfl rfl ?_
 exact gDr [(5, 0), (6, 2), (7, 2), (8, 2), (10, 1), (11, 1), (12, 1)] (by kernel_rfl) rfl rfl <| gDe (by kernel_rfl) <| gJ (h K hK) [1] [] rfl hK pq6 (pqo1 rfl rfl) rfl
 refine gDr [(3, 0)] (by kernel_rfl) rfl rfl <| gHR 4 (GDatum.vs [a]) rfl (GDatum.vone a) rfl <| gFR 2 rfl (bf _) rfl rfl <| gFR 4 rfl (GDatum.vpure _) rfl rfl ?_
 obtain ⟨e, c, d, hs77, h⟩ := h
 refine aG 4 hs77 (by kernel_rfl) rfl (by kernel_rfl) rfl rfl .rfl rfl rfl ?_
 exact gDr [(5, 0), (6, 2), (7, 2), (8, 2), (10, 1), (11, 1), (12, 1)] (by kernel_rfl) rfl rfl <| gDe (by kernel_rfl) <| gJ (h K hK) [1] [] rfl hK pq6 (pqo1 rfl rfl) rfl
 refine aG 2 hs75 (by kernel_rfl) rfl (by kernel_rfl) rfl rfl .rfl rfl rfl ?_
 refine gDr [(3, 0)] (by kernel_rfl) rfl rfl <| gHR 4 (GDatum.vs [a]) rfl (GDatum.vone a) rfl <| gFR 2 rfl (bf _) rfl rfl <| gFR 4 rfl (GDatum.vpure _) rfl rfl ?_
 obtain ⟨e, c, d, hs78, h⟩ := h
 refine aG 4 hs78 (by kernel_rfl) rfl (by kernel_rfl) rfl rfl .rfl rfl rfl ?_
 exact gDr [(5, 0), (6, 2), (7, 2), (8, 2), (10, 1), (11, 1), (12, 1)] (by kernel_rfl) rfl rfl <| gDe (by kernel_rfl) <| gJ (h K hK) [1] [] rfl hK pq6 (pqo1 rfl rfl) rfl
 apply ml (i := 1) (j := 3) (l := 9) (by kernel_rfl) rfl rfl rfl rfl rfl rfl
 exact (ak ab rfl rfl)
 exact (ak ab rfl rfl)
 exact (ak ab rfl rfl)
 refine gHR 2 (kidsV [b]) rfl (cI b) rfl ?_
 apply aC (i := 3) (j := 9) (by kernel_rfl) rfl rfl rfl rfl
 exact (ak ab rfl rfl)
 exact (ak ab rfl rfl)
 refine gHR 3 (GDatum.vs [a]) rfl (GDatum.vone a) rfl <| gFR 2 rfl (bf _) rfl rfl <| gFR 3 rfl (GDatum.vpure _) rfl rfl ?_
 obtain ⟨e, c, d, hs79, h⟩ := h
 apply aC (i := 4) (j := 9) (by kernel_rfl) rfl rfl rfl rfl
 exact (aW (L' := [0]) (by kernel_rfl) rfl rfl (cQ hs79 .rfl [0] rfl) (.inl rfl))
 exact (ak ab rfl rfl)
 exact gDr [(5, 2), (6, 2), (7, 2), (8, 2), (9, 0), (10, 1), (11, 1), (12, 1)] (by kernel_rfl) rfl rfl <| gDe (by kernel_rfl) <| gJ (h K hK) [1] [] rfl hK pq6 (pqo1 rfl rfl) rfl
 refine aG 4 hs79 (by kernel_rfl) rfl (by kernel_rfl) rfl rfl .rfl rfl rfl ?_
 exact gDr [(5, 0), (6, 2), (7, 2), (8, 2), (10, 1), (11, 1), (12, 1)] (by kernel_rfl) rfl rfl <| gDe (by kernel_rfl) <| gJ (h K hK) [1] [] rfl hK pq6 (pqo1 rfl rfl) rfl
 refine gDr [(3, 0)] (by kernel_rfl) rfl rfl <| gHR 4 (GDatum.vs [a]) rfl (GDatum.vone a) rfl <| gFR 2 rfl (bf _) rfl rfl <| gFR 4 rfl (GDatum.vpure _) rfl rfl ?_
 obtain ⟨e, c, d, hs80, h⟩ := h
 refine aG 4 hs80 (by kernel_rfl) rfl (by kernel_rfl) rfl rfl .rfl rfl rfl ?_
 exact gDr [(5, 0), (6, 2), (7, 2), (8, 2), (10, 1), (11, 1), (12, 1)] (by kernel_rfl) rfl rfl <| gDe (by kernel_rfl) <| gJ (h K hK) [1] [] rfl hK pq6 (pqo1 rfl rfl) rfl
 refine gHR 2 (GDatum.vs [a]) rfl (GDatum.vone a) rfl ?_
 apply aC (i := 1) (j := 9) (by kernel_rfl) rfl rfl rfl rfl
 exact (ak ab rfl rfl)
 exact (ak ab rfl rfl)
 refine gHR 3 (kidsV [b]) rfl (cI b) rfl <| gFR 3 rfl (bf _) rfl rfl <| gFR 2 rfl (GDatum.vpure _) rfl rfl ?_
 obtain ⟨e, c, d, hs81, h⟩ := h
 apply aC (i := 4) (j := 9) (by kernel_rfl) rfl rfl rfl rfl
 exact (aW (L' := [0]) (by kernel_rfl) rfl rfl (cQ hs81 .rfl [0] rfl) (.inl rfl))
 exact (ak ab rfl rfl)
 exact gDr [(5, 2), (6, 2), (7, 2), (8, 2), (9, 0), (10, 1), (11, 1), (12, 1)] (by kernel_rfl) rfl rfl <| gDe (by kernel_rfl) <| gJ (h K hK) [1] [] rfl hK pq6 (pqo1 rfl rfl) rfl
 refine aG 4 hs81 (by kernel_rfl) rfl (by kernel_rfl) rfl rfl .rfl rfl rfl ?_
 exact gDr [(5, 0), (6, 2), (7, 2), (8, 2), (10, 1), (11, 1), (12, 1)] (by kernel_rfl) rfl rfl <| gDe (by kernel_rfl) <| gJ (h K hK) [1] [] rfl hK pq6 (pqo1 rfl rfl) rfl
 refine gDr [(1, 0)] (by kernel_rfl) rfl rfl <| gHR 4 (kidsV [b]) rfl (cI b) rfl <| gFR 4 rfl (bf _) rfl rfl <| gFR 2 rfl (GDatum.vpure _) rfl rfl ?_
 obtain ⟨e, c, d, hs82, h⟩ := h
 refine aG 4 hs82 (by kernel_rfl) rfl (by kernel_rfl) rfl rfl .rfl rfl rfl ?_
 exact gDr [(5, 0), (6, 2), (7, 2), (8, 2), (10, 1), (11, 1), (12, 1)] (by kernel_rfl) rfl rfl <| gDe (by kernel_rfl) <| gJ (h K hK) [1] [] rfl hK pq6 (pqo1 rfl rfl) rfl
 apply aC (i := 1) (j := 3) (by kernel_rfl) rfl rfl rfl rfl
 exact (ak ab rfl rfl)
 exact (ak ab rfl rfl)
 refine gHR 3 (kidsV [b]) rfl (cI b) rfl <| gDr [(3, 0)] (by kernel_rfl) rfl rfl <| gHR 4 (GDatum.vs [a]) rfl (GDatum.vone a) rfl <| gFR 3 rfl (bf _) rfl rfl <| gFR 4 rfl (GDatum.vpure _) rfl rfl ?_
 obtain ⟨e, c, d, hs83, h⟩ := h
 refine aG 4 hs83 (by kernel_rfl) rfl (by kernel_rfl) rfl rfl .rfl rfl rfl ?_
 exact gDr [(5, 0), (6, 2), (7, 2), (8, 2), (10, 1), (11, 1), (12, 1)] (by kernel_rfl) rfl rfl <| gDe (by kernel_rfl) <| gJ (h K hK) [1] [] rfl hK pq6 (pqo1 rfl rfl) rfl
 refine gHR 3 (GDatum.vs [a]) rfl (GDatum.vone a) rfl <| gDr [(1, 0)] (by kernel_rfl) rfl rfl <| gHR 4 (kidsV [b]) rfl (cI b) rfl <| gFR 4 rfl (bf _) rfl rfl <| gFR 3 rfl (GDatum.vpure _) rfl rfl ?_
 obtain ⟨e, c, d, hs84, h⟩ := h
 refine aG 4 hs84 (by kernel_rfl) rfl (by kernel_rfl) rfl rfl .rfl rfl rfl ?_
 exact gDr [(5, 0), (6, 2), (7, 2), (8, 2), (10, 1), (11, 1), (12, 1)] (by kernel_rfl) rfl rfl <| gDe (by kernel_rfl) <| gJ (h K hK) [1] [] rfl hK pq6 (pqo1 rfl rfl) rfl
 apply aC (i := 1) (j := 2) (by kernel_rfl) rfl rfl rfl rfl
 exact (ak ab rfl rfl)
 exact (aW (L' := [0]) (by kernel_rfl) rfl rfl (cQ hs75 .rfl [0] rfl) (.inl rfl))
 refine gHR 3 (kidsV [b]) rfl (cI b) rfl <| aG 2 hs75 (by kernel_rfl) rfl (by kernel_rfl) rfl rfl .rfl rfl rfl <| gDr [(3, 0)] (by kernel_rfl) rfl rfl <| gHR 4 (GDatum.vs [a]) rfl (GDatum.vone a) rfl <| gFR 3 rfl (bf _) rfl rfl <| gFR 4 rfl (GDatum.vpure _) rfl rfl ?_
 obtain ⟨e, c, d, hs85, h⟩ := h
 refine aG 4 hs85 (by kernel_rfl) rfl (by kernel_rfl) rfl rfl .rfl rfl rfl ?_
 exact gDr [(5, 0), (6, 2), (7, 2), (8, 2), (10, 1), (11, 1), (12, 1)] (by kernel_rfl) rfl rfl <| gDe (by kernel_rfl) <| gJ (h K hK) [1] [] rfl hK pq6 (pqo1 rfl rfl) rfl
 apply aC (i := 1) (j := 3) (by kernel_rfl) rfl rfl rfl rfl
 exact (ak ab rfl rfl)
 exact (ak ab rfl rfl)
 refine gHR 3 (kidsV [b]) rfl (cI b) rfl <| gDr [(3, 0)] (by kernel_rfl) rfl rfl <| gHR 4 (GDatum.vs [a]) rfl (GDatum.vone a) rfl <| gFR 3 rfl (bf _) rfl rfl <| gFR 4 rfl (GDatum.vpure _) rfl rfl ?_
 obtain ⟨e, c, d, hs86, h⟩ := h
 refine aG 4 hs86 (by kernel_rfl) rfl (by kernel_rfl) rfl rfl .rfl rfl rfl ?_
 exact gDr [(5, 0), (6, 2), (7, 2), (8, 2), (10, 1), (11, 1), (12, 1)] (by kernel_rfl) rfl rfl <| gDe (by kernel_rfl) <| gJ (h K hK) [1] [] rfl hK pq6 (pqo1 rfl rfl) rfl
 refine gHR 3 (GDatum.vs [a]) rfl (GDatum.vone a) rfl <| gDr [(1, 0)] (by kernel_rfl) rfl rfl <| gHR 4 (kidsV [b]) rfl (cI b) rfl <| gFR 4 rfl (bf _) rfl rfl <| gFR 3 rfl (GDatum.vpure _) rfl rfl ?_
 obtain ⟨e, c, d, hs87, h⟩ := h
 refine aG 4 hs87 (by kernel_rfl) rfl (by kernel_rfl) rfl rfl .rfl rfl rfl ?_
 exact gDr [(5, 0), (6, 2), (7, 2), (8, 2), (10, 1), (11, 1), (12, 1)] (by kernel_rfl) rfl rfl <| gDe (by kernel_rfl) <| gJ (h K hK) [1] [] rfl hK pq6 (pqo1 rfl rfl) rfl
theorem lg (m : Nat) (b : Int) (c : GDatum) (d e f g : Int) (r0 : Bool) (h : ((b = 0) → ((e = 0) → ((d = 25) → ∃ i, bt 3 i ∧ ∃ a, dv c i a ∧ ((a = true) → ((g = 21) → ((f = 5) → ∃ j, fN c j ∧ j = r0) ∧ ((f ≠ 5) → false = r0)) ∧ ((g ≠ 21) → false = r0)) ∧ ((a = false) → false = r0)) ∧ ((d ≠ 25) → false = r0)) ∧ ((e ≠ 0) → false = r0)) ∧ ((b ≠ 0) → false = r0)) : gw (m + 1) b c d e f g r0 := by
 intro K hK
 refine gR 2 rfl <| gDs [0] 27 28 rfl (by kernel_rfl) (by kernel_rfl) <| gDr [(0, 0), (1, 0), (2, 0)] (by kernel_rfl) rfl rfl <| qBeZ 35 34 rfl rfl rfl rfl h (fun h => ?_) fun h => ?_
 refine gDr [(3, 0), (4, 0), (5, 0), (6, 0)] (by kernel_rfl) rfl rfl <| qBeZ 39 38 rfl rfl rfl rfl h (fun h => ?_) fun h => ?_
 refine gDr [(7, 0), (8, 0), (9, 0), (10, 0)] (by kernel_rfl) rfl rfl <| qBeZ 43 42 rfl rfl rfl rfl h (fun h => ?_) fun h => ?_
 refine gDr [(11, 3)] (by kernel_rfl) rfl rfl ?_
 obtain ⟨i, hs88, h⟩ := h
 refine aG 12 hs88 (by kernel_rfl) rfl (by kernel_rfl) rfl rfl .rfl rfl rfl ?_
 obtain ⟨a, hs89, h⟩ := h
 refine aG 13 hs89 (by kernel_rfl) rfl (by kernel_rfl) rfl rfl .rfl rfl rfl ?_
 refine gDr [(14, 0), (15, 0)] (by kernel_rfl) rfl rfl <| qBiZ 48 47 rfl rfl rfl rfl h (fun h => ?_) fun h => ?_
 refine gDr [(16, 0), (17, 0), (18, 0), (19, 0)] (by kernel_rfl) rfl rfl <| qBeZ 52 51 rfl rfl rfl rfl h (fun h => ?_) fun h => ?_
 refine gDr [(20, 0), (21, 0), (22, 0), (23, 0)] (by kernel_rfl) rfl rfl <| qBeZ 56 55 rfl rfl rfl rfl h (fun h => ?_) fun h => ?_
 refine gDr [(24, 0)] (by kernel_rfl) rfl rfl ?_
 obtain ⟨j, hs90, h⟩ := h
 refine aG 25 hs90 (by kernel_rfl) rfl (by kernel_rfl) rfl rfl .rfl rfl rfl ?_
 refine gDr [(26, 0), (27, 1)] (by kernel_rfl) rfl rfl <| gDe (by kernel_rfl) <| gR 2 rfl ?_
 subst h
 exact go_end ab (rs := [.tmp 0]) rfl rfl rfl
 refine gDr [(24, 0), (25, 0), (26, 0), (27, 1)] (by kernel_rfl) rfl rfl <| gDe (by kernel_rfl) <| gR 2 rfl ?_
 subst h
 exact go_end ab (rs := [.tmp 0]) rfl rfl rfl
 refine gDr [(20, 0), (21, 0), (22, 0), (23, 0), (24, 0), (25, 0), (26, 0), (27, 1)] (by kernel_rfl) rfl rfl <| gDe (by kernel_rfl) <| gR 2 rfl ?_
 subst h
 exact go_end ab (rs := [.tmp 0]) rfl rfl rfl
 refine gDr [(16, 0), (17, 0), (18, 0), (19, 0), (20, 0), (21, 0), (22, 0), (23, 0), (24, 0), (25, 0), (26, 0), (27, 1)] (by kernel_rfl) rfl rfl <| gDe (by kernel_rfl) <| gR 2 rfl ?_
 subst h
 exact go_end ab (rs := [.tmp 0]) rfl rfl rfl
 refine gDr [(11, 2), (12, 0), (13, 0), (14, 0), (15, 0), (16, 0), (17, 0), (18, 0), (19, 0), (20, 0), (21, 0), (22, 0), (23, 0), (24, 0), (25, 0), (26, 0), (27, 1)] (by kernel_rfl) rfl rfl <| gDe (by kernel_rfl) <| gR 2 rfl ?_
 subst h
 exact go_end ab (rs := [.tmp 0]) rfl rfl rfl
 refine gDr [(7, 0), (8, 0), (9, 0), (10, 0), (11, 2), (12, 0), (13, 0), (14, 0), (15, 0), (16, 0), (17, 0), (18, 0), (19, 0), (20, 0), (21, 0), (22, 0), (23, 0), (24, 0), (25, 0), (26, 0), (27, 1)] (by kernel_rfl) rfl rfl <| gDe (by kernel_rfl) <| gR 2 rfl ?_
 subst h
 exact go_end ab (rs := [.tmp 0]) rfl rfl rfl
 refine gDr [(3, 0), (4, 0), (5, 0), (6, 0), (7, 0), (8, 0), (9, 0), (10, 0), (11, 2), (12, 0), (13, 0), (14, 0), (15, 0), (16, 0), (17, 0), (18, 0), (19, 0), (20, 0), (21, 0), (22, 0), (23, 0), (24, 0), (25, 0), (26, 0), (27, 1)] (by kernel_rfl) rfl rfl <| gDe (by kernel_rfl) <| gR 2 rfl ?_
 subst h
 exact go_end ab (rs := [.tmp 0]) rfl rfl rfl
end Go.Proofs.YthnohcipianijaaGreatDoor
