/- Contracts of the functions that the law reaches, part 4. -/
import Derived.Test.YthnohcipianijaaGreatDoorDa3
set_option linter.unusedVariables false
set_option linter.unusedSimpArgs false
namespace Go.Proofs.YthnohcipianijaaGreatDoor
open Go.RowKit Lx
set_option maxRecDepth 100000
def na (c : UInt8) : Int := Lib.indexByte signs c
theorem oA : ∀ (l : List UInt8) (c : UInt8), 0 ≤ Lib.indexByte l c ↔ l.contains c = true
  | [], c => by simp [Lib.indexByte]
  | b :: l, c => by
    have ih := oA l c
    have hg := Lib.indexByte_ge l c
    unfold Lib.indexByte
    by_cases h : b = c
    · simp [h]
    · have h' : ¬ c = b := fun e => h e.symm
      simp only [beq_iff_eq, h, if_false, List.contains_cons, h', Bool.or_eq_true, false_or]
      rw [← ih]
      split <;> omega
theorem fC (c : UInt8) : 0 ≤ na c ↔ signs.contains c = true := oA _ _
theorem dG (c : UInt8) (w : World) : Calls Tryz.prog 121 #[.string ⟨#[40, 41, 91, 93, 58, 44, 61, 43, 45, 42, 60, 63]⟩, .int .u8 (c.toNat : Int)] w fun e w' => e = .returned (.int .i64 (na c)) ∧ w = w' := by
  refine (pJ _ _ w).mono ?_
  rintro e w' ⟨rfl, rfl⟩
  refine ⟨gg ?_, rfl⟩
  have : ((c.toNat : Int)).toNat.toUInt8 = c := by simp
  rw [this]; rfl
set_option maxHeartbeats 4000000 in
theorem ua (l : List UInt8) (w : World) (h0 : 0 < l.length) (hl : l.length ≤ 281474976710656) : Calls Tryz.prog 74 #[.string ⟨l.toArray⟩] w fun e w' => e = .returned (.tuple #[.int .i64 ((tokenT l).1 : Nat), .int .i64 ((tokenT l).2.1 : Nat), .int .i64 ((tokenT l).2.2 : Nat)]) ∧ w = w' := by
  obtain ⟨c0, hc0⟩ : ∃ c, ({ data := l.toArray } : ByteArray)[0]'h0 = c := ⟨_, rfl⟩
  have HC0 := Lib.hid (show l[0] = c0 from hc0)
  have HT := Lib.hid (qu h0 HC0.out)
  go_enter Tryz.func74, Tryz.ntmps74
  cases ha : bK c0
  · skip
    have HW := Lib.hid (show tokenT l = (0, 0, 1) from by rw [HT.out, if_pos ha])
    go_wp2_with (first | (go_at_call 73; refine (aZ _ _).mono ?_; rintro e w' ⟨rfl, rfl⟩) | (go_at_call 116; refine (aB _ _).mono ?_; rintro e w' ⟨rfl, rfl⟩) | (go_at_call 118; refine (bh _ _).mono ?_; rintro e w' ⟨rfl, rfl⟩) | (go_at_call 117; refine (eX _ _ h0 hl).mono ?_; rintro e w' ⟨rfl, rfl⟩) | (go_at_call 119; refine (cY _ _ hl).mono ?_; rintro e w' ⟨rfl, rfl⟩) | (go_at_call 120; refine (cW _ _ h0 hl).mono ?_; rintro e w' ⟨rfl, rfl⟩) | (go_at_call 121; refine (dG _ _).mono ?_; rintro e w' ⟨rfl, rfl⟩))
    go_ret3
    exact ⟨by rw [HW.out]; rfl, rfl⟩
  have HA := Lib.hid (show ¬ bK c0 = false from by simp [ha])
  cases hle : bx c0
  rotate_left
  · skip
    have HW := Lib.hid (show tokenT l = aS l from by rw [HT.out, if_neg HA.out, if_pos hle])
    go_wp2_with (first | (go_at_call 73; refine (aZ _ _).mono ?_; rintro e w' ⟨rfl, rfl⟩) | (go_at_call 116; refine (aB _ _).mono ?_; rintro e w' ⟨rfl, rfl⟩) | (go_at_call 118; refine (bh _ _).mono ?_; rintro e w' ⟨rfl, rfl⟩) | (go_at_call 117; refine (eX _ _ h0 hl).mono ?_; rintro e w' ⟨rfl, rfl⟩) | (go_at_call 119; refine (cY _ _ hl).mono ?_; rintro e w' ⟨rfl, rfl⟩) | (go_at_call 120; refine (cW _ _ h0 hl).mono ?_; rintro e w' ⟨rfl, rfl⟩) | (go_at_call 121; refine (dG _ _).mono ?_; rintro e w' ⟨rfl, rfl⟩))
    go_ret3
    exact ⟨by rw [HW.out]; rfl, rfl⟩
  have HL := Lib.hid (show ¬ bx c0 = true from by simp [hle])
  cases hd : aP c0
  rotate_left
  · skip
    have HW := Lib.hid (show tokenT l = (5, cz l) from by rw [HT.out, if_neg HA.out, if_neg HL.out, if_pos hd])
    go_wp2_with (first | (go_at_call 73; refine (aZ _ _).mono ?_; rintro e w' ⟨rfl, rfl⟩) | (go_at_call 116; refine (aB _ _).mono ?_; rintro e w' ⟨rfl, rfl⟩) | (go_at_call 118; refine (bh _ _).mono ?_; rintro e w' ⟨rfl, rfl⟩) | (go_at_call 117; refine (eX _ _ h0 hl).mono ?_; rintro e w' ⟨rfl, rfl⟩) | (go_at_call 119; refine (cY _ _ hl).mono ?_; rintro e w' ⟨rfl, rfl⟩) | (go_at_call 120; refine (cW _ _ h0 hl).mono ?_; rintro e w' ⟨rfl, rfl⟩) | (go_at_call 121; refine (dG _ _).mono ?_; rintro e w' ⟨rfl, rfl⟩))
    go_ret3
    exact ⟨by rw [HW.out]; rfl, rfl⟩
  have HD := Lib.hid (show ¬ aP c0 = true from by simp [hd])
  cases h34 : ((c0.toNat : Int) == 34)
  rotate_left
  · skip
    have HW := Lib.hid (show tokenT l = (6, quotedT l.tail 1) from by rw [HT.out, if_neg HA.out, if_neg HL.out, if_neg HD.out, if_pos (kf (m := 34) h34)])
    go_wp2_with (first | (go_at_call 73; refine (aZ _ _).mono ?_; rintro e w' ⟨rfl, rfl⟩) | (go_at_call 116; refine (aB _ _).mono ?_; rintro e w' ⟨rfl, rfl⟩) | (go_at_call 118; refine (bh _ _).mono ?_; rintro e w' ⟨rfl, rfl⟩) | (go_at_call 117; refine (eX _ _ h0 hl).mono ?_; rintro e w' ⟨rfl, rfl⟩) | (go_at_call 119; refine (cY _ _ hl).mono ?_; rintro e w' ⟨rfl, rfl⟩) | (go_at_call 120; refine (cW _ _ h0 hl).mono ?_; rintro e w' ⟨rfl, rfl⟩) | (go_at_call 121; refine (dG _ _).mono ?_; rintro e w' ⟨rfl, rfl⟩))
    go_ret3
    exact ⟨by rw [HW.out]; rfl, rfl⟩
  have HQ := Lib.hid (hG (m := 34) h34)
  cases h61 : ((c0.toNat : Int) == 61)
  · skip
    have HE := Lib.hid (show ¬ (c0.toNat = 61 ∧ 1 < l.length ∧ (l.getD 1 0).toNat = 61) from fun h => hG (m := 61) h61 h.1)
    by_cases hs : 0 ≤ na c0
    · skip
      have HW := Lib.hid (show tokenT l = (8, 1, 0) from by rw [HT.out, if_neg HA.out, if_neg HL.out, if_neg HD.out, if_neg HQ.out, if_neg HE.out, if_pos ((fC c0).1 hs)])
      go_wp2_with (first | (go_at_call 73; refine (aZ _ _).mono ?_; rintro e w' ⟨rfl, rfl⟩) | (go_at_call 116; refine (aB _ _).mono ?_; rintro e w' ⟨rfl, rfl⟩) | (go_at_call 118; refine (bh _ _).mono ?_; rintro e w' ⟨rfl, rfl⟩) | (go_at_call 117; refine (eX _ _ h0 hl).mono ?_; rintro e w' ⟨rfl, rfl⟩) | (go_at_call 119; refine (cY _ _ hl).mono ?_; rintro e w' ⟨rfl, rfl⟩) | (go_at_call 120; refine (cW _ _ h0 hl).mono ?_; rintro e w' ⟨rfl, rfl⟩) | (go_at_call 121; refine (dG _ _).mono ?_; rintro e w' ⟨rfl, rfl⟩))
      go_ret3
      exact ⟨by rw [HW.out]; rfl, rfl⟩
    · skip
      have HW := Lib.hid (show tokenT l = (0, 0, 2) from by rw [HT.out, if_neg HA.out, if_neg HL.out, if_neg HD.out, if_neg HQ.out, if_neg HE.out, if_neg (fun h => hs ((fC c0).2 h))])
      go_wp2_with (first | (go_at_call 73; refine (aZ _ _).mono ?_; rintro e w' ⟨rfl, rfl⟩) | (go_at_call 116; refine (aB _ _).mono ?_; rintro e w' ⟨rfl, rfl⟩) | (go_at_call 118; refine (bh _ _).mono ?_; rintro e w' ⟨rfl, rfl⟩) | (go_at_call 117; refine (eX _ _ h0 hl).mono ?_; rintro e w' ⟨rfl, rfl⟩) | (go_at_call 119; refine (cY _ _ hl).mono ?_; rintro e w' ⟨rfl, rfl⟩) | (go_at_call 120; refine (cW _ _ h0 hl).mono ?_; rintro e w' ⟨rfl, rfl⟩) | (go_at_call 121; refine (dG _ _).mono ?_; rintro e w' ⟨rfl, rfl⟩))
      go_ret3
      exact ⟨by rw [HW.out]; rfl, rfl⟩
  by_cases h1 : 1 < l.length
  rotate_left
  · skip
    have HE := Lib.hid (show ¬ (c0.toNat = 61 ∧ 1 < l.length ∧ (l.getD 1 0).toNat = 61) from fun h => h1 h.2.1)
    by_cases hs : 0 ≤ na c0
    · skip
      have HW := Lib.hid (show tokenT l = (8, 1, 0) from by rw [HT.out, if_neg HA.out, if_neg HL.out, if_neg HD.out, if_neg HQ.out, if_neg HE.out, if_pos ((fC c0).1 hs)])
      go_wp2_with (first | (go_at_call 73; refine (aZ _ _).mono ?_; rintro e w' ⟨rfl, rfl⟩) | (go_at_call 116; refine (aB _ _).mono ?_; rintro e w' ⟨rfl, rfl⟩) | (go_at_call 118; refine (bh _ _).mono ?_; rintro e w' ⟨rfl, rfl⟩) | (go_at_call 117; refine (eX _ _ h0 hl).mono ?_; rintro e w' ⟨rfl, rfl⟩) | (go_at_call 119; refine (cY _ _ hl).mono ?_; rintro e w' ⟨rfl, rfl⟩) | (go_at_call 120; refine (cW _ _ h0 hl).mono ?_; rintro e w' ⟨rfl, rfl⟩) | (go_at_call 121; refine (dG _ _).mono ?_; rintro e w' ⟨rfl, rfl⟩))
      go_ret3
      exact ⟨by rw [HW.out]; rfl, rfl⟩
    · skip
      have HW := Lib.hid (show tokenT l = (0, 0, 2) from by rw [HT.out, if_neg HA.out, if_neg HL.out, if_neg HD.out, if_neg HQ.out, if_neg HE.out, if_neg (fun h => hs ((fC c0).2 h))])
      go_wp2_with (first | (go_at_call 73; refine (aZ _ _).mono ?_; rintro e w' ⟨rfl, rfl⟩) | (go_at_call 116; refine (aB _ _).mono ?_; rintro e w' ⟨rfl, rfl⟩) | (go_at_call 118; refine (bh _ _).mono ?_; rintro e w' ⟨rfl, rfl⟩) | (go_at_call 117; refine (eX _ _ h0 hl).mono ?_; rintro e w' ⟨rfl, rfl⟩) | (go_at_call 119; refine (cY _ _ hl).mono ?_; rintro e w' ⟨rfl, rfl⟩) | (go_at_call 120; refine (cW _ _ h0 hl).mono ?_; rintro e w' ⟨rfl, rfl⟩) | (go_at_call 121; refine (dG _ _).mono ?_; rintro e w' ⟨rfl, rfl⟩))
      go_ret3
      exact ⟨by rw [HW.out]; rfl, rfl⟩
  obtain ⟨c1, hc1⟩ : ∃ c, ({ data := l.toArray } : ByteArray)[1]'h1 = c := ⟨_, rfl⟩
  have HC1 := Lib.hid (show l[1] = c1 from hc1)
  cases h62 : ((c1.toNat : Int) == 61)
  · skip
    have HE := Lib.hid (show ¬ (c0.toNat = 61 ∧ 1 < l.length ∧ (l.getD 1 0).toNat = 61) from fun h => hG (m := 61) h62 (by rw [← ay h1 HC1.out]; exact h.2.2))
    by_cases hs : 0 ≤ na c0
    · skip
      have HW := Lib.hid (show tokenT l = (8, 1, 0) from by rw [HT.out, if_neg HA.out, if_neg HL.out, if_neg HD.out, if_neg HQ.out, if_neg HE.out, if_pos ((fC c0).1 hs)])
      go_wp2_with (first | (go_at_call 73; refine (aZ _ _).mono ?_; rintro e w' ⟨rfl, rfl⟩) | (go_at_call 116; refine (aB _ _).mono ?_; rintro e w' ⟨rfl, rfl⟩) | (go_at_call 118; refine (bh _ _).mono ?_; rintro e w' ⟨rfl, rfl⟩) | (go_at_call 117; refine (eX _ _ h0 hl).mono ?_; rintro e w' ⟨rfl, rfl⟩) | (go_at_call 119; refine (cY _ _ hl).mono ?_; rintro e w' ⟨rfl, rfl⟩) | (go_at_call 120; refine (cW _ _ h0 hl).mono ?_; rintro e w' ⟨rfl, rfl⟩) | (go_at_call 121; refine (dG _ _).mono ?_; rintro e w' ⟨rfl, rfl⟩))
      go_ret3
      exact ⟨by rw [HW.out]; rfl, rfl⟩
    · skip
      have HW := Lib.hid (show tokenT l = (0, 0, 2) from by rw [HT.out, if_neg HA.out, if_neg HL.out, if_neg HD.out, if_neg HQ.out, if_neg HE.out, if_neg (fun h => hs ((fC c0).2 h))])
      go_wp2_with (first | (go_at_call 73; refine (aZ _ _).mono ?_; rintro e w' ⟨rfl, rfl⟩) | (go_at_call 116; refine (aB _ _).mono ?_; rintro e w' ⟨rfl, rfl⟩) | (go_at_call 118; refine (bh _ _).mono ?_; rintro e w' ⟨rfl, rfl⟩) | (go_at_call 117; refine (eX _ _ h0 hl).mono ?_; rintro e w' ⟨rfl, rfl⟩) | (go_at_call 119; refine (cY _ _ hl).mono ?_; rintro e w' ⟨rfl, rfl⟩) | (go_at_call 120; refine (cW _ _ h0 hl).mono ?_; rintro e w' ⟨rfl, rfl⟩) | (go_at_call 121; refine (dG _ _).mono ?_; rintro e w' ⟨rfl, rfl⟩))
      go_ret3
      exact ⟨by rw [HW.out]; rfl, rfl⟩
  · skip
    have HW := Lib.hid (show tokenT l = (8, 2, 0) from by rw [HT.out, if_neg HA.out, if_neg HL.out, if_neg HD.out, if_neg HQ.out, if_pos ⟨kf (m := 61) h61, h1, by rw [ay h1 HC1.out]; exact kf (m := 61) h62⟩])
    go_wp2_with (first | (go_at_call 73; refine (aZ _ _).mono ?_; rintro e w' ⟨rfl, rfl⟩) | (go_at_call 116; refine (aB _ _).mono ?_; rintro e w' ⟨rfl, rfl⟩) | (go_at_call 118; refine (bh _ _).mono ?_; rintro e w' ⟨rfl, rfl⟩) | (go_at_call 117; refine (eX _ _ h0 hl).mono ?_; rintro e w' ⟨rfl, rfl⟩) | (go_at_call 119; refine (cY _ _ hl).mono ?_; rintro e w' ⟨rfl, rfl⟩) | (go_at_call 120; refine (cW _ _ h0 hl).mono ?_; rintro e w' ⟨rfl, rfl⟩) | (go_at_call 121; refine (dG _ _).mono ?_; rintro e w' ⟨rfl, rfl⟩))
    go_ret3
    exact ⟨by rw [HW.out]; rfl, rfl⟩
end Go.Proofs.YthnohcipianijaaGreatDoor
namespace Go.Proofs.YthnohcipianijaaGreatDoor
open Go.RowKit Lx
set_option maxRecDepth 100000
set_option maxHeartbeats 1000000 in
theorem tp (l : List UInt8) (w : World) (hl : l.length ≤ 281474976710656) : Calls Tryz.prog 143 #[.string ⟨l.toArray⟩] w fun e w' => e = .returned (.int .i64 (aY l : Nat)) ∧ w = w' := by
  by_cases h0 : l = []
  · subst h0
    go_enter Tryz.func143, Tryz.ntmps143
    go_wp2
    go_ret
    exact ⟨rfl, rfl⟩
  · have hb1 : (l == []) = false := by simpa using h0
    have hb2 : l.isEmpty = false := by simpa using h0
    have hpos : 0 < l.length := List.length_pos_iff.2 h0
    obtain ⟨k, n, e, hT⟩ : ∃ k n e, tokenT l = (k, n, e) := ⟨_, _, _, rfl⟩
    have HT := Lib.hid hT
    have HC := Lib.hid (show aY l = if e = 0 ∧ n = l.length then k else 0 from by simp only [aY, if_neg h0, hT])
    clear hT h0
    go_enter Tryz.func143, Tryz.ntmps143
    go_wp2_with fail
    refine (ua _ _ hpos hl).mono ?_
    rintro e0 w' ⟨rfl, rfl⟩
    rw [HT.out]
    by_cases he : e = 0
    · subst he
      by_cases hn : n = l.length
      · have hnb : ((n : Int) != (l.length : Int)) = false := by simp; omega
        have HR := Lib.hid (HC.out.trans (if_pos ⟨rfl, hn⟩))
        clear hn
        go_wp2
        go_ret
        exact ⟨gg (by rw [HR.out]), rfl⟩
      · have hnb : ((n : Int) != (l.length : Int)) = true := by simp; omega
        have HR := Lib.hid (HC.out.trans (if_neg (fun h => hn h.2)))
        clear hn
        go_wp2
        go_ret
        exact ⟨gg (by rw [HR.out]; rfl), rfl⟩
    · have heb : ((e : Int) != 0) = true := by simp; omega
      have HR := Lib.hid (HC.out.trans (if_neg (fun h => he h.1)))
      go_wp2
      go_ret
      exact ⟨gg (by rw [HR.out]; rfl), rfl⟩
end Go.Proofs.YthnohcipianijaaGreatDoor
namespace Go.Proofs.YthnohcipianijaaGreatDoor
open Go.RowKit Lx Sx
theorem sum0_calls {fid : FuncId} {us : List V} {v : V} (hp1 : pureL us = true) (hp2 : v.pure = true) (h : ∀ (S : Nat → Prop) w ρ xs, LRel S w ρ us xs → Calls Tryz.prog fid xs.toArray w fun e w' => ∃ x, e = .returned x ∧ VRel S w' ρ v x ∧ Chg [] w w') : aF Tryz.prog fid us v :=
  ⟨hp1, hp2, fun S w ρ xs hr hx => (h S w ρ xs hx).mono fun e w' ⟨x, h1, h2, hc⟩ =>
    ⟨x, S, ρ, v, _, h1, rfl, hr.chg0 hc, ⟨ChgP.of0 hc, fun _ h => h, fun _ h => .inl h, fun id b hb => .inl ⟨id, hb⟩, fun id x h => by
      simp only [kd] at h
      split at h
      · exact h
      · cases h⟩, h2⟩⟩
theorem te {w w' : World} (h : Ext w w') : Chg [] w w' := Chg.of_ext h []
theorem sE (l : List UInt8) (hl : l.length ≤ 281474976710656) : aF Tryz.prog 143 [.str l] (.int .i64 (aY l : Nat)) :=
  sum0_calls rfl rfl fun S w ρ xs hx => by
    simp only [LRel] at hx
    obtain ⟨x, ys, rfl, h1, rfl⟩ := hx
    simp only [VRel] at h1; subst h1
    exact (tp l w hl).mono fun e w' ⟨h1, h2⟩ => ⟨_, h1, by simp only [VRel], h2 ▸ Chg.refl _ _⟩
end Go.Proofs.YthnohcipianijaaGreatDoor
namespace Go.Proofs.YthnohcipianijaaGreatDoor
open Go.RowKit Lx Sx
def lsum : List (List UInt8) → Nat
  | [] => 0
  | l :: r => l.length + 1 + lsum r
mutual
def tbulk : Tree → Nat
  | .node _ s ls ks => s.length + lsum ls + kbulk ks + 1
def kbulk : List Tree → Nat
  | [] => 0
  | t :: r => tbulk t + kbulk r
end
theorem lZ (t : Tree) : 0 < tbulk t := by cases t; simp only [tbulk]; omega
theorem dE : ∀ (ks : List Tree), ks.length ≤ kbulk ks
  | [] => Nat.le_refl _
  | t :: r => by have := dE r; have := lZ t; simp only [kbulk, List.length_cons]; omega
theorem ce : ∀ {ks : List Tree} {i : Nat} {t : Tree}, ks[i]? = some t → tbulk t ≤ kbulk ks
  | [], i, t, h => by simp at h
  | u :: r, 0, t, h => by simp only [List.getElem?_cons_zero, Option.some.injEq] at h; subst h; simp only [kbulk]; omega
  | u :: r, i + 1, t, h => by have := ce (ks := r) (i := i) (by simpa using h); simp only [kbulk]; omega
theorem gz (t : Tree) : tbulk t = t.text.length + lsum t.leads + kbulk t.kids + 1 := by cases t; simp [tbulk, Tree.text, Tree.leads, Tree.kids]
theorem bC {t u : Tree} {i : Nat} (h : t.kids[i]? = some u) : tbulk u < tbulk t := by
  have := ce h; rw [gz t]; omega
theorem em (t : Tree) : t.kids.length < tbulk t := by
  have := dE t.kids; rw [gz t]; omega
theorem iJ (t : Tree) : t.text.length < tbulk t := by rw [gz t]; omega
theorem ky {C : Tree → Prop} (h : ∀ t : Tree, (∀ (i : Nat) (u : Tree), t.kids[i]? = some u → C u) → C t) : ∀ t, C t := fun t => by
  have : ∀ n t, tbulk t ≤ n → C t := fun n => by
    induction n with
    | zero => intro t ht; have := lZ t; omega
    | succ n ih => intro t ht; exact h t fun i u hu => ih u (by have := bC hu; omega)
  exact this _ t (Nat.le_refl _)
theorem aN {α : Type} (l : List α) (i : Nat) : (∃ x, l[i]? = some x ∧ i < l.length) ∨ (¬ i < l.length) := by
  by_cases h : i < l.length
  · exact .inl ⟨l[i], by simp [h], h⟩
  · exact .inr h
theorem aO {α : Type} {l : List α} {i : Nat} {x : α} (h : l[i]? = some x) : l.drop i = x :: l.drop (i + 1) := by
  obtain ⟨hl, rfl⟩ := List.getElem?_eq_some_iff.1 h
  exact List.drop_eq_getElem_cons hl
end Go.Proofs.YthnohcipianijaaGreatDoor
namespace Go.Proofs.YthnohcipianijaaGreatDoor
open Go.RowKit Lx Sx
set_option maxHeartbeats 1000000
def f0 (n : Int) (least leads list : Nat) (most : Int) : Int := if 0 ≤ most ∧ most < n then -1 else if n < least then -1 else if most < 0 ∧ (list : Int) < n then leads + (n - list - 1) else leads
def nQ (k n : Int) : Int := if k = 1 then (if n < 0 then -1 else 3) else if k = 2 then f0 n 2 6 2 (-1) else if k = 16 then f0 n 0 3 0 (-1) else if k = 18 then f0 n 1 2 0 (-1) else if k = 3 then f0 n 1 3 0 1 else if k = 4 then f0 n 1 2 0 1 else if k = 8 then f0 n 1 2 0 1 else if k = 22 then f0 n 1 2 0 1 else if k = 17 then f0 n 1 0 0 1 else if k = 19 then f0 n 3 3 0 3 else if k = 20 then f0 n 2 4 0 2 else if k = 21 then f0 n 2 1 0 2 else if k = 5 ∨ k = 6 ∨ k = 7 ∨ k = 9 ∨ k = 10 ∨ k = 11 ∨ k = 12 ∨ k = 13 ∨ k = 14 ∨ k = 15 then f0 n 0 1 0 0 else -1
theorem gX (a b c : Int) : bI a b c (if a < b then -1 else c) := jS 0 _ _ _ _ ⟨fun h => by rw [if_pos h], fun h => by rw [if_neg h]⟩
theorem uo (m : Nat) {n : Int} (h0 : 0 ≤ n) (h1 : n ≤ 1000000000) (a b c : Nat) (z : Int) (hb : b ≤ 10) (hc : c ≤ 2) (hz : ¬ (0 ≤ z ∧ z < n)) : dy (m + 1) n a b c z (f0 n a b c z) := by
  refine j8 m _ _ _ _ _ _ ⟨fun h => ⟨fun h' => ⟨by omega, by omega, by omega, _, gX _ _ _, ?_⟩, fun h' => ⟨_, gX _ _ _, ?_⟩⟩, fun h => ⟨_, gX _ _ _, ?_⟩⟩
  · simp only [f0, if_neg hz, h, h', true_and, if_true]
  · simp only [f0, if_neg hz, h, h', true_and, if_false]
  · simp only [f0, if_neg hz, h, false_and, if_false]
theorem uK (m : Nat) {n : Int} (h0 : 0 ≤ n) (h1 : n ≤ 1000000000) (a b c : Nat) (z : Int) (hb : b ≤ 10) (hc : c ≤ 2) : am (m + 2) n a b c z (f0 n a b c z) := by
  refine j2 (m + 1) _ _ _ _ _ _ ⟨fun h => ⟨fun h' => ?_, fun h' => uo m h0 h1 _ _ _ _ hb hc (by omega)⟩, fun h => uo m h0 h1 _ _ _ _ hb hc (by omega)⟩
  simp [f0, h, h']
theorem sJ {k n : Int} (h0 : 0 ≤ n) (h1 : n ≤ 1000000000) : fo k n (nQ k n) := by
  have l0 : ∀ {r : Int} (a b c : Nat) (z : Int), b ≤ 10 → c ≤ 2 → r = f0 n a b c z → am 3 n a b c z r := fun a b c z hb hc e => by rw [e]; exact uK 1 h0 h1 a b c z hb hc
  have l0' : ∀ {r : Int} (a b c : Nat) (z : Int), b ≤ 10 → c ≤ 2 → r = f0 n a b c z → am 4 n a b c z r := fun a b c z hb hc e => by rw [e]; exact uK 2 h0 h1 a b c z hb hc
  refine ll 4 _ _ _ ?_
  repeat' first | (refine ⟨_, gX _ _ _, ?_⟩) | (refine And.intro (fun _ => ?_) (fun _ => ?_)) | (refine kr 3 _ _ _ _ ?_)
  all_goals first | (refine l0' _ _ _ _ (by decide) (by decide) ?_) | (refine l0 _ _ _ _ (by decide) (by decide) ?_) | skip
  all_goals simp_all [nQ]
def mw (x : List UInt8) : Bool := x == [43] || x == [45] || x == [42] || x == [60] || x == [61, 61]
def ff (k : Int) (x : List UInt8) : Bool := if k = 1 ∨ k = 3 then (aY x : Int) == 2 else if k = 2 ∨ k = 4 ∨ k = 12 ∨ k = 20 then (aY x : Int) == 1 else if k = 9 then (aY x : Int) == 2 || (aY x : Int) == 4 else if k = 16 then (aY x : Int) == 1 || (aY x : Int) == 3 else if k = 10 then (aY x : Int) == 5 else if k = 11 then (aY x : Int) == 6 else if k = 21 then mw x else x == []
theorem o3 (x : List UInt8) : dX x (mw x) := by
  refine jn 0 _ _ ?_
  repeat' (refine And.intro (fun _ => ?_) (fun _ => ?_))
  all_goals simp_all [mw]
theorem qX (k : Int) (x : List UInt8) (hx : x.length ≤ 281474976710656) : eJ k x (ff k x) := by
  refine j6 2 _ _ _ ?_
  refine ⟨_, sE x hx, ?_⟩
  repeat' first | (refine ⟨_, o3 _, ?_⟩) | (refine And.intro (fun _ => ?_) (fun _ => ?_)) | (refine jU 1 _ _ _ _ _ ?_) | (refine jT 0 _ _ _ _ _ ?_)
  all_goals simp_all [ff]
def lq (k : Int) : Bool := decide (5 ≤ k ∧ k ≤ 9)
def dQ (k : Int) : Bool := decide (10 ≤ k ∧ k ≤ 22 ∧ k ≠ 17)
def mv (k : Int) : Bool := dQ k && decide (k ≠ 19 ∧ k ≠ 20 ∧ k ≠ 21)
theorem qW (k : Int) : dz k (lq k) := ka 0 _ _ ⟨fun h => by simp [lq, h], fun h => by simp [lq, h]⟩
theorem od (a b : Int) : (a != b) = decide (a ≠ b) := by by_cases h : a = b <;> simp [h]
theorem nN (k : Int) : bo k (dQ k) := g9 0 _ _ ⟨fun h => ⟨fun h' => by simp [dQ, h, h', od], fun h' => by simp [dQ, h, h']⟩, fun h => by simp [dQ, h]⟩
theorem rv (k : Int) : eV k (mv k) := by
  refine kE 0 _ _ ⟨_, nN k, ?_⟩
  repeat' (refine And.intro (fun _ => ?_) (fun _ => ?_))
  all_goals simp_all [mv, od]
def f8 (k n : Int) (i : Int) (kk : Int) : Bool := if k = 1 then kk == 2 || kk == 3 else if k = 2 then (if i = n - 1 then dQ kk else if i = n - 2 then lq kk else kk == 4) else if k = 3 ∨ k = 4 ∨ k = 8 then lq kk else if k = 16 then kk == 17 else if k = 21 then mv kk || (decide (i = 0) && kk == 21) else dQ kk
theorem sv {t u : Tree} {i : Nat} (hu : t.kids[i]? = some u) : fH t i (f8 t.kind t.kids.length i u.kind) := by
  refine lp 1 _ _ _ ⟨i, rfl, u, hu, ?_⟩
  repeat' first | (refine ⟨_, nN _, ?_⟩) | (refine ⟨_, qW _, ?_⟩) | (refine ⟨_, rv _, ?_⟩) | (refine And.intro (fun _ => ?_) (fun _ => ?_)) | (refine ku 0 _ _ _ _ _ ?_)
  all_goals simp_all [f8]
mutual
def shapeK : Tree → Bool
  | .node k s _ ks => decide (0 ≤ nQ k ks.length) && ff k s && shapeKs k ks.length 0 ks
def shapeKs (k n : Int) : Nat → List Tree → Bool
  | _, [] => true
  | i, t :: r => f8 k n i t.kind && shapeK t && shapeKs k n (i + 1) r
end
theorem bB (t : Tree) : shapeK t = (decide (0 ≤ nQ t.kind t.kids.length) && ff t.kind t.text && shapeKs t.kind t.kids.length 0 t.kids) := by cases t; simp only [shapeK]; rfl
theorem nR : ∀ t : Tree, tbulk t ≤ 1000000000 → cC t (shapeK t) := ky fun t ih hb => by
  have hk := em t
  have ht := iJ t
  have loop : ∀ m i, t.kids.length - i ≤ m → (0 ≤ nQ t.kind t.kids.length ∧ ff t.kind t.text = true) → df (m + 1) t i (shapeKs t.kind t.kids.length i (t.kids.drop i)) := fun m => by
    induction m with
    | zero =>
      intro i hi hw
      refine f6 0 _ _ _ ⟨fun h => by omega, fun h => ?_⟩
      rw [List.drop_of_length_le (by omega), shapeKs]
    | succ m ihm =>
      intro i hi hw
      refine f6 (m + 1) _ _ _ ⟨fun h => ?_, fun h => ?_⟩
      · obtain ⟨u, hu, _⟩ | h' := aN t.kids i
        · rw [aO hu, shapeKs]
          have hbu := bC hu
          refine ⟨u, hu, _, sv hu, fun h1 => by simp [h1], fun h1 => ⟨_, ih i u hu (by omega), fun h2 => by simp [h1, h2], fun h2 => ⟨by omega, ?_⟩⟩⟩
          simp only [h1, h2, Bool.true_and]
          exact ihm (i + 1) (by omega) hw
        · exact absurd h h'
      · rw [List.drop_of_length_le (by omega), shapeKs]
  rw [bB]
  refine kz (t.kids.length + 1) _ _ ⟨_, sJ (by omega) (by omega), fun h => ?_, fun h => ⟨_, qX _ _ (by omega), fun h1 => by simp [h1], fun h1 => ?_⟩⟩
  · rw [decide_eq_false (by omega)]; rfl
  · rw [decide_eq_true (by omega), h1]
    exact loop _ 0 (by omega) ⟨by omega, h1⟩
end Go.Proofs.YthnohcipianijaaGreatDoor
namespace Go.Proofs.YthnohcipianijaaGreatDoor
open Go.RowKit
set_option maxRecDepth 100000
set_option maxHeartbeats 1000000 in
theorem oE (s : ByteArray) (c : Int) (w : World) : Calls Tryz.prog 163 #[.string s, .int .u8 c] w fun e w' => e = .returned (.int .i64 (Lib.indexByte s.data.toList c.toNat.toUInt8)) ∧ w = w' := by
  go_enter Tryz.func163, Tryz.ntmps163
  go_wp2
  rw [run_callFunc_extern Tryz.func185 (by kernel_rfl) (by kernel_rfl) (by kernel_rfl) (e := Extern.BytealgIndexByte.indexByte) (by kernel_rfl), Lib.run_indexByteString]
  simp only [Result.andThen]
  rw [Oper.upon_value]
  go_wp2
  go_ret
  exact ⟨rfl, rfl⟩
theorem o5 (s : ByteArray) (c : Int) (w : World) : Calls Tryz.prog 121 #[.string s, .int .u8 c] w fun e w' => e = .returned (.int .i64 (Lib.indexByte s.data.toList c.toNat.toUInt8)) ∧ w = w' := by
  go_enter Tryz.func121, Tryz.ntmps121
  go_wp2_with (go_at_call 163; refine (oE _ _ _).mono ?_; rintro e w' ⟨rfl, rfl⟩)
  go_ret
  exact ⟨rfl, rfl⟩
end Go.Proofs.YthnohcipianijaaGreatDoor
namespace Go.Proofs.YthnohcipianijaaGreatDoor
open Go.RowKit Lx Sx
set_option maxHeartbeats 1000000
def cX (s : List UInt8) : List Tree → Nat → Int
  | [], _ => -1
  | t :: r, i => if t.text = s then (i : Int) else cX s r (i + 1)
theorem gm (s : List UInt8) : ∀ (l : List Tree) (i : Nat), cX s l i = -1 ∨ ∃ k t, cX s l i = ((i + k : Nat) : Int) ∧ l[k]? = some t ∧ t.text = s ∧ ∀ j u, j < k → l[j]? = some u → u.text ≠ s
  | [], i => .inl rfl
  | t :: r, i => by
    simp only [cX]
    split
    · rename_i h
      exact .inr ⟨0, t, rfl, rfl, h, fun j u hj _ => by omega⟩
    · rename_i h
      rcases gm s r (i + 1) with h1 | ⟨k, u, h1, h2, h3, h4⟩
      · exact .inl h1
      · refine .inr ⟨k + 1, u, by rw [h1]; congr 1; omega, by simpa using h2, h3, fun j x hj hx => ?_⟩
        cases j with
        | zero => simp at hx; subst hx; exact h
        | succ j => exact h4 j x (by omega) (by simpa using hx)
theorem rH (t : Tree) (s : List UInt8) : fI t s (t.text == s) := kO 0 _ _ _ rfl
theorem nU (l : List Tree) (s : List UInt8) (hl : l.length ≤ 1000000000) : dJ l s (cX s l 0) := by
  have loop : ∀ m i, l.length - i ≤ m → cr (m + 1) l s i (cX s (l.drop i) i) := fun m => by
    induction m with
    | zero =>
      intro i hi
      refine eI 0 _ _ _ _ ⟨fun h => by omega, fun h => ?_⟩
      rw [List.drop_of_length_le (by omega), cX]
    | succ m ihm =>
      intro i hi
      refine eI (m + 1) _ _ _ _ ⟨fun h => ?_, fun h => ?_⟩
      · obtain ⟨u, hu, _⟩ | h' := aN l i
        · rw [aO hu, cX]
          refine ⟨u, hu, _, rH u s, fun h1 => ?_, fun h1 => ⟨by omega, ?_⟩⟩
          · rw [if_pos (by simpa using h1)]
          · rw [if_neg (by simpa using h1)]; exact ihm (i + 1) (by omega)
        · exact absurd h h'
      · rw [List.drop_of_length_le (by omega), cX]
  exact jf _ _ _ _ (loop l.length 0 (by omega))
theorem oJ (l : List Tree) (s : List UInt8) (hl : l.length ≤ 1000000000) : eL l s (cX s l 0) := mn 0 _ _ _ ⟨_, nU l s hl, rfl⟩
def cO : List UInt8 → Nat → Int
  | [], _ => -1
  | c :: r, i => if c = 46 then (i : Int) else cO r (i + 1)
theorem ld : ∀ (l : List UInt8) (i : Nat), cO l i = -1 ∨ ∃ k, cO l i = ((i + k : Nat) : Int) ∧ k < l.length
  | [], i => .inl rfl
  | c :: r, i => by
    simp only [cO]
    split
    · exact .inr ⟨0, rfl, by simp⟩
    · rcases ld r (i + 1) with h1 | ⟨k, h1, h2⟩
      · exact .inl h1
      · exact .inr ⟨k + 1, by rw [h1]; congr 1; omega, by simp; omega⟩
theorem sa (c : UInt8) : ∀ (l : List UInt8), -1 ≤ Lib.indexByte l c
  | [] => by simp [Lib.indexByte]
  | b :: r => by
    have := sa c r
    simp only [Lib.indexByte]
    split
    · omega
    · split <;> omega
theorem je : ∀ (l : List UInt8) (i : Nat), cO l i = if Lib.indexByte l 46 = -1 then -1 else Lib.indexByte l 46 + (i : Int)
  | [], i => by simp [cO, Lib.indexByte]
  | c :: r, i => by
    have ih := je r (i + 1)
    have := sa 46 r
    simp only [cO, Lib.indexByte, ih]
    by_cases h : c = 46
    · simp [h]
    · have h' : (c == 46) = false := by simpa using h
      simp only [if_neg h, h']
      by_cases h2 : Lib.indexByte r 46 = -1
      · simp [h2]
      · have h3 : (Lib.indexByte r 46 == -1) = false := by simpa using h2
        simp only [if_neg h2, h3, Bool.false_eq_true, if_false]
        rw [if_neg (by omega)]; omega
theorem nS (l : List UInt8) : cj l 46 (cO l 0) := sum0_calls rfl rfl fun S w ρ xs hx => by
  simp only [LRel] at hx
  obtain ⟨x, ys, rfl, h1, y, zs, rfl, h2, rfl⟩ := hx
  simp only [VRel] at h1 h2; subst h1 h2
  refine (oE _ _ w).mono fun e w' ⟨h1, h2⟩ => ⟨_, h1, ?_, h2 ▸ Chg.refl _ _⟩
  simp only [VRel]
  have e : cO l 0 = Lib.indexByte l 46 := by
    rw [je]; split
    · rename_i h; rw [h]
    · simp
  rw [e]; rfl
theorem tj (l : List UInt8) : bk l (cO l 0) := by
  refine d0 1 _ _ ⟨fun h => ?_, fun h => dY 0 _ _ ?_⟩
  · subst h; rfl
  · exact ⟨_, nS l, rfl⟩
theorem tF (l : List UInt8) (hl : l.length ≤ 1000000000) : dW l (if 0 ≤ cO l 0 then l.take (cO l 0).toNat else l) (if 0 ≤ cO l 0 then l.drop ((cO l 0).toNat + 1) else []) (decide (0 ≤ cO l 0)) := by
  refine jl 0 _ _ _ _ ⟨_, _, _, ?_, rfl, rfl, rfl⟩
  refine eE 0 _ _ _ _ ⟨_, tj l, fun h => ?_, fun h => ?_⟩
  · rcases ld l 0 with h1 | ⟨k, h1, h2⟩
    · rw [h1] at h; omega
    · rw [h1]
      exact ⟨k, by simp, by omega, by omega, k + 1, by simp, by omega, by simp, by simp, by simp⟩
  · simp [h]
def inK (p : List Tree) (m : Int) (w : List UInt8) : Int × Int × Bool := if m < 0 then (0, 0, false) else match p[m.toNat]? with
  | none => (0, 0, false)
  | some t => if cX w t.kids 0 < 0 then (0, 0, false) else (m, cX w t.kids 0, true)
def au (p : List Tree) (m : Int) (w : List UInt8) : Int × Int × Bool := if 0 ≤ cO w 0 then inK p (cX (w.take (cO w 0).toNat) p 0) (w.drop ((cO w 0).toNat + 1)) else inK p m w
theorem oH {p : List Tree} {m : Int} {w : List UInt8} (hm : m < p.length) (hp : kbulk p ≤ 1000000000) : dR 1 p m w (inK p m w).1 (inK p m w).2.1 (inK p m w).2.2 := by
  refine kR 0 _ _ _ _ _ _ ⟨fun h => by simp [inK, h], fun h => ?_⟩
  obtain ⟨t, ht, _⟩ | h' := aN p m.toNat
  · have := ce ht
    have := em t
    refine ⟨m.toNat, by omega, t, ht, _, oJ _ _ (by omega), fun h1 => ?_, fun h1 => ?_⟩
    · simp [inK, h, ht, h1]
    · simp [inK, h, ht, h1]
  · omega
theorem rb {p : List Tree} {m : Int} {w : List UInt8} (h0 : 0 ≤ m) (hm : m < p.length) (hp : kbulk p ≤ 1000000000) (hw : w.length ≤ 1000000000) : fY p m w (au p m w).1 (au p m w).2.1 (au p m w).2.2 := by
  have hpl := dE p
  refine lK 1 _ _ _ _ _ _ ⟨fun h => by omega, fun h => ⟨fun h => by omega, fun h => ⟨_, _, _, tF w hw, fun h1 => ?_, fun h1 => ?_⟩⟩⟩
  · have h1 : 0 ≤ cO w 0 := by simpa using h1
    simp only [if_pos h1, au]
    refine ⟨_, oJ _ _ (by omega), ?_⟩
    refine oH ?_ hp
    rcases gm (w.take (cO w 0).toNat) p 0 with h2 | ⟨k, t, h2, h3, _⟩
    · rw [h2]; omega
    · have := (List.getElem?_eq_some_iff.1 h3).1
      rw [h2]; omega
  · have h1 : ¬ 0 ≤ cO w 0 := by simpa using h1
    simp only [au, if_neg h1]
    exact oH hm hp
end Go.Proofs.YthnohcipianijaaGreatDoor
namespace Go.Proofs.YthnohcipianijaaGreatDoor
open Go.RowKit Lx Sx
set_option maxHeartbeats 1000000
mutual
def nodK : Tree → List Int → List (List Int × Tree)
  | .node k s ls ks, q => (q, .node k s ls ks) :: nodKs ks q 0
def nodKs : List Tree → List Int → Nat → List (List Int × Tree)
  | [], _, _ => []
  | t :: r, q, i => nodK t (q ++ [(i : Int)]) ++ nodKs r q (i + 1)
end
theorem lP (t : Tree) (q : List Int) : nodK t q = (q, t) :: nodKs t.kids q 0 := by cases t; simp only [nodK]; rfl
mutual
theorem nodK_len : ∀ (t : Tree) (q : List Int), (nodK t q).length ≤ tbulk t
  | .node k s ls ks, q => by have := nodKs_len ks q 0; simp only [nodK, tbulk, List.length_cons]; omega
theorem nodKs_len : ∀ (l : List Tree) (q : List Int) (i : Nat), (nodKs l q i).length ≤ kbulk l
  | [], _, _ => by simp [nodKs, kbulk]
  | t :: r, q, i => by have := nodK_len t (q ++ [(i : Int)]); have := nodKs_len r q (i + 1); simp only [nodKs, kbulk, List.length_append]; omega
end
theorem rJ (l : List Int) (hl : l.length ≤ 1000000000) : eg l l := jR 0 _ _ fun b hb => ⟨fun h => (List.length_eq_zero_iff.1 (hb h)).symm, fun _ => ⟨hl, rfl⟩⟩
end Go.Proofs.YthnohcipianijaaGreatDoor
namespace Go.Proofs.YthnohcipianijaaGreatDoor
open Go.RowKit Lx Sx
set_option maxHeartbeats 1000000
def ej (u : Tree) : Bool := u.kind == 16 || u.kind == 9
def tgK (p : List Tree) (m : Int) (q : List Int) (u : Tree) : GTarget := ⟨⟨m, q⟩, (au p m u.text).1, (au p m u.text).2.1, !(au p m u.text).2.2⟩
def cy (p : List Tree) (m : Int) : List (List Int × Tree) → List GTarget
  | [] => []
  | x :: r => (if ej x.2 then [tgK p m x.1 x.2] else []) ++ cy p m r
theorem j3 (p : List Tree) (m : Int) : ∀ a b, cy p m (a ++ b) = cy p m a ++ cy p m b
  | [], b => rfl
  | x :: r, b => by simp only [List.cons_append, cy, j3 p m r b, List.append_assoc]
theorem kB (p : List Tree) (m : Int) : ∀ a, (cy p m a).length ≤ a.length
  | [] => Nat.le_refl _
  | x :: r => by have := kB p m r; simp only [cy, List.length_append, List.length_cons]; split <;> simp <;> omega
theorem sq {p : List Tree} {M : Int} (h0 : 0 ≤ M) (hM : M < p.length) (hp : kbulk p ≤ 1000000000) : ∀ (t : Tree) (q : List Int) (fd : List GTarget), q.length + tbulk t ≤ 1000000000 → fd.length + tbulk t ≤ 1000000000 → bL p M q fd t p M q (fd ++ cy p M (nodK t q)) := ky fun t ih q fd hq hf => by
  have hk := em t
  have ht := iJ t
  have hb := gz t
  have loop : ∀ k i fd, t.kids.length - i ≤ k → fd.length + kbulk (t.kids.drop i) ≤ 1000000000 → bc (k + 1) t fd p M q i p M q (fd ++ cy p M (nodKs (t.kids.drop i) q i)) := fun k => by
    induction k with
    | zero =>
      intro i fd hi hf
      refine dD 0 _ _ _ _ _ _ _ _ _ _ ⟨fun h => by omega, fun h => ⟨rfl, rfl, rfl, ?_⟩⟩
      rw [List.drop_of_length_le (by omega)]; simp [nodKs, cy]
    | succ k ihk =>
      intro i fd hi hf
      refine dD (k + 1) _ _ _ _ _ _ _ _ _ _ ⟨fun h => ?_, fun h => ⟨rfl, rfl, rfl, ?_⟩⟩
      · obtain ⟨u, hu, _⟩ | h' := aN t.kids i
        · have hd := aO hu
          rw [hd, kbulk] at hf
          have hbu := bC hu
          have hl := nodK_len u (q ++ [(i : Int)])
          have hl2 := kB p M (nodK u (q ++ [(i : Int)]))
          refine ⟨u, hu, by simp; omega, _, _, _, _, ih i u hu (q ++ [(i : Int)]) fd (by simp; omega) (by omega), q.length, by simp, by simp, by omega, ?_⟩
          have := ihk (i + 1) (fd ++ cy p M (nodK u (q ++ [(i : Int)]))) (by omega) (by simp; omega)
          rw [hd, nodKs, j3, ← List.append_assoc]
          simpa using this
        · exact absurd h h'
      · rw [List.drop_of_length_le (by omega)]; simp [nodKs, cy]
  have key : ∀ b, b = ej t → bE (t.kids.length + 3) p M q fd t b p M q (fd ++ cy p M (nodK t q)) := fun b hbb => by
    rw [lP, cy]
    refine gh (t.kids.length + 2) _ _ _ _ _ _ _ _ _ _ ⟨fun h => ?_, fun h => ?_⟩
    · rw [if_pos (by rw [← hbb]; exact h)]
      refine ⟨_, _, _, rb h0 hM hp (by omega), _, rJ q (by omega), gA (t.kids.length + 1) _ _ _ _ _ _ _ _ _ _ _ _ _ ⟨by simp; omega, ?_⟩⟩
      have := loop t.kids.length 0 (fd ++ [tgK p M q t]) (by omega) (by simp; omega)
      rw [← List.append_assoc]
      exact this
    · rw [if_neg (by rw [← hbb, h]; simp)]
      have := loop (t.kids.length + 1) 0 fd (by omega) (by simp; omega)
      simpa using this
  refine gK (t.kids.length + 3) _ _ _ _ _ _ _ _ _ ⟨fun h => key _ (by simp [ej, h]), fun h => key _ (by simp [ej, h])⟩
def bY : List Tree → Bool
  | [] => true
  | t :: r => t.kind == 1 && shapeK t && bY r
theorem pW (p : List Tree) (hp : kbulk p ≤ 1000000000) : ft p (bY p) := by
  have hl := dE p
  have loop : ∀ m i, p.length - i ≤ m → dw (m + 1) p i (bY (p.drop i)) := fun m => by
    induction m with
    | zero =>
      intro i hi
      refine gD 0 _ _ _ ⟨fun h => by omega, fun h => ?_⟩
      rw [List.drop_of_length_le (by omega), bY]
    | succ m ihm =>
      intro i hi
      refine gD (m + 1) _ _ _ ⟨fun h => ?_, fun h => ?_⟩
      · obtain ⟨u, hu, _⟩ | h' := aN p i
        · rw [aO hu, bY]
          have := ce hu
          refine ⟨u, hu, fun h1 => by simp [h1], fun h1 => ⟨_, nR u (by omega), fun h2 => by simp [h1, h2], fun h2 => ⟨by omega, ?_⟩⟩⟩
          simp only [h1, h2, beq_self_eq_true, Bool.true_and]
          exact ihm (i + 1) (by omega)
        · exact absurd h h'
      · rw [List.drop_of_length_le (by omega), bY]
  exact k9 _ _ _ (loop p.length 0 (by omega))
def f9 (p : List Tree) : Nat → List Tree → List GTarget
  | _, [] => []
  | i, t :: r => cy p i (nodK t []) ++ f9 p (i + 1) r
def fw (p : List Tree) : List GTarget := if bY p then f9 p 0 p else []
theorem qi (p : List Tree) (hp : kbulk p ≤ 100000000) : fJ p (fw p) := by
  have hl := dE p
  have loop : ∀ m i z fd, p.length - i ≤ m → fd.length + kbulk (p.drop i) ≤ 1000000000 → dv (m + 1) p p z [] fd i (fd ++ f9 p i (p.drop i)) := fun m => by
    induction m with
    | zero =>
      intro i z fd hi hf
      refine go 0 _ _ _ _ _ _ _ ⟨fun h => by omega, fun h => ?_⟩
      rw [List.drop_of_length_le (by omega)]; simp [f9]
    | succ m ihm =>
      intro i z fd hi hf
      refine go (m + 1) _ _ _ _ _ _ _ ⟨fun h => ?_, fun h => ?_⟩
      · obtain ⟨u, hu, _⟩ | h' := aN p i
        · have := ce hu
          have hd := aO hu
          rw [hd, kbulk] at hf
          have := kB p i (nodK u [])
          have := nodK_len u []
          refine ⟨u, hu, _, _, _, _, sq (p := p) (M := (i : Int)) (by omega) (by omega) (by omega) u [] fd (by simp; omega) (by omega), by omega, ?_⟩
          rw [hd, f9, ← List.append_assoc]
          exact ihm (i + 1) _ _ (by omega) (by simp; omega)
        · exact absurd h h'
      · rw [List.drop_of_length_le (by omega)]; simp [f9]
  refine kL (p.length + 1) _ _ ⟨_, pW p (by omega), fun h => by simp [fw, h], fun h => ?_⟩
  have := loop p.length 0 0 [] (by omega) (by simp; omega)
  simpa [fw, h] using this
end Go.Proofs.YthnohcipianijaaGreatDoor
namespace Go.Proofs.YthnohcipianijaaGreatDoor
open Go.RowKit Lx Sx
set_option maxRecDepth 100000
mutual
def wD : GDatum → Nat
  | .mk _ _ s l => 1 + s.length + wDs l
def wDs : List GDatum → Nat
  | [] => 0
  | d :: r => wD d + wDs r
end
mutual
def mD : GDatum → Nat
  | .mk _ _ s l => max s.length (mDs l)
def mDs : List GDatum → Nat
  | [] => 0
  | d :: r => max (mD d) (mDs r)
end
mutual
def sameD : GDatum → GDatum → Bool
  | .mk k n s l, .mk k' n' s' l' => k == k' && n == n' && s == s' && l.length == l'.length && sameDs l l'
def sameDs : List GDatum → List GDatum → Bool
  | [], _ => true
  | _ :: _, [] => true
  | a :: r, b :: q => sameD a b && sameDs r q
end
mutual
def formD : GDatum → Bool
  | .mk k n s l => if k = 1 then s == [] && ((l.length : Nat) : Int) == 0 else if k = 2 then n == 0 && ((l.length : Nat) : Int) == 0 else if k = 3 then s == [] && ((l.length : Nat) : Int) == 0 && (n == 0 || n == 1) else if k = 4 then formDs l && s == [] && n == 0 else false
def formDs : List GDatum → Bool
  | [] => true
  | d :: r => formD d && formDs r
end
theorem iP (d : GDatum) : wD d = 1 + d.S.length + wDs d.L := by cases d; simp [wD]
theorem sd (d : GDatum) : mD d = max d.S.length (mDs d.L) := by cases d; simp [mD]
theorem cQ (d : GDatum) : formD d = (if d.Kind = 1 then d.S == [] && ((d.L.length : Nat) : Int) == 0 else if d.Kind = 2 then d.N == 0 && ((d.L.length : Nat) : Int) == 0 else if d.Kind = 3 then d.S == [] && ((d.L.length : Nat) : Int) == 0 && (d.N == 0 || d.N == 1) else if d.Kind = 4 then formDs d.L && d.S == [] && d.N == 0 else false) := by cases d; simp [formD]
theorem kg (a b : GDatum) : sameD a b = (a.Kind == b.Kind && a.N == b.N && a.S == b.S && a.L.length == b.L.length && sameDs a.L b.L) := by cases a; cases b; simp [sameD]
theorem fO {P : GDatum → Prop} (h : ∀ d, (∀ x ∈ d.L, P x) → P d) (d : GDatum) : P d := by
  refine GDatum.rec (motive_1 := P) (motive_2 := fun l => ∀ x ∈ l, P x) ?_ ?_ ?_ d
  · intro k n s l ih; exact h _ ih
  · simp
  · intro a r h1 h2 x hx
    rcases List.mem_cons.1 hx with rfl | hx
    · exact h1
    · exact h2 x hx
theorem jX : ∀ l : List GDatum, (∀ x ∈ l, sameD x x = true) → sameDs l l = true
  | [], _ => by simp [sameDs]
  | a :: r, h => by simp [sameDs, h a (by simp), jX r fun x hx => h x (by simp [hx])]
theorem pk : ∀ d, sameD d d = true := fO fun d ih => by
  rw [kg, jX d.L ih]; simp
theorem qf : ∀ {l : List GDatum} {x : GDatum}, x ∈ l → wD x ≤ wDs l
  | a :: r, x, h => by
    simp only [wDs]
    rcases List.mem_cons.1 h with rfl | h
    · omega
    · have := qf h; omega
theorem pZ : ∀ {l : List GDatum} {x : GDatum}, x ∈ l → mD x ≤ mDs l
  | a :: r, x, h => by
    simp only [mDs]
    rcases List.mem_cons.1 h with rfl | h
    · omega
    · have := pZ h; omega
theorem ql (d : GDatum) : 1 ≤ wD d := by rw [iP]; omega
theorem n8 : ∀ l : List GDatum, l.length ≤ wDs l
  | [] => Nat.le_refl _
  | a :: r => by have := n8 r; have := ql a; simp only [wDs, List.length_cons]; omega
def GD0 : GDatum := ⟨0, 0, [], []⟩
def dI (n : Int) : GDatum := ⟨1, n, [], []⟩
def dB (b : Bool) : GDatum := ⟨3, if b = true then 1 else 0, [], []⟩
abbrev Bnd := List UInt8 × GDatum
def fu : List Bnd → List UInt8 → Option GDatum
  | [], _ => none
  | b :: r, s => if b.1 = s then some b.2 else fu r s
def ar (t : Tree) (i : Nat) : Tree := t.kids.getD i (.node 0 [] [] [])
def cx (t : Tree) : Tree := if t.kind = 17 then ar t 0 else t
def ly : List UInt8 → Int → Int
  | [], n => n
  | c :: r, n => ly r (n * 10 + ((c.toNat : Int) - 48))
def cn (p : List Tree) (m d : Int) : Tree := ar (p.getD m.toNat (.node 0 [] [] [])) d.toNat
def ch (ks : List Tree) (l : List GDatum) : List Bnd := List.zipWith (fun k d => (k.text, d)) ks l
def cg (op : List UInt8) (a b : GDatum) : GDatum × Int :=
  if op = [61, 61] then (if a.Kind = b.Kind then (dB (sameD a b), 0) else (GD0, 20))
  else if op = [43] ∧ a.Kind = 2 ∧ b.Kind = 2 then (if 4096 < a.S.length + b.S.length + 1 then (GD0, 3) else (⟨2, 0, a.S ++ b.S, []⟩, 0))
  else if ¬ (a.Kind = 1 ∧ b.Kind = 1) then (GD0, 20)
  else if op = [43] then (dI (IntKind.i64.wrap (a.N + b.N)), 0)
  else if op = [45] then (dI (IntKind.i64.wrap (a.N - b.N)), 0)
  else if op = [42] then (dI (IntKind.i64.wrap (a.N * b.N)), 0)
  else (dB (decide (a.N < b.N)), 0)
def evL (f : Tree → Nat → GDatum × Int × Nat) : List Tree → Nat → List GDatum × Int × Nat
  | [], r => ([], 0, r)
  | t :: ts, r => match f (cx t) r with
    | (d, e, r') => if e = 0 then (match evL f ts r' with | (l, e', r'') => if e' = 0 then (d :: l, 0, r'') else ([], e', r'')) else ([], e, r')
def evG (p : List Tree) : Nat → Int → Tree → List Bnd → Nat → GDatum × Int × Nat
  | 0, _, _, _, _ => (GD0, 21, 0)
  | _ + 1, _, _, _, 0 => (GD0, 21, 0)
  | g + 1, m, t, env, r + 1 =>
    if t.kind = 10 then (dI (ly t.text 0), 0, r)
    else if t.kind = 11 then (⟨2, 0, (t.text.drop 1).take (t.text.length - 1 - 1), []⟩, 0, r)
    else if t.kind = 13 then (dB true, 0, r)
    else if t.kind = 14 then (dB false, 0, r)
    else if t.kind = 22 then evG p g m (ar t 0) env r
    else if t.kind = 12 then (match fu env t.text with | some d => (d, 0, r) | none => (GD0, 7, r))
    else if t.kind = 20 then (match evG p g m (ar t 0) env r with | (d, e, r') => if e = 0 then evG p g m (ar t 1) ((t.text, d) :: env) r' else (GD0, e, r'))
    else if t.kind = 19 then (match evG p g m (ar t 0) env r with | (d, e, r') => if e = 0 then (if d.Kind = 3 then (if d.N = 1 then evG p g m (ar t 1) env r' else evG p g m (ar t 2) env r') else (GD0, 20, r')) else (GD0, e, r'))
    else if t.kind = 18 then (match evL (fun k r => evG p g m k env r) t.kids r with | (l, e, r') => if e = 0 then (if 4096 < 1 + wDs l then (GD0, 3, r') else (⟨4, 0, [], l⟩, 0, r')) else (GD0, e, r'))
    else if t.kind = 16 then (match evL (fun k r => evG p g m k env r) t.kids r with | (l, e, r') => if e = 0 then (if (au p m t.text).2.2 = true then (if (cn p (au p m t.text).1 (au p m t.text).2.1).kids.length = l.length + 2 then evG p g (au p m t.text).1 (ar (cn p (au p m t.text).1 (au p m t.text).2.1) (l.length + 1)) (ch (cn p (au p m t.text).1 (au p m t.text).2.1).kids l) r' else (GD0, 5, r')) else (GD0, 7, r')) else (GD0, e, r'))
    else if t.kind = 21 then (match evL (fun k r => evG p g m k env r) t.kids r with | (l, e, r') => if e = 0 then ((cg t.text (l.getD 0 GD0) (l.getD 1 GD0)).1, (cg t.text (l.getD 0 GD0) (l.getD 1 GD0)).2, r') else (GD0, e, r'))
    else (GD0, 7, r)
end Go.Proofs.YthnohcipianijaaGreatDoor
namespace Go.Proofs.YthnohcipianijaaGreatDoor
open Go.RowKit Lx Sx
set_option maxRecDepth 100000
theorem cJ {k n : Int} : ∀ {l : List Tree} {i j : Nat} {u : Tree}, shapeKs k n i l = true → l[j]? = some u → f8 k n ((i + j : Nat) : Int) u.kind = true ∧ shapeK u = true
  | [], i, j, u, _, h => by simp at h
  | t :: r, i, 0, u, h, hj => by
    simp only [shapeKs, Bool.and_eq_true] at h
    simp only [List.getElem?_cons_zero, Option.some.injEq] at hj
    subst hj
    exact ⟨by simpa using h.1.1, h.1.2⟩
  | t :: r, i, j + 1, u, h, hj => by
    simp only [shapeKs, Bool.and_eq_true] at h
    have := cJ (i := i + 1) (j := j) h.2 (by simpa using hj)
    exact ⟨by rw [show i + (j + 1) = i + 1 + j by omega]; exact this.1, this.2⟩
theorem jm : ∀ {p : List Tree} {i : Nat} {t : Tree}, bY p = true → p[i]? = some t → t.kind = 1 ∧ shapeK t = true
  | [], i, t, _, h => by simp at h
  | v :: r, 0, t, h, hi => by
    simp only [bY, Bool.and_eq_true, beq_iff_eq] at h
    simp only [List.getElem?_cons_zero, Option.some.injEq] at hi
    subst hi; exact h.1
  | v :: r, i + 1, t, h, hi => by
    simp only [bY, Bool.and_eq_true] at h
    exact jm h.2 (by simpa using hi)
end Go.Proofs.YthnohcipianijaaGreatDoor
namespace Go.Proofs.YthnohcipianijaaGreatDoor
open Go.RowKit Lx Sx
set_option maxRecDepth 100000
theorem rf {t u : Tree} {d : Nat} (ht : t.kind = 1) (hs : shapeK t = true) (hu : t.kids[d]? = some u) : (u.kind = 2 ∧ aY u.text = 1) ∨ (u.kind = 3 ∧ aY u.text = 2) := by
  rw [bB] at hs
  simp only [Bool.and_eq_true] at hs
  obtain ⟨h1, h2⟩ := cJ hs.2 hu
  rw [ht] at h1
  simp [f8] at h1
  rw [bB] at h2
  simp only [Bool.and_eq_true] at h2
  have h3 := h2.1.2
  rcases h1 with e | e
  · rw [e] at h3
    simp [ff] at h3
    exact .inl ⟨e, by omega⟩
  · rw [e] at h3
    simp [ff] at h3
    exact .inr ⟨e, by omega⟩
end Go.Proofs.YthnohcipianijaaGreatDoor
namespace Go.Proofs.YthnohcipianijaaGreatDoor
open Go.RowKit Lx Sx
set_option maxRecDepth 100000
theorem c7 {t : Tree} {i : Nat} (h : i < t.kids.length) : t.kids[i]? = some (ar t i) := by
  simp only [ar, List.getD_eq_getElem?_getD]
  rw [List.getElem?_eq_getElem h]; rfl
theorem c8 {l : List Tree} {i : Nat} {u z : Tree} (h : l[i]? = some u) : l.getD i z = u := by rw [List.getD_eq_getElem?_getD, h]; rfl
def exT (t : Tree) : Prop := shapeK t = true ∧ dQ t.kind = true
theorem iz {n : Int} {a b c : Nat} {z : Int} (h : 0 ≤ f0 n a b c z) : (a : Int) ≤ n ∧ (0 ≤ z → n ≤ z) := by
  unfold f0 at h
  split at h
  · omega
  · split at h
    · omega
    · exact ⟨by omega, fun hz => by omega⟩
theorem sP {t : Tree} (h : exT t) : (t.kind = 22 → t.kids.length = 1) ∧ (t.kind = 20 → t.kids.length = 2) ∧ (t.kind = 19 → t.kids.length = 3) ∧ (t.kind = 21 → t.kids.length = 2) := by
  obtain ⟨hs, hk⟩ := h
  rw [bB] at hs
  simp only [Bool.and_eq_true, decide_eq_true_eq] at hs
  have hl := hs.1.1
  refine ⟨fun e => ?_, fun e => ?_, fun e => ?_, fun e => ?_⟩
  · rw [e] at hl; have := iz (show 0 ≤ f0 t.kids.length 1 2 0 1 from hl); omega
  · rw [e] at hl; have := iz (show 0 ≤ f0 t.kids.length 2 4 0 2 from hl); omega
  · rw [e] at hl; have := iz (show 0 ≤ f0 t.kids.length 3 3 0 3 from hl); omega
  · rw [e] at hl; have := iz (show 0 ≤ f0 t.kids.length 2 1 0 2 from hl); omega
theorem oK {t u : Tree} {i : Nat} (h : exT t) (hu : t.kids[i]? = some u) (h16 : t.kind ≠ 16) : exT u ∧ u.kind ≠ 17 := by
  obtain ⟨hs, hk⟩ := h
  rw [bB] at hs
  simp only [Bool.and_eq_true, decide_eq_true_eq] at hs
  obtain ⟨g1, g2⟩ := cJ hs.2 hu
  have hk' : 10 ≤ t.kind ∧ t.kind ≤ 22 ∧ t.kind ≠ 17 := by simpa [dQ] using hk
  have e : dQ u.kind = true := by
    simp only [f8] at g1
    rw [if_neg (by omega), if_neg (by omega), if_neg (by omega), if_neg h16] at g1
    split at g1
    · simp only [Bool.or_eq_true, Bool.and_eq_true, beq_iff_eq, mv] at g1
      rcases g1 with g | ⟨_, g⟩
      · exact g.1
      · rw [g]; rfl
    · exact g1
  exact ⟨⟨g2, e⟩, by have : 10 ≤ u.kind ∧ u.kind ≤ 22 ∧ u.kind ≠ 17 := by simpa [dQ   ] using e
                     exact this.2.2⟩
theorem n7 {t u : Tree} {i : Nat} (h : exT t) (hu : t.kids[i]? = some u) (h16 : t.kind = 16) : u.kind = 17 ∧ u.kids.length = 1 ∧ exT (ar u 0) := by
  obtain ⟨hs, hk⟩ := h
  rw [bB] at hs
  simp only [Bool.and_eq_true, decide_eq_true_eq] at hs
  obtain ⟨g1, g2⟩ := cJ hs.2 hu
  have e : u.kind = 17 := by
    rw [h16] at g1
    simpa [f8] using g1
  rw [bB] at g2
  simp only [Bool.and_eq_true, decide_eq_true_eq] at g2
  have hl := g2.1.1
  rw [e] at hl
  have := iz (show 0 ≤ f0 u.kids.length 1 0 0 1 from hl)
  have h1 : u.kids.length = 1 := by omega
  obtain ⟨g3, g4⟩ := cJ g2.2 (c7 (t := u) (i := 0) (by omega))
  rw [e] at g3
  exact ⟨e, h1, g4, by simpa [f8] using g3⟩
theorem rU {t u : Tree} {i : Nat} (h : exT t) (hu : t.kids[i]? = some u) : exT (cx u) ∧ (cx u).kind ≠ 17 ∧ tbulk (cx u) ≤ tbulk u ∧ (u.kind = 17 ↔ t.kind = 16) := by
  by_cases h16 : t.kind = 16
  · obtain ⟨h1, h2, h3⟩ := n7 h hu h16
    rw [cx, if_pos h1]
    have h4 : 10 ≤ (ar u 0).kind ∧ (ar u 0).kind ≤ 22 ∧ (ar u 0).kind ≠ 17 := by simpa [dQ] using h3.2
    have := bC (c7 (t := u) (i := 0) (by omega))
    exact ⟨h3, h4.2.2, by omega, fun _ => h16, fun _ => h1⟩
  · obtain ⟨h1, h2⟩ := oK h hu h16
    rw [cx, if_neg h2]
    exact ⟨h1, h2, Nat.le_refl _, fun h => absurd h h2, fun h => absurd h h16⟩
theorem ry {t : Tree} (h : exT t) : (t.kind = 10 → aY t.text = 5) ∧ (t.kind = 11 → aY t.text = 6) ∧ (t.kind = 16 → aY t.text = 1 ∨ aY t.text = 3) ∧ (t.kind = 21 → t.text = [43] ∨ t.text = [45] ∨ t.text = [42] ∨ t.text = [60] ∨ t.text = [61, 61]) := by
  obtain ⟨hs, hk⟩ := h
  rw [bB] at hs
  simp only [Bool.and_eq_true, decide_eq_true_eq] at hs
  have hw := hs.1.2
  refine ⟨fun e => ?_, fun e => ?_, fun e => ?_, fun e => ?_⟩
  · rw [e] at hw; simp [ff] at hw; omega
  · rw [e] at hw; simp [ff] at hw; omega
  · rw [e] at hw; simp [ff] at hw; omega
  · rw [e] at hw; simpa [ff, mw, or_assoc] using hw
theorem vz {w : List UInt8} (h : aY w = 5) : spanN aP w = w.length ∧ w.length ≤ 15 ∧ w ≠ [] := by
  unfold aY at h
  split at h
  · omega
  rename_i hne
  split at h
  · rename_i hc
    unfold tokenT at h hc
    simp only [] at h hc
    by_cases a1 : bK (w.getD 0 0) = false
    · rw [if_pos a1] at h; simp at h
    rw [if_neg a1] at h hc
    by_cases a2 : bx (w.getD 0 0) = true
    · rw [if_pos a2] at h
      unfold aS da bf at h
      repeat' split at h
      all_goals simp at h
    rw [if_neg a2] at h hc
    by_cases a3 : aP (w.getD 0 0) = true
    · rw [if_pos a3] at hc
      simp only [cz] at hc
      repeat' split at hc
      all_goals simp at hc
      all_goals first | exact ⟨hc, by omega, hne⟩ | omega
    rw [if_neg a3] at h
    repeat' split at h
    all_goals simp at h
  · omega
theorem lh : ∀ (l : List UInt8) (i : Nat), (quotedT l i).2 = 0 → i + 1 ≤ (quotedT l i).1
  | [], i, h => by simp [quotedT] at h
  | c :: r, i, h => by
    unfold quotedT at h ⊢
    split
    · rw [if_pos (by assumption)] at h; simp at h
    · rw [if_neg (by assumption)] at h
      split
      · exact Nat.le_refl _
      · rw [if_neg (by assumption)] at h
        split
        · rw [if_pos (by assumption)] at h; simp at h
        · rw [if_neg (by assumption)] at h
          have := lh r (i + 1) h
          omega
theorem vB {w : List UInt8} (h : aY w = 6) : 2 ≤ w.length := by
  unfold aY at h
  split at h
  · omega
  split at h
  · rename_i hc
    unfold tokenT at h hc
    simp only [] at h hc
    by_cases a1 : bK (w.getD 0 0) = false
    · rw [if_pos a1] at h; simp at h
    rw [if_neg a1] at h hc
    by_cases a2 : bx (w.getD 0 0) = true
    · rw [if_pos a2] at h
      unfold aS da bf at h
      repeat' split at h
      all_goals simp at h
    rw [if_neg a2] at h hc
    by_cases a3 : aP (w.getD 0 0) = true
    · rw [if_pos a3] at h
      simp at h
    rw [if_neg a3] at h hc
    by_cases a4 : (w.getD 0 0).toNat = 34
    · rw [if_pos a4] at hc
      have := lh w.tail 1 hc.1
      have h2 : (quotedT w.tail 1).1 = w.length := hc.2
      omega
    rw [if_neg a4] at h
    repeat' split at h
    all_goals simp at h
  · omega
theorem sM {p : List Tree} {m : Int} {w : List UInt8} (h : (au p m w).2.2 = true) : ∃ (i d : Nat) (t a : Tree), (au p m w).1 = (i : Int) ∧ (au p m w).2.1 = (d : Int) ∧ p[i]? = some t ∧ t.kids[d]? = some a := by
  have key : ∀ (m : Int) (w : List UInt8), (inK p m w).2.2 = true → ∃ (i d : Nat) (t a : Tree), (inK p m w).1 = (i : Int) ∧ (inK p m w).2.1 = (d : Int) ∧ p[i]? = some t ∧ t.kids[d]? = some a := fun m w h => by
    unfold inK at h ⊢
    split at h
    · cases h
    · rename_i hm
      rw [if_neg hm]
      cases hp : p[m.toNat]? with
      | none => rw [hp] at h; cases h
      | some t =>
        rw [hp] at h
        simp only at h ⊢
        split at h
        · cases h
        · rename_i hn
          rw [if_neg hn]
          rcases gm w t.kids 0 with g | ⟨k, a, g1, g2, _⟩
          · omega
          · exact ⟨m.toNat, k, t, a, by simp; omega, by simp [g1], hp, g2⟩
  unfold au at h ⊢
  split at h
  · rw [if_pos (by assumption)]; exact key _ _ h
  · rw [if_neg (by assumption)]; exact key _ _ h
theorem sW {p : List Tree} (hp : bY p = true) {i d : Nat} {t a : Tree} (ht : p[i]? = some t) (ha : t.kids[d]? = some a) : a.kind = 2 ∨ a.kids.length = 1 := by
  obtain ⟨t1, t2⟩ := jm hp ht
  rcases rf t1 t2 ha with ⟨k2, _⟩ | ⟨k3, _⟩
  · exact .inl k2
  · right
    rw [bB] at t2
    simp only [Bool.and_eq_true] at t2
    obtain ⟨_, g2⟩ := cJ t2.2 ha
    rw [bB, k3] at g2
    simp only [Bool.and_eq_true, decide_eq_true_eq] at g2
    have := iz (show 0 ≤ f0 a.kids.length 1 3 0 1 from g2.1.1)
    omega
theorem nl {p : List Tree} (hp : bY p = true) {i d n : Nat} {t a : Tree} (ht : p[i]? = some t) (ha : t.kids[d]? = some a) (hn : a.kids.length = n + 2) : a.kind = 2 ∧ exT (ar a (n + 1)) := by
  have h2 : a.kind = 2 := by rcases sW hp ht ha with h | h <;> omega
  obtain ⟨t1, t2⟩ := jm hp ht
  rw [bB] at t2
  simp only [Bool.and_eq_true] at t2
  obtain ⟨_, g2⟩ := cJ t2.2 ha
  rw [bB, h2] at g2
  simp only [Bool.and_eq_true] at g2
  obtain ⟨g3, g4⟩ := cJ g2.2 (c7 (t := a) (i := n + 1) (by omega))
  refine ⟨h2, g4, ?_⟩
  simp only [f8] at g3
  rw [if_neg (by decide), if_pos (by decide), if_pos (by omega)] at g3
  exact g3
end Go.Proofs.YthnohcipianijaaGreatDoor
namespace Go.Proofs.YthnohcipianijaaGreatDoor
open Go.RowKit Go.Shelf Lx Sx
set_option maxRecDepth 100000
def vn : Go.Shelf.Ren := ⟨fun | 174 => 102 | 247 => 150 | 245 => 151 | 287 => 180 | 279 => 181 | 280 => 182 | 281 => 183 | 282 => 184 | 321 => 204 | 322 => 205 | 316 => 206 | 171 => 208 | 205 => 207 | 243 => 217 | 246 => 220 | 283 => 221 | 284 => 222 | 285 => 223 | 286 => 224 | 129 => 226 | 317 => 225 | 318 => 227 | 319 => 228 | 320 => 229 | 337 => 230 | 338 => 231 | n => n, fun | 9 => 9 | 3 => 3 | 2 => 2 | 75 => 161 | 85 => 162 | 4 => 4 | 167 => 221 | 5 => 5 | 53 => 222 | 175 => 223 | 46 => 212 | 168 => 225 | 37 => 231 | 0 => 0 | 210 => 233 | 21 => 21 | 127 => 239 | 145 => 242 | 143 => 240 | 171 => 247 | 173 => 250 | 212 => 253 | 51 => 243 | 20 => 20 | 213 => 254 | 232 => 257 | 233 => 258 | 80 => 259 | n => n, fun | 15 => 3 | 16 => 4 | 17 => 6 | 18 => 7 | 19 => 8 | n => n⟩
theorem uq : Go.Proofs.LaysC.n174 Tryz.prog vn := {
  mixed := by kernel_rfl
  f129 := Tryz.func226.trans (congrArg some (by kernel_rfl))
  f171 := Tryz.func208.trans (congrArg some (by kernel_rfl))
  f174 := Tryz.func102.trans (congrArg some (by kernel_rfl))
  f205 := Tryz.func207.trans (congrArg some (by kernel_rfl))
  f243 := Tryz.func217.trans (congrArg some (by kernel_rfl))
  f245 := Tryz.func151.trans (congrArg some (by kernel_rfl))
  f246 := Tryz.func220.trans (congrArg some (by kernel_rfl))
  f247 := Tryz.func150.trans (congrArg some (by kernel_rfl))
  f279 := Tryz.func181.trans (congrArg some (by kernel_rfl))
  f280 := Tryz.func182.trans (congrArg some (by kernel_rfl))
  f281 := Tryz.func183.trans (congrArg some (by kernel_rfl))
  f282 := Tryz.func184.trans (congrArg some (by kernel_rfl))
  f283 := Tryz.func221.trans (congrArg some (by kernel_rfl))
  f284 := Tryz.func222.trans (congrArg some (by kernel_rfl))
  f285 := Tryz.func223.trans (congrArg some (by kernel_rfl))
  f286 := Tryz.func224.trans (congrArg some (by kernel_rfl))
  f287 := Tryz.func180.trans (congrArg some (by kernel_rfl))
  f316 := Tryz.func206.trans (congrArg some (by kernel_rfl))
  f317 := Tryz.func225.trans (congrArg some (by kernel_rfl))
  f318 := Tryz.func227.trans (congrArg some (by kernel_rfl))
  f319 := Tryz.func228.trans (congrArg some (by kernel_rfl))
  f320 := Tryz.func229.trans (congrArg some (by kernel_rfl))
  f321 := Tryz.func204.trans (congrArg some (by kernel_rfl))
  f322 := Tryz.func205.trans (congrArg some (by kernel_rfl))
  f337 := Tryz.func230.trans (congrArg some (by kernel_rfl))
  f338 := Tryz.func231.trans (congrArg some (by kernel_rfl))
  t0 := Tryz.underlying0
  a0 := Tryz.isAgg0
  z0 := Tryz.sizeOf0
  v0 := Tryz.zeroValue0
  t2 := Tryz.underlying2
  a2 := Tryz.isAgg2
  z2 := Tryz.sizeOf2
  v2 := Tryz.zeroValue2
  t3 := Tryz.underlying3
  a3 := Tryz.isAgg3
  z3 := Tryz.sizeOf3
  v3 := Tryz.zeroValue3
  t4 := Tryz.underlying4
  a4 := Tryz.isAgg4
  z4 := Tryz.sizeOf4
  v4 := Tryz.zeroValue4
  t5 := Tryz.underlying5
  a5 := Tryz.isAgg5
  z5 := Tryz.sizeOf5
  v5 := Tryz.zeroValue5
  t9 := Tryz.underlying9
  a9 := Tryz.isAgg9
  z9 := Tryz.sizeOf9
  v9 := Tryz.zeroValue9
  t20 := Tryz.underlying20
  a20 := Tryz.isAgg20
  z20 := Tryz.sizeOf20
  v20 := Tryz.zeroValue20
  t21 := Tryz.underlying21
  a21 := Tryz.isAgg21
  z21 := Tryz.sizeOf21
  v21 := Tryz.zeroValue21
  t37 := Tryz.underlying231
  a37 := Tryz.isAgg231
  z37 := Tryz.sizeOf231
  v37 := Tryz.zeroValue231
  t46 := Tryz.underlying212
  a46 := Tryz.isAgg212
  z46 := Tryz.sizeOf212
  v46 := Tryz.zeroValue212
  t51 := Tryz.underlying243
  a51 := Tryz.isAgg243
  z51 := Tryz.sizeOf243
  v51 := Tryz.zeroValue243
  t53 := Tryz.underlying222
  a53 := Tryz.isAgg222
  z53 := Tryz.sizeOf222
  v53 := Tryz.zeroValue222
  t75 := Tryz.underlying161
  a75 := Tryz.isAgg161
  z75 := Tryz.sizeOf161
  v75 := Tryz.zeroValue161
  t85 := Tryz.underlying162
  a85 := Tryz.isAgg162
  z85 := Tryz.sizeOf162
  v85 := Tryz.zeroValue162
  t127 := Tryz.underlying239
  a127 := Tryz.isAgg239
  z127 := Tryz.sizeOf239
  v127 := Tryz.zeroValue239
  t143 := Tryz.underlying240
  a143 := Tryz.isAgg240
  z143 := Tryz.sizeOf240
  v143 := Tryz.zeroValue240
  t145 := Tryz.underlying242
  a145 := Tryz.isAgg242
  z145 := Tryz.sizeOf242
  v145 := Tryz.zeroValue242
  t167 := Tryz.underlying221
  a167 := Tryz.isAgg221
  z167 := Tryz.sizeOf221
  v167 := Tryz.zeroValue221
  t168 := Tryz.underlying225
  a168 := Tryz.isAgg225
  z168 := Tryz.sizeOf225
  v168 := Tryz.zeroValue225
  t171 := Tryz.underlying247
  a171 := Tryz.isAgg247
  z171 := Tryz.sizeOf247
  v171 := Tryz.zeroValue247
  t173 := Tryz.underlying250
  a173 := Tryz.isAgg250
  z173 := Tryz.sizeOf250
  v173 := Tryz.zeroValue250
  t175 := Tryz.underlying223
  a175 := Tryz.isAgg223
  z175 := Tryz.sizeOf223
  v175 := Tryz.zeroValue223
  t210 := Tryz.underlying233
  a210 := Tryz.isAgg233
  z210 := Tryz.sizeOf233
  v210 := Tryz.zeroValue233
  t212 := Tryz.underlying253
  a212 := Tryz.isAgg253
  z212 := Tryz.sizeOf253
  v212 := Tryz.zeroValue253
  t213 := Tryz.underlying254
  a213 := Tryz.isAgg254
  z213 := Tryz.sizeOf254
  t232 := Tryz.underlying257
  a232 := Tryz.isAgg257
  z232 := Tryz.sizeOf257
  v232 := Tryz.zeroValue257
  t233 := Tryz.underlying258
  a233 := Tryz.isAgg258
  z233 := Tryz.sizeOf258
  v233 := Tryz.zeroValue258
  g15 := by kernel_rfl
  g16 := by kernel_rfl
  g17 := by kernel_rfl
  g18 := by kernel_rfl
  g19 := by kernel_rfl
  t80 := Tryz.underlying259
  a80 := Tryz.isAgg259
  z80 := Tryz.sizeOf259
  v80 := Tryz.zeroValue259
  i0 := by kernel_rfl
  i2 := by kernel_rfl
  i3 := by kernel_rfl
  i4 := by kernel_rfl
  i5 := by kernel_rfl
  i9 := by kernel_rfl
  i20 := by kernel_rfl
  i21 := by kernel_rfl
  i37 := by kernel_rfl
  i46 := by kernel_rfl
  i51 := by kernel_rfl
  i53 := by kernel_rfl
  i75 := by kernel_rfl
  i80 := by kernel_rfl
  i85 := by kernel_rfl
  i127 := by kernel_rfl
  i143 := by kernel_rfl
  i145 := by kernel_rfl
  i167 := by kernel_rfl
  i168 := by kernel_rfl
  i171 := by kernel_rfl
  i173 := by kernel_rfl
  i175 := by kernel_rfl
  i210 := by kernel_rfl
  i212 := by kernel_rfl
  i232 := by kernel_rfl
  i233 := by kernel_rfl
  m15 := by kernel_rfl
  m16 := by kernel_rfl
  m17 := by kernel_rfl
  m18 := by kernel_rfl
  m19 := by kernel_rfl
  c0 := by kernel_rfl
  c2 := by kernel_rfl
  c3 := by kernel_rfl
  c4 := by kernel_rfl
  c5 := by kernel_rfl
  c9 := by kernel_rfl
  c20 := by kernel_rfl
  c21 := by kernel_rfl
  c37 := by kernel_rfl
  c46 := by kernel_rfl
  c51 := by kernel_rfl
  c53 := by kernel_rfl
  c75 := by kernel_rfl
  c80 := by kernel_rfl
  c85 := by kernel_rfl
  c127 := by kernel_rfl
  c143 := by kernel_rfl
  c145 := by kernel_rfl
  c167 := by kernel_rfl
  c168 := by kernel_rfl
  c171 := by kernel_rfl
  c173 := by kernel_rfl
  c175 := by kernel_rfl
  c210 := by kernel_rfl
  c212 := by kernel_rfl
  c213 := by kernel_rfl
  c232 := by kernel_rfl
  c233 := by kernel_rfl }
theorem nT {l : List UInt8} {v : Int} (h : Lib.parseIntB 64 l = .ok v) (hl : l.length ≤ 1000000000) : dM l 10 64 v () := sum0_calls rfl rfl fun S w ρ xs hx => by
  simp only [LRel] at hx
  obtain ⟨x, ys, rfl, h1, y, zs, rfl, h2, z, us, rfl, h3, rfl⟩ := hx
  simp only [VRel] at h1 h2 h3; subst h1 h2 h3
  refine (Any.strconv_ParseInt_10_at64_ok uq ⟨l.toArray⟩ (by show l.toArray.size ≤ _; simp; omega) v (by simpa using h) w).mono fun e w' ⟨he, hw⟩ => ⟨_, he, ?_, ?_⟩
  · simp only [VRel, LRel]
    exact ⟨_, rfl, _, _, rfl, rfl, _, _, rfl, ⟨rfl, rfl⟩, rfl⟩
  · rcases hw with rfl | ⟨t, rfl⟩
    · exact Chg.refl _ _
    · exact te (Lib.bytesWorld_below _ _ _)
theorem l6 {p : UInt8 → Bool} {c : UInt8} {r : List UInt8} (h : spanN p (c :: r) = (c :: r).length) : p c = true ∧ spanN p r = r.length := by
  simp only [spanN, List.takeWhile_cons, List.length_cons] at h ⊢
  cases hc : p c with
  | false => rw [hc] at h; simp at h
  | true => rw [hc] at h; simp at h; exact ⟨rfl, h⟩
theorem digits : ∀ (l : List UInt8) (a : Nat), spanN aP l = l.length → (a + 1) * 10 ^ l.length ≤ 1000000000000000 → ∃ n : Nat, n < (a + 1) * 10 ^ l.length ∧ ly l a = n ∧ Lib.parseUintM (2 ^ 64 - 1) a l = .ok n
  | [], a, _, hb => ⟨a, by simp, rfl, rfl⟩
  | c :: r, a, h, hb => by
    have hc : aP c = true ∧ spanN aP r = r.length := l6 h
    have hd : 48 ≤ c.toNat ∧ c.toNat ≤ 57 := by simpa [aP] using hc.1
    have hp : 1 ≤ 10 ^ r.length := Nat.one_le_pow _ _ (by omega)
    rw [List.length_cons, Nat.pow_succ] at hb
    have h1 : (a * 10 + (c.toNat - 48) + 1) * 10 ^ r.length ≤ (a + 1) * (10 ^ r.length * 10) := by
      rw [Nat.mul_comm (10 ^ r.length) 10, ← Nat.mul_assoc]
      exact Nat.mul_le_mul_right _ (by omega)
    have h2 : (a + 1) * 1 ≤ (a + 1) * (10 ^ r.length * 10) := Nat.mul_le_mul_left _ (by omega)
    obtain ⟨n, n1, n2, n3⟩ := digits r (a * 10 + (c.toNat - 48)) hc.2 (by omega)
    refine ⟨n, ?_, ?_, ?_⟩
    · rw [List.length_cons, Nat.pow_succ]; omega
    · rw [ly, ← n2]; congr 1; omega
    · rw [Lib.parseUintM, if_pos hd, if_neg (by omega), if_neg (by
        have h3 : (a * 10 + (c.toNat - 48) + 1) * 1 ≤ (a * 10 + (c.toNat - 48) + 1) * 10 ^ r.length := Nat.mul_le_mul_left _ hp
        omega)]
      exact n3
theorem pT {w : List UInt8} (h : aY w = 5) : dM w 10 64 (ly w 0) () := by
  obtain ⟨h1, h2, h3⟩ := vz h
  have hp : 10 ^ w.length ≤ 10 ^ 15 := Nat.pow_le_pow_right (by omega) h2
  obtain ⟨n, n1, n2, n3⟩ := digits w 0 h1 (by omega)
  refine nT ?_ (by omega)
  cases w with
  | nil => exact absurd rfl h3
  | cons c r =>
    have hc : aP c = true := (l6 h1).1
    have hd : 48 ≤ c.toNat ∧ c.toNat ≤ 57 := by simpa [aP] using hc
    have e1 : ¬ (c.toNat = 43 ∨ c.toNat = 45) := by omega
    have e2 : ¬ c.toNat = 45 := by omega
    have hn : n < 10 ^ 15 := by omega
    simp only [Lib.parseIntB, if_neg e1, Lib.parseUintB, if_neg (List.cons_ne_nil c r)]
    have n3' : Lib.parseUintM (2 ^ 64 - 1) 0 (c :: r) = .ok n := n3
    rw [n3']
    simp only [e2, not_false_eq_true, true_and, false_and, if_false]
    rw [if_neg (by omega)]
    exact congrArg _ n2.symm
end Go.Proofs.YthnohcipianijaaGreatDoor
namespace Go.Proofs.YthnohcipianijaaGreatDoor
open Go.RowKit Lx Sx
set_option maxRecDepth 100000
mutual
def nD : GDatum → Nat
  | .mk _ _ _ l => 1 + nDs l
def nDs : List GDatum → Nat
  | [] => 0
  | d :: r => nD d + nDs r
end
theorem kU (d : GDatum) : nD d = 1 + nDs d.L := by cases d; simp [nD]
theorem tL (d : GDatum) : 1 ≤ nD d := by rw [kU]; omega
theorem qx : ∀ {l : List GDatum} {x : GDatum}, x ∈ l → nD x ≤ nDs l
  | a :: r, x, h => by
    simp only [nDs]
    rcases List.mem_cons.1 h with rfl | h
    · omega
    · have := qx h; omega
theorem oc : ∀ l : List GDatum, l.length ≤ nDs l
  | [] => Nat.le_refl _
  | a :: r => by have := oc r; have := tL a; simp only [nDs, List.length_cons]; omega
theorem qq : ∀ l : List GDatum, (∀ x ∈ l, nD x ≤ wD x) → nDs l ≤ wDs l
  | [], _ => by simp [nDs, wDs]
  | a :: r, h => by
    have h1 := h a (by simp)
    have h2 := qq r fun x hx => h x (by simp [hx])
    simp only [nDs, wDs]; omega
theorem pg : ∀ d, nD d ≤ wD d := fO fun d ih => by
  rw [kU, iP]
  have := qq d.L ih
  omega
theorem mX (d : GDatum) : d.L.length < nD d := by have := oc d.L; rw [kU]; omega
theorem mJ {d x : GDatum} {i : Nat} (h : d.L[i]? = some x) : nD x < nD d := by have := qx (List.mem_of_getElem? h); rw [kU d]; omega
theorem sU : ∀ (d : GDatum) (lim : Nat), 1 ≤ lim → lim ≤ 1000000 → eT d lim (min lim (wD d) : Nat) := fO fun d ih lim h1 h2 => by
  have loop : ∀ m i (z : Nat), d.L.length - i ≤ m → i < z → z ≤ lim → d9 (m + 1) d lim z i (min lim (z + wDs (d.L.drop i)) : Nat) := fun m => by
    induction m with
    | zero =>
      intro i z hi hiz hz
      refine it 0 _ _ _ _ _ ⟨fun h => by omega, fun h => ?_⟩
      rw [List.drop_of_length_le (by omega), wDs]; omega
    | succ m ihm =>
      intro i z hi hiz hz
      refine it (m + 1) _ _ _ _ _ ⟨fun h => ?_, fun h => ?_⟩
      · obtain ⟨u, hu, hl⟩ | h' := aN d.L i
        · rw [aO hu, wDs]
          refine ⟨u, hu, fun hle => by omega, fun hlt => ⟨by constructor <;> omega, ((min (lim - z) (wD u) : Nat) : Int), ?_, ?_, by omega, ?_⟩⟩
          · rw [show ((lim : Int) - (z : Int)) = ((lim - z : Nat) : Int) by omega]
            exact ih u (List.mem_of_getElem? hu) (lim - z) (by omega) (by omega)
          · constructor <;> omega
          · have hwu := ql u
            have := ihm (i + 1) (z + min (lim - z) (wD u)) (by omega) (by omega) (by omega)
            rw [show ((z : Int) + ((min (lim - z) (wD u) : Nat) : Int)) = ((z + min (lim - z) (wD u) : Nat) : Int) by omega, show min lim (z + (wD u + wDs (d.L.drop (i + 1)))) = min lim (z + min (lim - z) (wD u) + wDs (d.L.drop (i + 1))) by omega]
            exact this
        · exact absurd h h'
      · rw [List.drop_of_length_le (by omega), wDs]; omega
  refine mq (d.L.length + 1) _ _ _ ⟨by constructor <;> omega, fun h => ?_, fun h => ⟨by omega, ?_⟩⟩
  · rw [iP]; omega
  · have := loop d.L.length 0 (1 + d.S.length) (by omega) (by omega) (by omega)
    rw [List.drop_zero, ← iP] at this
    exact this
theorem kA (d : GDatum) : dk d (min 4097 (wD d) : Nat) := lD 0 _ _ ⟨_, sU d 4097 (by omega) (by omega), rfl⟩
theorem qz {B : Nat} (hB : B ≤ 1000000000000000) : ∀ (d : GDatum) (most : Nat), mD d ≤ B → 1 ≤ most → most ≤ 1000000 → bW d most (min most (wD d) : Nat) := fO fun d ih most hd h1 h2 => by
  rw [sd] at hd
  have loop : ∀ m i (z : Nat), d.L.length - i ≤ m → z ≤ B + 1 + 1000000 → bP (m + 1) d most z i (min most (z + wDs (d.L.drop i)) : Nat) := fun m => by
    induction m with
    | zero =>
      intro i z hi hz
      refine d5 0 _ _ _ _ _ ⟨fun h => by omega, fun h => ?_⟩
      rw [List.drop_of_length_le (by omega), wDs]; omega
    | succ m ihm =>
      intro i z hi hz
      refine d5 (m + 1) _ _ _ _ _ ⟨fun h => ⟨fun hlt => ?_, fun hge => by omega⟩, fun h => ?_⟩
      · obtain ⟨u, hu, hl⟩ | h' := aN d.L i
        · rw [aO hu, wDs]
          have hm := pZ (List.mem_of_getElem? hu)
          refine ⟨u, hu, by constructor <;> omega, ((min (most - z) (wD u) : Nat) : Int), ?_, ?_, ?_⟩
          · rw [show ((most : Int) - (z : Int)) = ((most - z : Nat) : Int) by omega]
            exact ih u (List.mem_of_getElem? hu) (most - z) (by omega) (by omega) (by omega)
          · constructor <;> omega
          · have := ihm (i + 1) (z + min (most - z) (wD u)) (by omega) (by omega)
            rw [show ((z : Int) + ((min (most - z) (wD u) : Nat) : Int)) = ((z + min (most - z) (wD u) : Nat) : Int) by omega, show min most (z + (wD u + wDs (d.L.drop (i + 1)))) = min most (z + min (most - z) (wD u) + wDs (d.L.drop (i + 1))) by omega]
            exact this
        · exact absurd h h'
      · rw [List.drop_of_length_le (by omega), wDs]; omega
  refine io (d.L.length + 1) _ _ _ ⟨by omega, ?_⟩
  have := loop d.L.length 0 (1 + d.S.length) (by omega) (by omega)
  rw [List.drop_zero, ← iP] at this
  exact this
theorem lR (d : GDatum) (hd : mD d ≤ 1000000000000000) : cc d (min 4097 (wD d) : Nat) := ia 0 _ _ ⟨_, qz (Nat.le_refl _) d 4097 hd (by omega) (by omega), rfl⟩
theorem rC : ∀ d : GDatum, nD d ≤ 1000000000 → ea d (formD d) := fO fun d ih hn => by
  have hlen := mX d
  have loop : ∀ m i, d.L.length - i ≤ m → dP (m + 1) d i (formDs (d.L.drop i) && d.S == [] && d.N == 0) := fun m => by
    induction m with
    | zero =>
      intro i hi
      refine gM 0 _ _ _ ⟨fun h => by omega, fun h => ?_⟩
      rw [List.drop_of_length_le (by omega), formDs]
      exact ⟨fun e => by simp [e], fun e => by simp [e]⟩
    | succ m ihm =>
      intro i hi
      refine gM (m + 1) _ _ _ ⟨fun h => ?_, fun h => ?_⟩
      · obtain ⟨u, hu, hl⟩ | h' := aN d.L i
        · rw [aO hu, formDs]
          have := mJ hu
          refine ⟨u, hu, _, ih u (List.mem_of_getElem? hu) (by omega), fun e => by simp [e], fun e => ⟨by omega, ?_⟩⟩
          rw [e, Bool.true_and]
          exact ihm (i + 1) (by omega)
        · exact absurd h h'
      · rw [List.drop_of_length_le (by omega), formDs]
        exact ⟨fun e => by simp [e], fun e => by simp [e]⟩
  refine lC (d.L.length + 1) _ _ ⟨fun h => ?_, fun h => ⟨fun h2 => ?_, fun h2 => ⟨fun h3 => ?_, fun h3 => ⟨fun h4 => ?_, fun h4 => ?_⟩⟩⟩⟩
  · rw [cQ, if_pos h]; exact ⟨fun e => by simp [e], fun e => by simp [e]⟩
  · rw [cQ, if_neg h, if_pos h2]; exact ⟨fun e => by simp [e], fun e => by simp [e]⟩
  · rw [cQ, if_neg h, if_neg h2, if_pos h3]
    exact ⟨fun e => ⟨fun e1 => ⟨fun e2 => by simp [e, e1, e2], fun e2 => by simp [e, e1, e2]⟩, fun e1 => by simp [e]; exact fun q => absurd (by rw [q]; rfl) e1⟩, fun e => by simp [e]⟩
  · rw [cQ, if_neg h, if_neg h2, if_neg h3, if_pos h4]
    exact loop d.L.length 0 (by omega)
  · rw [cQ, if_neg h, if_neg h2, if_neg h3, if_neg h4]
theorem sL : ∀ d : GDatum, cF d (formD d) := fO fun d ih => by
  have loop : ∀ m i, d.L.length - i ≤ m → cq (m + 1) d i (formDs (d.L.drop i) && d.S == [] && d.N == 0) := fun m => by
    induction m with
    | zero =>
      intro i hi
      refine eZ 0 _ _ _ ⟨fun h => by omega, fun h => ?_⟩
      rw [List.drop_of_length_le (by omega), formDs]
      exact ⟨fun e => by simp [e], fun e => by simp [e]⟩
    | succ m ihm =>
      intro i hi
      refine eZ (m + 1) _ _ _ ⟨fun h => ?_, fun h => ?_⟩
      · obtain ⟨u, hu, hl⟩ | h' := aN d.L i
        · rw [aO hu, formDs]
          refine ⟨u, hu, _, ih u (List.mem_of_getElem? hu), fun e => by simp [e], fun e => ?_⟩
          rw [e, Bool.true_and]
          exact ihm (i + 1) (by omega)
        · exact absurd h h'
      · rw [List.drop_of_length_le (by omega), formDs]
        exact ⟨fun e => by simp [e], fun e => by simp [e]⟩
  refine ji (d.L.length + 1) _ _ ⟨fun h => ?_, fun h => ⟨fun h2 => ?_, fun h2 => ⟨fun h3 => ?_, fun h3 => ⟨fun h4 => ?_, fun h4 => ?_⟩⟩⟩⟩
  · rw [cQ, if_pos h]; exact ⟨fun e => by simp [e], fun e => by simp [e]⟩
  · rw [cQ, if_neg h, if_pos h2]; exact ⟨fun e => by simp [e], fun e => by simp [e]⟩
  · rw [cQ, if_neg h, if_neg h2, if_pos h3]
    exact ⟨fun e => ⟨fun e1 => by simp [e, e1], fun e1 => by simp [e1]⟩, fun e => ⟨fun e1 => ⟨fun e2 => by simp [e1, e2], fun e2 => by simp [e2]⟩, fun e1 => by simp [e, e1]⟩⟩
  · rw [cQ, if_neg h, if_neg h2, if_neg h3, if_pos h4]
    exact loop d.L.length 0 (by omega)
  · rw [cQ, if_neg h, if_neg h2, if_neg h3, if_neg h4]
def co (d : GDatum) : Bool := decide (wD d ≤ 4096) && formD d
theorem lB (d : GDatum) : dH d (co d) := ml 0 _ _ ⟨_, kA d, fun h => ⟨_, rC d (by have := pg d; omega), by unfold co; rw [decide_eq_true (by omega), Bool.true_and]⟩, fun h => by unfold co; rw [decide_eq_false (by omega), Bool.false_and]⟩
theorem rM (d : GDatum) (hd : mD d ≤ 1000000000000000) : dr d (co d) := iF 0 _ _ ⟨_, lR d hd, fun h => ⟨_, sL d, by unfold co; rw [decide_eq_true (by omega), Bool.true_and]⟩, fun h => by unfold co; rw [decide_eq_false (by omega), Bool.false_and]⟩
theorem lg : ∀ a : GDatum, nD a ≤ 1000000000 → ∀ b, cP a b (sameD a b) := fO fun a ih hn b => by
  have hlen := mX a
  rw [kg]
  refine nM (a.L.length + 1) _ _ _ ⟨fun h => by simp [h], fun h => ⟨fun h2 => by simp [h2], fun h2 => ⟨fun h3 => by simp [h3], fun h3 => ⟨fun h4 => by simp [h4], fun h4 => ?_⟩⟩⟩⟩
  rw [show (a.Kind == b.Kind && a.N == b.N && a.S == b.S && a.L.length == b.L.length) = true by simp [h, h2, h3, h4], Bool.true_and]
  have loop : ∀ m i, a.L.length - i ≤ m → fb (m + 1) a b i (sameDs (a.L.drop i) (b.L.drop i)) := fun m => by
    induction m with
    | zero =>
      intro i hi
      refine jc 0 _ _ _ _ ⟨fun h => by omega, fun h => ?_⟩
      rw [List.drop_of_length_le (by omega), sameDs]
    | succ m ihm =>
      intro i hi
      refine jc (m + 1) _ _ _ _ ⟨fun h => ?_, fun h => ?_⟩
      · obtain ⟨u, hu, hl⟩ | h' := aN a.L i
        · obtain ⟨v, hv, _⟩ | h'' := aN b.L i
          · rw [aO hu, aO hv, sameDs]
            have := mJ hu
            refine ⟨u, hu, v, hv, _, ih u (List.mem_of_getElem? hu) (by omega) v, fun e => by simp [e], fun e => ⟨by omega, ?_⟩⟩
            rw [e, Bool.true_and]
            exact ihm (i + 1) (by omega)
          · omega
        · exact absurd h h'
      · rw [List.drop_of_length_le (by omega), sameDs]
  exact loop a.L.length 0 (by omega)
theorem ss : ∀ a : GDatum, nD a ≤ 1000000000 → ∀ b, cG a b (sameD a b) := fO fun a ih hn b => by
  have hlen := mX a
  rw [kg]
  refine jg (a.L.length + 1) _ _ _ ⟨fun h => by simp [h], fun h => ⟨fun h2 => by simp [h2], fun h2 => ⟨fun h3 => by simp [h3], fun h3 => ⟨fun h4 => by simp [h4], fun h4 => ?_⟩⟩⟩⟩
  rw [show (a.Kind == b.Kind && a.N == b.N && a.S == b.S && a.L.length == b.L.length) = true by simp [h, h2, h3, h4], Bool.true_and]
  have loop : ∀ m i, a.L.length - i ≤ m → ct (m + 1) a b i (sameDs (a.L.drop i) (b.L.drop i)) := fun m => by
    induction m with
    | zero =>
      intro i hi
      refine eK 0 _ _ _ _ ⟨fun h => by omega, fun h => ?_⟩
      rw [List.drop_of_length_le (by omega), sameDs]
    | succ m ihm =>
      intro i hi
      refine eK (m + 1) _ _ _ _ ⟨fun h => ?_, fun h => ?_⟩
      · obtain ⟨u, hu, hl⟩ | h' := aN a.L i
        · obtain ⟨v, hv, _⟩ | h'' := aN b.L i
          · rw [aO hu, aO hv, sameDs]
            have := mJ hu
            refine ⟨u, hu, v, hv, _, ih u (List.mem_of_getElem? hu) (by omega) v, fun e => by simp [e], fun e => ?_⟩
            rw [e, Bool.true_and]
            exact ihm (i + 1) (by omega)
          · omega
        · exact absurd h h'
      · rw [List.drop_of_length_le (by omega), sameDs]
  exact loop a.L.length 0 (by omega)
theorem ut (d : GDatum) : GDatum.mk d.Kind d.N d.S d.L = d := by cases d; rfl
theorem rp : ∀ d : GDatum, wD d ≤ 1000000000 → d7 d d := fO fun d ih hd => by
  rw [iP] at hd
  have hlen := n8 d.L
  have loop : ∀ m i l, d.L.length - i ≤ m → i ≤ d.L.length → l = d.L.take i → dS (m + 1) d l i d := fun m => by
    induction m with
    | zero =>
      intro i l hi hle hl
      refine g8 0 _ _ _ _ ⟨fun h => by omega, fun h => ?_⟩
      rw [hl, List.take_of_length_le (by omega)]; exact ut d
    | succ m ihm =>
      intro i l hi hle hl
      refine g8 (m + 1) _ _ _ _ ⟨fun h => ?_, fun h => ?_⟩
      · obtain ⟨u, hu, hlt⟩ | h' := aN d.L i
        · have := qf (List.mem_of_getElem? hu)
          have hl2 : l ++ [u] = d.L.take (i + 1) := by rw [hl, List.take_succ, hu]; rfl
          refine ⟨u, hu, u, ih u (List.mem_of_getElem? hu) (by omega), ?_, by omega, ihm (i + 1) _ (by omega) (by omega) hl2⟩
          rw [hl2, List.length_take]; omega
        · exact absurd h h'
      · rw [hl, List.take_of_length_le (by omega)]; exact ut d
  exact lz _ _ _ (loop d.L.length 0 [] (by omega) (by omega) (by simp))
theorem rL : ∀ (d : GDatum) (lim : Nat), 1 ≤ lim → lim ≤ 1000000 → cv d lim (min lim (nD d) : Nat) := fO fun d ih lim h1 h2 => by
  have loop : ∀ m i (z : Nat), d.L.length - i ≤ m → 1 ≤ z → z ≤ lim → cb (m + 1) d lim z i (min lim (z + nDs (d.L.drop i)) : Nat) := fun m => by
    induction m with
    | zero =>
      intro i z hi h0 hz
      refine eB 0 _ _ _ _ _ ⟨fun h => by omega, fun h => ?_⟩
      rw [List.drop_of_length_le (by omega), nDs]; omega
    | succ m ihm =>
      intro i z hi h0 hz
      refine eB (m + 1) _ _ _ _ _ ⟨fun h => ⟨fun hlt => ?_, fun hge => by omega⟩, fun h => ?_⟩
      · obtain ⟨u, hu, hl⟩ | h' := aN d.L i
        · rw [aO hu, nDs]
          refine ⟨u, hu, by constructor <;> omega, ((min (lim - z) (nD u) : Nat) : Int), ?_, ?_, ?_⟩
          · rw [show ((lim : Int) - (z : Int)) = ((lim - z : Nat) : Int) by omega]
            exact ih u (List.mem_of_getElem? hu) (lim - z) (by omega) (by omega)
          · constructor <;> omega
          · have := ihm (i + 1) (z + min (lim - z) (nD u)) (by omega) (by omega) (by omega)
            rw [show ((z : Int) + ((min (lim - z) (nD u) : Nat) : Int)) = ((z + min (lim - z) (nD u) : Nat) : Int) by omega, show min lim (z + (nD u + nDs (d.L.drop (i + 1)))) = min lim (z + min (lim - z) (nD u) + nDs (d.L.drop (i + 1))) by omega]
            exact this
        · exact absurd h h'
      · rw [List.drop_of_length_le (by omega), nDs]; omega
  refine iM (d.L.length + 1) _ _ _ ?_
  have := loop d.L.length 0 1 (by omega) (by omega) (by omega)
  rw [List.drop_zero, ← kU] at this
  exact this
theorem lL (d : GDatum) : bH d (decide (nD d < 3000)) := iO 0 _ _ ⟨_, rL d 3000 (by omega) (by omega), by
  by_cases h : nD d < 3000
  · rw [decide_eq_true h, decide_eq_true (by omega)]
  · rw [decide_eq_false h, decide_eq_false (by omega)]⟩
theorem kn (n : Int) : bu n (dI n) := ig 0 _ _ rfl
end Go.Proofs.YthnohcipianijaaGreatDoor
namespace Go.Proofs.YthnohcipianijaaGreatDoor
open Go.RowKit Lx Sx
set_option maxRecDepth 100000
section
variable {p : List Tree} {g : Nat} {m : Int} {t : Tree} {env : List Bnd} {r : Nat}
theorem rQ : evG p (g + 1) m t env 0 = (GD0, 21, 0) := by rw [evG]
theorem o7 (h : t.kind = 10) : evG p (g + 1) m t env (r + 1) = (dI (ly t.text 0), 0, r) := by simp [evG, h]
theorem pK (h : t.kind = 11) : evG p (g + 1) m t env (r + 1) = (⟨2, 0, (t.text.drop 1).take (t.text.length - 1 - 1), []⟩, 0, r) := by simp [evG, h]
theorem pq (h : t.kind = 13) : evG p (g + 1) m t env (r + 1) = (dB true, 0, r) := by simp [evG, h]
theorem pP (h : t.kind = 14) : evG p (g + 1) m t env (r + 1) = (dB false, 0, r) := by simp [evG, h]
theorem px (h : t.kind = 22) : evG p (g + 1) m t env (r + 1) = evG p g m (ar t 0) env r := by simp [evG, h]
theorem pi (h : t.kind = 12) : evG p (g + 1) m t env (r + 1) = (match fu env t.text with | some d => (d, 0, r) | none => (GD0, 7, r)) := by simp only [evG, h]; rfl
theorem pM (h : t.kind = 20) : evG p (g + 1) m t env (r + 1) = (match evG p g m (ar t 0) env r with | (d, e, r') => if e = 0 then evG p g m (ar t 1) ((t.text, d) :: env) r' else (GD0, e, r')) := by simp only [evG, h]; rfl
theorem o1 (h : t.kind = 19) : evG p (g + 1) m t env (r + 1) = (match evG p g m (ar t 0) env r with | (d, e, r') => if e = 0 then (if d.Kind = 3 then (if d.N = 1 then evG p g m (ar t 1) env r' else evG p g m (ar t 2) env r') else (GD0, 20, r')) else (GD0, e, r')) := by simp only [evG, h]; rfl
theorem pj (h : t.kind = 18) : evG p (g + 1) m t env (r + 1) = (match evL (fun k r => evG p g m k env r) t.kids r with | (l, e, r') => if e = 0 then (if 4096 < 1 + wDs l then (GD0, 3, r') else (⟨4, 0, [], l⟩, 0, r')) else (GD0, e, r')) := by simp only [evG, h]; rfl
theorem oX (h : t.kind = 16) : evG p (g + 1) m t env (r + 1) = (match evL (fun k r => evG p g m k env r) t.kids r with | (l, e, r') => if e = 0 then (if (au p m t.text).2.2 = true then (if (cn p (au p m t.text).1 (au p m t.text).2.1).kids.length = l.length + 2 then evG p g (au p m t.text).1 (ar (cn p (au p m t.text).1 (au p m t.text).2.1) (l.length + 1)) (ch (cn p (au p m t.text).1 (au p m t.text).2.1).kids l) r' else (GD0, 5, r')) else (GD0, 7, r')) else (GD0, e, r')) := by simp only [evG, h]; rfl
theorem pD (h : t.kind = 21) : evG p (g + 1) m t env (r + 1) = (match evL (fun k r => evG p g m k env r) t.kids r with | (l, e, r') => if e = 0 then ((cg t.text (l.getD 0 GD0) (l.getD 1 GD0)).1, (cg t.text (l.getD 0 GD0) (l.getD 1 GD0)).2, r') else (GD0, e, r')) := by simp only [evG, h]; rfl
theorem sk (h : ¬ (10 ≤ t.kind ∧ t.kind ≤ 22 ∧ t.kind ≠ 17 ∧ t.kind ≠ 15)) : evG p (g + 1) m t env (r + 1) = (GD0, 7, r) := by
  rw [evG]
  repeat rw [if_neg (by omega)]
theorem o9 (h : t.kind = 15) : evG p (g + 1) m t env (r + 1) = (GD0, 7, r) := by simp [evG, h]
end
theorem kinds (k : Int) : k = 10 ∨ k = 11 ∨ k = 12 ∨ k = 13 ∨ k = 14 ∨ k = 15 ∨ k = 16 ∨ k = 18 ∨ k = 19 ∨ k = 20 ∨ k = 21 ∨ k = 22 ∨ ¬ (10 ≤ k ∧ k ≤ 22 ∧ k ≠ 17 ∧ k ≠ 15) := by omega
theorem tq (t : Tree) : 1 ≤ tbulk t := by rw [gz]; omega
theorem c6 (t : Tree) (i : Nat) : tbulk (ar t i) ≤ tbulk t := by
  rcases Nat.lt_or_ge i t.kids.length with h | h
  · exact Nat.le_of_lt (by have := bC (c7 h); omega)
  · have e : ar t i = .node 0 [] [] [] := by simp only [ar, List.getD_eq_getElem?_getD]; rw [List.getElem?_eq_none h]; rfl
    rw [e]; exact tq t
theorem l3 {p : List Tree} {B : Nat} (hb : kbulk p ≤ B) (hB : 1 ≤ B) (m d : Int) : tbulk (cn p m d) ≤ B := by
  refine Nat.le_trans (c6 _ _) ?_
  rcases aN p m.toNat with ⟨t, ht, _⟩ | h
  · rw [c8 ht]; exact Nat.le_trans (ce ht) hb
  · rw [List.getD_eq_getElem?_getD, List.getElem?_eq_none (Nat.le_of_not_lt h)]; exact hB
theorem jz (t : Tree) : tbulk (cx t) ≤ tbulk t := by
  unfold cx
  split
  · exact c6 t 0
  · exact Nat.le_refl _
def EOk (env : List Bnd) : Prop := ∀ b, b ∈ env → wD b.2 ≤ 2000000
theorem oo : ∀ {env : List Bnd} {s : List UInt8} {d : GDatum}, EOk env → fu env s = some d → wD d ≤ 2000000
  | [], s, d, _, h => by simp [fu] at h
  | b :: r, s, d, he, h => by
    unfold fu at h
    split at h
    · simp only [Option.some.injEq] at h; subst h; exact he b (by simp)
    · exact oo (fun x hx => he x (by simp [hx])) h
theorem jP {l : List GDatum} (hl : ∀ d, d ∈ l → wD d ≤ 2000000) : ∀ ks : List Tree, EOk (ch ks l) := by
  induction l with
  | nil => intro ks b hb; simp [ch] at hb
  | cons d r ih =>
    intro ks b hb
    cases ks with
    | nil => simp [ch] at hb
    | cons k ks =>
      simp only [ch, List.zipWith_cons_cons, List.mem_cons] at hb
      rcases hb with rfl | hb
      · exact hl d (by simp)
      · exact ih (fun x hx => hl x (by simp [hx])) ks b hb
theorem jO {f : Tree → Nat → GDatum × Int × Nat} {B : Nat} : ∀ (ts : List Tree) (r : Nat), (∀ t, t ∈ ts → ∀ r, wD (f (cx t) r).1 ≤ B ∧ (f (cx t) r).2.2 ≤ r) → (∀ d, d ∈ (evL f ts r).1 → wD d ≤ B) ∧ (evL f ts r).2.2 ≤ r ∧ ((evL f ts r).2.1 = 0 → (evL f ts r).1.length = ts.length) ∧ (¬ (evL f ts r).2.1 = 0 → (evL f ts r).1 = [])
  | [], r, _ => by simp [evL]
  | t :: ts, r, h => by
    have h1 := h t (by simp) r
    simp only [evL]
    revert h1
    generalize f (cx t) r = x
    obtain ⟨d, e, r'⟩ := x
    intro h1
    have h2 := jO ts r' fun t ht => h t (by simp [ht])
    simp only at h1 ⊢
    by_cases he : e = 0
    · rw [if_pos he]
      revert h2
      generalize evL f ts r' = y
      obtain ⟨l, e', r''⟩ := y
      intro h2
      simp only at h2 ⊢
      by_cases he' : e' = 0
      · rw [if_pos he']
        refine ⟨fun x hx => ?_, by simp only; omega, fun _ => by simp [h2.2.2.1 he'], fun hh => absurd rfl hh⟩
        rcases List.mem_cons.1 hx with rfl | hx
        · exact h1.1
        · exact h2.1 x hx
      · rw [if_neg he']
        exact ⟨by simp, by simp only; omega, fun hh => absurd hh he', fun _ => rfl⟩
    · rw [if_neg he]
      exact ⟨by simp, h1.2, fun hh => absurd hh he, fun _ => rfl⟩
theorem bz : wD GD0 ≤ 2000000 := by decide
theorem pV (n : Int) : wD (dI n) ≤ 2000000 := by simp [dI, wD, wDs]
theorem lu (b : Bool) : wD (dB b) ≤ 2000000 := by simp [dB, wD, wDs]
theorem tk (op : List UInt8) (a b : GDatum) : wD (cg op a b).1 ≤ 2000000 := by
  unfold cg
  repeat' split
  all_goals first | exact bz | exact pV _ | exact lu _ | (simp only [wD, wDs, List.length_append]; omega)
theorem gv {p : List Tree} (hb : kbulk p ≤ 1000000) : ∀ (g r : Nat) (m : Int) (t : Tree) (env : List Bnd), tbulk t ≤ 1000000 → EOk env → wD (evG p g m t env r).1 ≤ 2000000 ∧ (evG p g m t env r).2.2 ≤ r := fun g => by
  induction g with
  | zero => intro r m t env _ _; rw [evG]; exact ⟨bz, Nat.zero_le _⟩
  | succ g ih =>
    intro r m t env ht he
    cases r with
    | zero => rw [rQ]; exact ⟨bz, Nat.le_refl _⟩
    | succ r =>
      have hk : ∀ i, tbulk (ar t i) ≤ 1000000 := fun i => Nat.le_trans (c6 t i) ht
      have hL := jO (f := fun k r => evG p g m k env r) (B := 2000000) t.kids r fun k hk' r => ih r m (cx k) env (by
        obtain ⟨i, hi⟩ := List.getElem?_of_mem hk'
        have := bC hi
        have := jz k
        omega) he
      rcases kinds t.kind with h | h | h | h | h | h | h | h | h | h | h | h | h
      · rw [o7 h]; exact ⟨pV _, by simp only; omega⟩
      · rw [pK h]
        have := iJ t
        exact ⟨by simp only [wD, wDs, List.length_take, List.length_drop]; omega, by simp only; omega⟩
      · rw [pi h]
        cases hl : fu env t.text with
        | none => exact ⟨bz, by simp only; omega⟩
        | some d => exact ⟨oo he hl, by simp only; omega⟩
      · rw [pq h]; exact ⟨lu _, by simp only; omega⟩
      · rw [pP h]; exact ⟨lu _, by simp only; omega⟩
      · rw [o9 h]; exact ⟨bz, by simp only; omega⟩
      · rw [oX h]
        revert hL
        generalize evL (fun k r => evG p g m k env r) t.kids r = x
        obtain ⟨l, e, r'⟩ := x
        intro hL
        simp only at hL ⊢
        split
        · split
          · split
            · have h1 := ih r' (au p m t.text).1 (ar (cn p (au p m t.text).1 (au p m t.text).2.1) (l.length + 1)) (ch (cn p (au p m t.text).1 (au p m t.text).2.1).kids l) (Nat.le_trans (c6 _ _) (l3 hb (by omega) _ _)) (jP hL.1 _)
              exact ⟨h1.1, by omega⟩
            · exact ⟨bz, by simp only; omega⟩
          · exact ⟨bz, by simp only; omega⟩
        · exact ⟨bz, by simp only; omega⟩
      · rw [pj h]
        revert hL
        generalize evL (fun k r => evG p g m k env r) t.kids r = x
        obtain ⟨l, e, r'⟩ := x
        intro hL
        simp only at hL ⊢
        split
        · split
          · exact ⟨bz, by simp only; omega⟩
          · exact ⟨by simp only [wD, List.length_nil]; omega, by simp only; omega⟩
        · exact ⟨bz, by simp only; omega⟩
      · rw [o1 h]
        have h1 := ih r m (ar t 0) env (hk 0) he
        revert h1
        generalize evG p g m (ar t 0) env r = x
        obtain ⟨d, e, r'⟩ := x
        intro h1
        simp only at h1 ⊢
        split
        · split
          · split
            · have h2 := ih r' m (ar t 1) env (hk 1) he
              exact ⟨h2.1, by omega⟩
            · have h2 := ih r' m (ar t 2) env (hk 2) he
              exact ⟨h2.1, by omega⟩
          · exact ⟨bz, by simp only; omega⟩
        · exact ⟨bz, by simp only; omega⟩
      · rw [pM h]
        have h1 := ih r m (ar t 0) env (hk 0) he
        revert h1
        generalize evG p g m (ar t 0) env r = x
        obtain ⟨d, e, r'⟩ := x
        intro h1
        simp only at h1 ⊢
        split
        · have h2 := ih r' m (ar t 1) ((t.text, d) :: env) (hk 1) (fun b hb => by
            rcases List.mem_cons.1 hb with rfl | hb
            · exact h1.1
            · exact he b hb)
          exact ⟨h2.1, by omega⟩
        · exact ⟨bz, by simp only; omega⟩
      · rw [pD h]
        revert hL
        generalize evL (fun k r => evG p g m k env r) t.kids r = x
        obtain ⟨l, e, r'⟩ := x
        intro hL
        simp only at hL ⊢
        split
        · exact ⟨tk _ _ _, by simp only; omega⟩
        · exact ⟨bz, by simp only; omega⟩
      · rw [px h]
        have h1 := ih r m (ar t 0) env (hk 0) he
        exact ⟨h1.1, by omega⟩
      · rw [sk h]; exact ⟨bz, by simp only; omega⟩
end Go.Proofs.YthnohcipianijaaGreatDoor
namespace Go.Proofs.YthnohcipianijaaGreatDoor
open Go.RowKit Lx Sx
set_option maxRecDepth 100000
set_option maxHeartbeats 1000000
mutual
def prepN (p : List Tree) (m : Int) : Tree → GEvalNode
  | .node k s _ ks => ⟨k, if (k == 16 || k == 9) = true then (au p m s).1 else 0, if (k == 16 || k == 9) = true then (au p m s).2.1 else 0, if (k == 16 || k == 9) = true then !(au p m s).2.2 else false, s, prepNs p m ks⟩
def prepNs (p : List Tree) (m : Int) : List Tree → List GEvalNode
  | [] => []
  | t :: r => prepN p m t :: prepNs p m r
end
theorem kI (p : List Tree) (m : Int) : ∀ l, prepNs p m l = l.map (prepN p m)
  | [] => by simp [prepNs]
  | t :: r => by simp [prepNs, kI p m r]
section
variable {p : List Tree} {m : Int}
theorem fE (t : Tree) : prepN p m t = ⟨t.kind, if ej t = true then (au p m t.text).1 else 0, if ej t = true then (au p m t.text).2.1 else 0, if ej t = true then !(au p m t.text).2.2 else false, t.text, t.kids.map (prepN p m)⟩ := by
  cases t; simp only [prepN, kI]; rfl
theorem aW (t : Tree) : (prepN p m t).kind = t.kind := by rw [fE]
theorem dO (t : Tree) : (prepN p m t).text = t.text := by rw [fE]
theorem kX (t : Tree) : (prepN p m t).kids = t.kids.map (prepN p m) := by rw [fE]
theorem dL {t u : Tree} {i : Nat} (h : t.kids[i]? = some u) : (prepN p m t).kids[i]? = some (prepN p m u) := by rw [kX, List.getElem?_map, h]; rfl
theorem fU (t : Tree) : (prepN p m t).kids.length = t.kids.length := by rw [kX, List.length_map]
theorem qr {t : Tree} (h : t.kind = 16) : (prepN p m t).module = (au p m t.text).1 ∧ (prepN p m t).def_ = (au p m t.text).2.1 ∧ (prepN p m t).free = !(au p m t.text).2.2 := by
  have : ej t = true := by simp [ej, h]
  rw [fE]; simp only [if_pos this, true_and]
theorem o0 : ∀ t : Tree, tbulk t ≤ 1000000000 → ∀ (q : List Int) (rest : List GTarget), dA t (cy p m (nodK t q) ++ rest) (prepN p m t) rest := ky fun t ih hb q rest => by
  have hk := em t
  have loop : ∀ j i l, t.kids.length - i ≤ j → i ≤ t.kids.length → l = (t.kids.take i).map (prepN p m) → ∀ (z1 z2 : Int) (b : Bool), ci (j + 1) t (cy p m (nodKs (t.kids.drop i) q i) ++ rest) z1 z2 b l i ⟨t.kind, z1, z2, b, t.text, t.kids.map (prepN p m)⟩ rest := fun j => by
    induction j with
    | zero =>
      intro i l hi hle hl z1 z2 b
      refine f5 0 _ _ _ _ _ _ _ _ _ ⟨fun h => by omega, fun h => ?_⟩
      rw [List.drop_of_length_le (by omega), hl, List.take_of_length_le (by omega)]
      exact ⟨rfl, by simp [nodKs, cy]⟩
    | succ j ihj =>
      intro i l hi hle hl z1 z2 b
      refine f5 (j + 1) _ _ _ _ _ _ _ _ _ ⟨fun h => ?_, fun h => ?_⟩
      · obtain ⟨u, hu, hlt⟩ | h' := aN t.kids i
        · have hbu := bC hu
          rw [aO hu, nodKs, j3, List.append_assoc]
          have hl2 : l ++ [prepN p m u] = (t.kids.take (i + 1)).map (prepN p m) := by rw [hl, List.take_succ, hu]; simp
          refine ⟨u, hu, prepN p m u, _, ih i u hu (by omega) (q ++ [(i : Int)]) _, ?_, by omega, ihj (i + 1) _ (by omega) (by omega) hl2 z1 z2 b⟩
          rw [hl2, List.length_map, List.length_take]; omega
        · exact absurd h h'
      · rw [List.drop_of_length_le (by omega), hl, List.take_of_length_le (by omega)]
        exact ⟨rfl, by simp [nodKs, cy]⟩
  have l0 : dg (t.kids.length + 2) t (cy p m (nodK t q) ++ rest) (ej t) (prepN p m t) rest := by
    refine jV (t.kids.length + 1) _ _ _ _ _ ⟨fun h => ?_, fun h => ?_⟩
    · rw [lP, cy, if_pos h]
      refine ⟨tgK p m q t, rfl, by simp, ?_⟩
      have := loop t.kids.length 0 [] (by omega) (by omega) (by simp) (au p m t.text).1 (au p m t.text).2.1 (!(au p m t.text).2.2)
      rw [fE, if_pos h, if_pos h, if_pos h]
      exact this
    · have h' : ¬ ej t = true := by rw [h]; decide
      rw [lP, cy, if_neg h']
      have := loop t.kids.length 0 [] (by omega) (by omega) (by simp) 0 0 false
      rw [fE, if_neg h', if_neg h', if_neg h']
      exact this
  refine j4 (t.kids.length + 2) _ _ _ _ ⟨fun h => ?_, fun h => ?_⟩
  · have : ej t = true := by simp [ej, h]
    rw [this] at l0; exact l0
  · have : ej t = (t.kind == 9) := by simp [ej, h]
    rw [this] at l0; exact l0
end
def iL (p : List Tree) : Nat → List Tree → List GEvalNode
  | _, [] => []
  | i, t :: r => prepN p i t :: iL p (i + 1) r
def bm (p : List Tree) : List GEvalNode := iL p 0 p
theorem lS (p : List Tree) : ∀ (l : List Tree) (i k : Nat) (t : Tree), l[k]? = some t → (iL p i l)[k]? = some (prepN p ((i + k : Nat) : Int) t)
  | [], i, k, t, h => by simp at h
  | u :: r, i, 0, t, h => by simp at h; subst h; simp [iL]
  | u :: r, i, k + 1, t, h => by
    have := lS p r (i + 1) k t (by simpa using h)
    rw [show i + 1 + k = i + (k + 1) by omega] at this
    simpa [iL] using this
theorem iU {p : List Tree} {k : Nat} {t : Tree} (h : p[k]? = some t) : (bm p)[k]? = some (prepN p (k : Int) t) := by
  have := lS p p 0 k t h
  simpa [bm] using this
def pb (b : Bnd) : GEvalBinding := ⟨b.1, b.2⟩
def VOk (p : List Tree) (g : Nat) : Prop := ∀ (r m : Nat) (t : Tree) (env : List Bnd) (fuel : Nat), r < g → r ≤ fuel → fuel ≤ 16384 → m < p.length → exT t → tbulk t ≤ 1000000 → EOk env →
  S_eval_runner_value (bm p) fuel ((fuel : Int) - (r : Int)) (prepN p m t) (env.map pb) (evG p g m t env r).1 (evG p g m t env r).2.1 (bm p) fuel ((fuel : Int) - ((evG p g m t env r).2.2 : Int))
section
variable {p : List Tree} (hb : kbulk p ≤ 1000000)
theorem vg {g : Nat} (hb : kbulk p ≤ 1000000) (H : VOk p g) (m : Nat) (t : Tree) (env : List Bnd) (fuel : Nat) (hf : fuel ≤ 16384) (hm : m < p.length) (hx : exT t) (ht : tbulk t ≤ 1000000) (he : EOk env) (r : Nat) (hr : r < g) (hrf : r ≤ fuel) :
    S_eval_runner_all (bm p) fuel ((fuel : Int) - (r : Int)) (prepN p m t) (env.map pb) (evL (fun k r => evG p g m k env r) t.kids r).1 (evL (fun k r => evG p g m k env r) t.kids r).2.1 (bm p) fuel ((fuel : Int) - ((evL (fun k r => evG p g m k env r) t.kids r).2.2 : Int)) := by
  have hk := em t
  have loop : ∀ j i (r : Nat) acc, t.kids.length - i ≤ j → i ≤ t.kids.length → acc.length = i → r < g → r ≤ fuel → cD (2 * j + 1) (prepN p m t) (env.map pb) (bm p) fuel ((fuel : Int) - (r : Int)) acc i
      (if (evL (fun k r => evG p g m k env r) (t.kids.drop i) r).2.1 = 0 then acc ++ (evL (fun k r => evG p g m k env r) (t.kids.drop i) r).1 else []) (evL (fun k r => evG p g m k env r) (t.kids.drop i) r).2.1 (bm p) fuel ((fuel : Int) - ((evL (fun k r => evG p g m k env r) (t.kids.drop i) r).2.2 : Int)) := fun j => by
    induction j with
    | zero =>
      intro i r acc hi hle hacc hr hrf
      refine fk 0 _ _ _ _ _ _ _ _ _ _ _ _ ⟨fun h => by rw [fU] at h; omega, fun h => ?_⟩
      rw [List.drop_of_length_le (by omega), evL]
      exact ⟨by simp, rfl, rfl, rfl, rfl⟩
    | succ j ihj =>
      intro i r acc hi hle hacc hr hrf
      refine fk (2 * j + 2) _ _ _ _ _ _ _ _ _ _ _ _ ⟨fun h => ?_, fun h => ?_⟩
      · rw [fU] at h
        obtain ⟨u, hu, hlt⟩ | h' := aN t.kids i
        · obtain ⟨a1, a2, a3, a4⟩ := rU hx hu
          have hbu := bC hu
          have hv := H r m (cx u) env fuel hr hrf hf hm a1 (by omega) he
          have hin := gv hb g r m (cx u) env (by omega) he
          rw [aO hu, evL]
          revert hv hin
          generalize evG p g m (cx u) env r = y
          obtain ⟨d, e, r'⟩ := y
          intro hv hin
          simp only at hv hin ⊢
          have l1 : cM (2 * j + 2) (prepN p m t) (env.map pb) (prepN p m (cx u)) (bm p) fuel ((fuel : Int) - (r : Int)) acc i
              (if (if e = 0 then (match evL (fun k r => evG p g m k env r) (t.kids.drop (i + 1)) r' with | (l, e', r'') => if e' = 0 then (d :: l, (0 : Int), r'') else ([], e', r'')) else ([], e, r')).2.1 = 0 then acc ++ (if e = 0 then (match evL (fun k r => evG p g m k env r) (t.kids.drop (i + 1)) r' with | (l, e', r'') => if e' = 0 then (d :: l, (0 : Int), r'') else ([], e', r'')) else ([], e, r')).1 else [])
              (if e = 0 then (match evL (fun k r => evG p g m k env r) (t.kids.drop (i + 1)) r' with | (l, e', r'') => if e' = 0 then (d :: l, (0 : Int), r'') else ([], e', r'')) else ([], e, r')).2.1 (bm p) fuel ((fuel : Int) - ((if e = 0 then (match evL (fun k r => evG p g m k env r) (t.kids.drop (i + 1)) r' with | (l, e', r'') => if e' = 0 then (d :: l, (0 : Int), r'') else ([], e', r'')) else ([], e, r')).2.2 : Int)) := by
            refine jh (2 * j + 1) _ _ _ _ _ _ _ _ _ _ _ _ _ ⟨d, e, _, _, _, hv, fun h0 => ?_, fun h0 => ?_⟩
            · exact ⟨by simp [h0], by simp [h0], rfl, rfl, by simp [h0]⟩
            · have hrec := ihj (i + 1) r' (acc ++ [d]) (by omega) (by omega) (by simp [hacc]) (by omega) (by omega)
              refine ⟨by simp [hacc]; omega, by omega, ?_⟩
              simp only [if_pos h0]
              revert hrec
              generalize evL (fun k r => evG p g m k env r) (t.kids.drop (i + 1)) r' = x
              obtain ⟨l, e', r''⟩ := x
              intro hrec
              simp only at hrec ⊢
              by_cases he' : e' = 0
              · simp only [if_pos he'] at hrec ⊢
                subst he'
                simpa using hrec
              · simp only [if_neg he'] at hrec ⊢
                exact hrec
          refine ⟨prepN p m u, dL hu, fun h17 => ?_, fun h17 => ?_⟩
          · rw [aW] at h17
            obtain ⟨b1, b2, b3⟩ := n7 hx hu (a4.1 h17)
            have e : cx u = ar u 0 := by rw [cx, if_pos h17]
            rw [e] at l1
            exact ⟨_, dL (c7 (by omega)), l1⟩
          · rw [aW] at h17
            have e : cx u = u := by rw [cx, if_neg h17]
            rw [e] at l1
            exact l1
        · exact absurd h h'
      · rw [fU] at h
        rw [List.drop_of_length_le (by omega), evL]
        exact ⟨by simp, rfl, rfl, rfl, rfl⟩
  refine jt (2 * t.kids.length + 1) _ _ _ _ _ _ _ _ _ _ ?_
  have := loop t.kids.length 0 r [] (by omega) (by omega) rfl hr hrf
  rw [List.drop_zero] at this
  have e : (if (evL (fun k r => evG p g m k env r) t.kids r).2.1 = 0 then [] ++ (evL (fun k r => evG p g m k env r) t.kids r).1 else []) = (evL (fun k r => evG p g m k env r) t.kids r).1 := by
    split
    · rfl
    · rename_i hne
      refine ((jO (B := 2000000) t.kids r fun k hk' r => ?_).2.2.2 hne).symm
      obtain ⟨i, hi⟩ := List.getElem?_of_mem hk'
      have := bC hi
      have := jz k
      exact gv hb g r m (cx k) env (by omega) he
  rw [e] at this
  exact this
theorem oM {g : Nat} (H : VOk p g) (i : Nat) (a : Tree) (l : List GDatum) (fuel : Nat) (hf : fuel ≤ 16384) (hi : i < p.length) (ha : a.kids.length = l.length + 2) (hx : exT (ar a (l.length + 1))) (hab : tbulk a ≤ 1000000) (hl : ∀ d, d ∈ l → wD d ≤ 2000000) (r : Nat) (hr : r < g) (hrf : r ≤ fuel) :
    S_eval_runner_enter (bm p) fuel ((fuel : Int) - (r : Int)) (prepN p i a) l (evG p g i (ar a (l.length + 1)) (ch a.kids l) r).1 (evG p g i (ar a (l.length + 1)) (ch a.kids l) r).2.1 (bm p) fuel ((fuel : Int) - ((evG p g i (ar a (l.length + 1)) (ch a.kids l) r).2.2 : Int)) := by
  have hlen := em a
  have loop : ∀ j, j ≤ l.length → bV (j + 1) (bm p) fuel ((fuel : Int) - (r : Int)) (prepN p i a) l ((ch (a.kids.drop j) (l.drop j)).map pb) ((j : Int) - 1) (evG p g i (ar a (l.length + 1)) (ch a.kids l) r).1 (evG p g i (ar a (l.length + 1)) (ch a.kids l) r).2.1 (bm p) fuel ((fuel : Int) - ((evG p g i (ar a (l.length + 1)) (ch a.kids l) r).2.2 : Int)) := fun j => by
    induction j with
    | zero =>
      intro _
      refine ey 0 _ _ _ _ _ _ _ _ _ _ _ _ ⟨fun h => by omega, fun h => ⟨by omega, _, dL (c7 (by omega)), _, _, _, _, _, H r i _ _ fuel hr hrf hf hi hx (Nat.le_trans (c6 _ _) hab) (jP hl a.kids), rfl, rfl, rfl, rfl, rfl⟩⟩
    | succ j ihj =>
      intro hj
      obtain ⟨u, hu, _⟩ | h' := aN a.kids j
      · obtain ⟨d, hd, _⟩ | h'' := aN l j
        · refine ey (j + 1) _ _ _ _ _ _ _ _ _ _ _ _ ⟨fun h => ⟨j, by omega, _, dL hu, j, by omega, d, hd, by constructor <;> omega, ?_⟩, fun h => by omega⟩
          have := ihj (by omega)
          rw [aO hu, aO hd] at this
          rw [show (((j + 1 : Nat) : Int) - 1 - 1) = (j : Int) - 1 by omega, dO]
          simpa [ch, pb] using this
        · omega
      · omega
  have := loop l.length (Nat.le_refl _)
  rw [List.drop_of_length_le (Nat.le_refl l.length)] at this
  refine iI (l.length + 1) _ _ _ _ _ _ _ _ _ _ ?_
  simpa [ch] using this
end
end Go.Proofs.YthnohcipianijaaGreatDoor
namespace Go.Proofs.YthnohcipianijaaGreatDoor
open Go.RowKit Lx Sx
set_option maxRecDepth 100000
set_option maxHeartbeats 1000000
theorem g0 (b : Bool) : cf b (dB b) := kP 0 _ _ ⟨fun h => by rw [h]; rfl, fun h => by rw [h]; rfl⟩
theorem ue {d : GDatum} {B : Nat} (h : wD d ≤ B) : d.S.length ≤ B := by rw [iP] at h; omega
theorem lI {P : List GEvalNode} {F U : Int} {N : GEvalNode} {x y : GDatum} (b : Bool) (hx : wD x ≤ 2000000) (hy : wD y ≤ 2000000) (h61 : ¬ N.text = [61, 61]) (hb : b = true ↔ (N.text = [43] ∧ x.Kind = 2 ∧ y.Kind = 2)) :
    L1_eval_runner_operation 1 N P F U x y b (cg N.text x y).1 (cg N.text x y).2 P F U := by
  have h1 := ue hx
  have h2 := ue hy
  have e1 : IntKind.i64.wrap (((x.S.length : Nat) : Int) + ((y.S.length : Nat) : Int)) = ((x.S.length : Nat) : Int) + ((y.S.length : Nat) : Int) := IntWalk.i64_in _ (by omega)
  have e2 : IntKind.i64.wrap (((x.S.length : Nat) : Int) + ((y.S.length : Nat) : Int) + 1) = ((x.S.length : Nat) : Int) + ((y.S.length : Nat) : Int) + 1 := IntWalk.i64_in _ (by omega)
  refine gd 0 _ _ _ _ _ _ _ _ _ _ _ _ ⟨fun ht => ⟨fun h => ?_, fun h => ⟨by omega, ?_⟩⟩, fun hf => ?_⟩
  · rw [e1, e2] at h
    have e : cg N.text x y = (GD0, 3) := by rw [cg, if_neg h61, if_pos (hb.1 ht), if_pos (by omega)]
    rw [e]; exact ⟨rfl, rfl, rfl, rfl, rfl⟩
  · rw [e1, e2] at h
    have e : cg N.text x y = (⟨2, 0, x.S ++ y.S, []⟩, 0) := by rw [cg, if_neg h61, if_pos (hb.1 ht), if_neg (by omega)]
    rw [e]; exact ⟨rfl, rfl, rfl, rfl, rfl⟩
  · have hn : ¬ (N.text = [43] ∧ x.Kind = 2 ∧ y.Kind = 2) := fun h => by rw [hb.2 h] at hf; cases hf
    have e : cg N.text x y = (if ¬ (x.Kind = 1 ∧ y.Kind = 1) then (GD0, 20) else if N.text = [43] then (dI (IntKind.i64.wrap (x.N + y.N)), 0) else if N.text = [45] then (dI (IntKind.i64.wrap (x.N - y.N)), 0) else if N.text = [42] then (dI (IntKind.i64.wrap (x.N * y.N)), 0) else (dB (decide (x.N < y.N)), 0)) := by rw [cg, if_neg h61, if_neg hn]
    rw [e]
    refine ⟨fun k => ?_, fun k => ⟨fun k2 => ?_, fun k2 => ?_⟩⟩
    · rw [if_pos (fun h => k h.1)]; exact ⟨rfl, rfl, rfl, rfl, rfl⟩
    · rw [if_pos (fun h => k2 h.2)]; exact ⟨rfl, rfl, rfl, rfl, rfl⟩
    · rw [if_neg (fun h => h ⟨k, k2⟩)]
      refine ⟨fun q => ?_, fun q => ⟨fun q2 => ?_, fun q2 => ⟨fun q3 => ?_, fun q3 => ?_⟩⟩⟩
      · rw [if_pos q]; exact ⟨rfl, rfl, rfl, rfl, rfl⟩
      · rw [if_neg q, if_pos q2]; exact ⟨rfl, rfl, rfl, rfl, rfl⟩
      · rw [if_neg q, if_neg q2, if_pos q3]; exact ⟨rfl, rfl, rfl, rfl, rfl⟩
      · rw [if_neg q, if_neg q2, if_neg q3]; exact ⟨_, g0 _, rfl, rfl, rfl, rfl, rfl⟩
theorem tJ {P : List GEvalNode} {F U : Int} {N : GEvalNode} {x y : GDatum} (hx : wD x ≤ 2000000) (hy : wD y ≤ 2000000) :
    L0_eval_runner_operation 2 N P F U x y (cg N.text x y).1 (cg N.text x y).2 P F U := by
  refine ga 1 _ _ _ _ _ _ _ _ _ _ _ ⟨fun h => ⟨fun k => ?_, fun k => ?_⟩, fun h => ⟨fun k => ⟨fun q => ?_, fun q => ?_⟩, fun k => ?_⟩⟩
  · have e : cg N.text x y = (GD0, 20) := by rw [cg, if_pos h, if_neg k]
    rw [e]; exact ⟨rfl, rfl, rfl, rfl, rfl⟩
  · have e : cg N.text x y = (dB (sameD x y), 0) := by rw [cg, if_pos h, if_pos k]
    rw [e]; exact ⟨_, lg x (by have := pg x; omega) y, _, g0 _, rfl, rfl, rfl, rfl, rfl⟩
  · exact lI _ hx hy h (by simp [k, q])
  · exact lI _ hx hy h (by simp [q])
  · exact lI _ hx hy h (by simp [k])
theorem ma {P : List GEvalNode} {F U : Int} {N : GEvalNode} (k : Nat) : ∀ (env : List Bnd), bZ (env.length + k + 1) P F U N (env.map pb) ((fu env N.text).getD GD0) (if (fu env N.text).isSome = true then 0 else 7) P F (U + 1)
  | [] => en _ _ _ _ _ _ _ _ _ _ _ ⟨fun _ => ⟨rfl, rfl, rfl, rfl, rfl⟩, fun x l h => by cases h⟩
  | b :: r => by
    rw [show (b :: r).length + k + 1 = (r.length + k + 1) + 1 by simp only [List.length_cons]; omega]
    refine en (r.length + k + 1) _ _ _ _ _ _ _ _ _ _ ⟨fun h => (by cases h), fun x l h => ?_⟩
    simp only [List.map_cons, List.cons.injEq] at h
    obtain ⟨rfl, rfl⟩ := h
    refine ⟨fun h => ?_, fun h => ?_⟩
    · have h' : b.1 = N.text := h
      rw [fu, if_pos h']; exact ⟨rfl, rfl, rfl, rfl, rfl⟩
    · have h' : ¬ b.1 = N.text := h
      rw [fu, if_neg h']; exact ma k r
theorem sQ {p : List Tree} (hp : bY p = true) (hb : kbulk p ≤ 1000000) : ∀ g, VOk p g := fun g => by
  induction g with
  | zero => intro r m t env fuel hr; omega
  | succ g ih =>
    intro r m t env fuel hr hrf hf hm hx ht he
    have hkb : ∀ i, tbulk (ar t i) ≤ 1000000 := fun i => Nat.le_trans (c6 t i) ht
    cases r with
    | zero =>
      rw [rQ]
      exact fi 20 _ _ _ _ _ _ _ _ _ _ ⟨fun _ => ⟨rfl, rfl, rfl, rfl, rfl⟩, fun h => absurd (by omega) h⟩
    | succ r =>
      have e1 : (fuel : Int) - ((r + 1 : Nat) : Int) + 1 = (fuel : Int) - (r : Int) := by omega
      obtain ⟨hl22, hl20, hl19, hl21⟩ := sP hx
      obtain ⟨hw10, hw11, hw16, hw21⟩ := ry hx
      have kid : ∀ i, i < t.kids.length → t.kind ≠ 16 → exT (ar t i) ∧ (prepN p m t).kids[i]? = some (prepN p m (ar t i)) := fun i hi h16 => ⟨(oK hx (c7 hi) h16).1, dL (c7 hi)⟩
      have hall := vg hb ih m t env fuel hf hm hx ht he r (by omega) (by omega)
      have hinv : (∀ d, d ∈ (evL (fun k r => evG p g m k env r) t.kids r).1 → wD d ≤ 2000000) ∧ (evL (fun k r => evG p g m k env r) t.kids r).2.2 ≤ r ∧ ((evL (fun k r => evG p g m k env r) t.kids r).2.1 = 0 → (evL (fun k r => evG p g m k env r) t.kids r).1.length = t.kids.length) := by
        have := jO (f := fun k r => evG p g m k env r) (B := 2000000) t.kids r fun k hk' r => by
          obtain ⟨i, hi⟩ := List.getElem?_of_mem hk'
          have := bC hi
          have := jz k
          exact gv hb g r m (cx k) env (by omega) he
        exact ⟨this.1, this.2.1, this.2.2.1⟩
      have htl := iJ t
      have hkl := em t
      have c15 : t.kind ≠ 10 → t.kind ≠ 11 → t.kind ≠ 13 → t.kind ≠ 14 → t.kind ≠ 12 → t.kind ≠ 22 → t.kind ≠ 20 → t.kind ≠ 19 → t.kind ≠ 18 → t.kind ≠ 16 → t.kind ≠ 21 → t.kind = 15 := by
        have h : 10 ≤ t.kind ∧ t.kind ≤ 22 ∧ t.kind ≠ 17 := by simpa [dQ] using hx.2
        omega
      refine fi (env.length + 30) _ _ _ _ _ _ _ _ _ _ ⟨fun h => by omega, fun _ => ⟨by constructor <;> omega, fun h10 => ?_, fun n10 => iw (env.length + 29) _ _ _ _ _ _ _ _ _ _ ⟨fun h11 => ?_, fun n11 => ip (env.length + 28) _ _ _ _ _ _ _ _ _ _ ⟨fun h13 => ?_, fun n13 => iy (env.length + 27) _ _ _ _ _ _ _ _ _ _ ⟨fun h14 => ?_, fun n14 => ik (env.length + 26) _ _ _ _ _ _ _ _ _ _ ⟨fun h12 => ?_, fun n12 => ij (env.length + 25) _ _ _ _ _ _ _ _ _ _ ⟨fun h22 => ?_, fun n22 => ib (env.length + 24) _ _ _ _ _ _ _ _ _ _ ⟨fun h20 => ?_, fun n20 => hJ (env.length + 23) _ _ _ _ _ _ _ _ _ _ ⟨fun h19 => ?_, fun n19 => hZ (env.length + 22) _ _ _ _ _ _ _ _ _ _ ⟨fun h18 => ?_, fun n18 => hD (env.length + 21) _ _ _ _ _ _ _ _ _ _ ⟨fun h16 => ?_, fun n16 => hO (env.length + 20) _ _ _ _ _ _ _ _ _ _ ⟨fun h21 => ?_, fun n21 => ?_⟩⟩⟩⟩⟩⟩⟩⟩⟩⟩⟩⟩
      · rw [aW] at h10
        rw [o7 h10]
        refine iA _ _ _ _ _ _ _ _ _ _ ⟨_, (), ?_, rfl, rfl, rfl, rfl, e1⟩
        rw [dO]; exact pT (hw10 h10)
      · rw [aW] at h11
        have h2 := vB (hw11 h11)
        rw [pK h11]
        refine ii _ _ _ _ _ _ _ _ _ _ ?_
        rw [dO]
        exact ⟨by constructor <;> omega, t.text.length - 1, by omega, by omega, by omega, rfl, rfl, rfl, rfl, e1⟩
      · rw [aW] at h13
        rw [pq h13]
        exact ⟨_, g0 _, rfl, rfl, rfl, rfl, e1⟩
      · rw [aW] at h14
        rw [pP h14]
        exact ⟨_, g0 _, rfl, rfl, rfl, rfl, e1⟩
      · rw [aW] at h12
        have h6 := ma (P := bm p) (F := fuel) (U := (fuel : Int) - ((r + 1 : Nat) : Int)) (N := prepN p m t) 25 env
        rw [pi h12]
        rw [dO, e1] at h6
        cases hE : fu env t.text with
        | none => rw [hE] at h6; exact h6
        | some d => rw [hE] at h6; exact h6
      · rw [aW] at h22
        rw [px h22]
        obtain ⟨k1, k2⟩ := kid 0 (by have := hl22 h22; omega) (by omega)
        have hv := ih r m (ar t 0) env fuel (by omega) (by omega) hf hm k1 (hkb 0) he
        exact il _ _ _ _ _ _ _ _ _ _ _ ⟨_, k2, _, _, _, _, _, by rw [e1]; exact hv, rfl, rfl, rfl, rfl, rfl⟩
      · rw [aW] at h20
        rw [pM h20]
        have hl := hl20 h20
        obtain ⟨k1, k2⟩ := kid 0 (by omega) (by omega)
        obtain ⟨k3, k4⟩ := kid 1 (by omega) (by omega)
        have hv := ih r m (ar t 0) env fuel (by omega) (by omega) hf hm k1 (hkb 0) he
        have hi := gv hb g r m (ar t 0) env (hkb 0) he
        revert hv hi
        generalize evG p g m (ar t 0) env r = x
        obtain ⟨d, e, r'⟩ := x
        intro hv hi
        simp only at hv hi ⊢
        refine hW _ _ _ _ _ _ _ _ _ _ _ ⟨_, k2, d, e, _, _, _, by rw [e1]; exact hv, fun hne => ?_, fun h0 => ?_⟩
        · rw [if_neg hne]; exact ⟨rfl, rfl, rfl, rfl, rfl⟩
        · rw [if_pos h0]
          have hv1 := ih r' m (ar t 1) ((t.text, d) :: env) fuel (by omega) (by omega) hf hm k3 (hkb 1) (fun b hb => by
            rcases List.mem_cons.1 hb with rfl | hb
            · exact hi.1
            · exact he b hb)
          exact ⟨_, k4, _, _, _, _, _, by rw [dO]; exact hv1, rfl, rfl, rfl, rfl, rfl⟩
      · rw [aW] at h19
        rw [o1 h19]
        have hl := hl19 h19
        obtain ⟨k1, k2⟩ := kid 0 (by omega) (by omega)
        obtain ⟨k3, k4⟩ := kid 1 (by omega) (by omega)
        obtain ⟨k5, k6⟩ := kid 2 (by omega) (by omega)
        have hv := ih r m (ar t 0) env fuel (by omega) (by omega) hf hm k1 (hkb 0) he
        have hi := gv hb g r m (ar t 0) env (hkb 0) he
        revert hv hi
        generalize evG p g m (ar t 0) env r = x
        obtain ⟨d, e, r'⟩ := x
        intro hv hi
        simp only at hv hi ⊢
        refine ⟨_, _, _, _, _, ?_, rfl, rfl, rfl, rfl, rfl⟩
        rw [e1]
        refine iu 0 _ _ _ _ _ _ _ _ _ _ ⟨_, k2, d, e, _, _, _, hv, fun hne => ?_, fun h0 => ⟨fun q => ?_, fun q => ⟨fun q1 => ?_, fun q1 => ?_⟩⟩⟩
        · rw [if_neg hne]; exact ⟨rfl, rfl, rfl, rfl, rfl⟩
        · rw [if_pos h0, if_neg q]; exact ⟨rfl, rfl, rfl, rfl, rfl⟩
        · rw [if_pos h0, if_pos q, if_pos q1]
          have hv1 := ih r' m (ar t 1) env fuel (by omega) (by omega) hf hm k3 (hkb 1) he
          exact ⟨_, k4, _, _, _, _, _, hv1, rfl, rfl, rfl, rfl, rfl⟩
        · rw [if_pos h0, if_pos q, if_neg q1]
          have hv1 := ih r' m (ar t 2) env fuel (by omega) (by omega) hf hm k5 (hkb 2) he
          exact ⟨_, k6, _, _, _, _, _, hv1, rfl, rfl, rfl, rfl, rfl⟩
      · rw [aW] at h18
        rw [pj h18]
        revert hall hinv
        generalize evL (fun k r => evG p g m k env r) t.kids r = x
        obtain ⟨l, e, r'⟩ := x
        intro hall hinv
        simp only at hall hinv ⊢
        refine ⟨_, _, _, _, _, ?_, rfl, rfl, rfl, rfl, rfl⟩
        rw [e1]
        have hw : wD ⟨4, 0, [], l⟩ = 1 + wDs l := by simp [wD]
        refine jk 0 _ _ _ _ _ _ _ _ _ _ ⟨l, e, _, _, _, hall, fun hne => ?_, fun h0 => ⟨_, kA _, fun q => ?_, fun q => ?_⟩⟩
        · rw [if_neg hne]; exact ⟨rfl, rfl, rfl, rfl, rfl⟩
        · rw [if_pos h0, if_pos (by omega)]; exact ⟨rfl, rfl, rfl, rfl, rfl⟩
        · rw [if_pos h0, if_neg (by omega)]; exact ⟨rfl, rfl, rfl, rfl, rfl⟩
      · rw [aW] at h16
        rw [oX h16]
        obtain ⟨u1, u2, u3⟩ := qr (p := p) (m := m) h16
        revert hall hinv
        generalize evL (fun k r => evG p g m k env r) t.kids r = x
        obtain ⟨l, e, r'⟩ := x
        intro hall hinv
        simp only at hall hinv ⊢
        refine ⟨_, _, _, _, _, ?_, rfl, rfl, rfl, rfl, rfl⟩
        rw [e1]
        refine jj 0 _ _ _ _ _ _ _ _ _ _ ⟨l, e, _, _, _, hall, fun hne => ?_, fun h0 => ⟨fun q => ?_, fun q => ?_⟩⟩
        · rw [if_neg hne]; exact ⟨rfl, rfl, rfl, rfl, rfl⟩
        · rw [u3] at q
          have q' : ¬ (au p m t.text).2.2 = true := by intro h; rw [h] at q; cases q
          rw [if_pos h0, if_neg q']; exact ⟨rfl, rfl, rfl, rfl, rfl⟩
        · rw [u3] at q
          have q' : (au p m t.text).2.2 = true := by
            cases h : (au p m t.text).2.2
            · rw [h] at q; cases q
            · rfl
          obtain ⟨i, dd, tt, a, g1, g2, g3, g4⟩ := sM q'
          have hd : cn p (au p m t.text).1 (au p m t.text).2.1 = a := by
            rw [g1, g2]
            unfold cn ar
            rw [Int.toNat_natCast, c8 g3, Int.toNat_natCast, c8 g4]
          rw [if_pos h0, if_pos q', hd, u1, u2, g1, g2]
          have hpos : i < p.length := (List.getElem?_eq_some_iff.1 g3).1
          have hab : tbulk a ≤ 1000000 := Nat.le_trans (Nat.le_of_lt (by have := bC g4; omega)) (Nat.le_trans (ce g3) hb)
          have hlen := hinv.2.2 h0
          refine ⟨i, rfl, _, iU g3, dd, rfl, _, dL g4, by omega, fun z => ?_, fun z => ?_⟩
          · rw [fU] at z
            rw [if_neg z]; exact ⟨rfl, rfl, rfl, rfl, rfl⟩
          · rw [fU] at z
            rw [if_pos z]
            obtain ⟨_, hbx⟩ := nl hp g3 g4 z
            exact ⟨_, _, _, _, _, oM ih i a l fuel hf hpos z hbx hab hinv.1 r' (by omega) (by omega), rfl, rfl, rfl, rfl, rfl⟩
      · rw [aW] at h21
        rw [pD h21]
        have hl := hl21 h21
        revert hall hinv
        generalize evL (fun k r => evG p g m k env r) t.kids r = x
        obtain ⟨l, e, r'⟩ := x
        intro hall hinv
        simp only at hall hinv ⊢
        refine ⟨_, _, _, _, _, ?_, rfl, rfl, rfl, rfl, rfl⟩
        rw [e1]
        refine gl 2 _ _ _ _ _ _ _ _ _ _ ⟨l, e, _, _, _, hall, fun hne => ?_, fun h0 => ?_⟩
        · rw [if_neg hne]; exact ⟨rfl, rfl, rfl, rfl, rfl⟩
        · rw [if_pos h0]
          have hlen := hinv.2.2 h0
          obtain ⟨x, y, rfl⟩ : ∃ x y, l = [x, y] := by
            match l, hlen.trans hl with
            | [x, y], _ => exact ⟨x, y, rfl⟩
          have := tJ (P := bm p) (F := fuel) (U := (fuel : Int) - (r' : Int)) (N := prepN p m t) (hinv.1 x (by simp)) (hinv.1 y (by simp))
          rw [dO] at this
          exact ⟨x, rfl, y, rfl, this⟩
      · rw [aW] at n10 n11 n13 n14 n12 n22 n20 n19 n18 n16 n21
        rw [o9 (c15 n10 n11 n13 n14 n12 n22 n20 n19 n18 n16 n21)]
        exact ⟨rfl, rfl, rfl, rfl, e1⟩
end Go.Proofs.YthnohcipianijaaGreatDoor
namespace Go.Proofs.YthnohcipianijaaGreatDoor
open Go.RowKit Lx Sx
set_option maxRecDepth 100000
set_option maxHeartbeats 1000000
theorem rc (op : List UInt8) (a b : GDatum) : ¬ (cg op a b).2 = 0 → (cg op a b).1 = GD0 := by
  unfold cg
  repeat' split
  all_goals intro h
  all_goals first | rfl | exact absurd rfl h
theorem tZ {p : List Tree} : ∀ (g r : Nat) (m : Int) (t : Tree) (env : List Bnd), ¬ (evG p g m t env r).2.1 = 0 → (evG p g m t env r).1 = GD0 := fun g => by
  induction g with
  | zero => intro r m t env _; rw [evG]
  | succ g ih =>
    intro r m t env
    cases r with
    | zero => rw [rQ]; intro _; rfl
    | succ r =>
      rcases kinds t.kind with h | h | h | h | h | h | h | h | h | h | h | h | h
      · rw [o7 h]; exact fun h => absurd rfl h
      · rw [pK h]; exact fun h => absurd rfl h
      · rw [pi h]
        cases fu env t.text with
        | none => intro _; rfl
        | some d => exact fun h => absurd rfl h
      · rw [pq h]; exact fun h => absurd rfl h
      · rw [pP h]; exact fun h => absurd rfl h
      · rw [o9 h]; intro _; rfl
      · rw [oX h]
        generalize evL (fun k r => evG p g m k env r) t.kids r = x
        obtain ⟨l, e, r'⟩ := x
        simp only
        split
        · split
          · split
            · exact ih _ _ _ _
            · intro _; rfl
          · intro _; rfl
        · intro _; rfl
      · rw [pj h]
        generalize evL (fun k r => evG p g m k env r) t.kids r = x
        obtain ⟨l, e, r'⟩ := x
        simp only
        split
        · split
          · intro _; rfl
          · exact fun h => absurd rfl h
        · intro _; rfl
      · rw [o1 h]
        generalize evG p g m (ar t 0) env r = x
        obtain ⟨d, e, r'⟩ := x
        simp only
        split
        · split
          · split
            · exact ih _ _ _ _
            · exact ih _ _ _ _
          · intro _; rfl
        · intro _; rfl
      · rw [pM h]
        generalize evG p g m (ar t 0) env r = x
        obtain ⟨d, e, r'⟩ := x
        simp only
        split
        · exact ih _ _ _ _
        · intro _; rfl
      · rw [pD h]
        generalize evL (fun k r => evG p g m k env r) t.kids r = x
        obtain ⟨l, e, r'⟩ := x
        simp only
        split
        · exact rc _ _ _
        · intro _; rfl
      · rw [px h]; exact ih _ _ _ _
      · rw [sk h]; intro _; rfl
def iY (p : List Tree) (m d : Int) (n : Nat) : Bool := decide (0 ≤ m ∧ m < p.length ∧ 0 ≤ d ∧ d < (p.getD m.toNat (.node 0 [] [] [])).kids.length) && (cn p m d).kind == 2 && decide ((cn p m d).kids.length = n + 2)
def iN (p : List Tree) (m d : Int) (n : Nat) : Bool := bY p && iY p m d n
theorem nG {p : List Tree} {i k : Nat} {t a : Tree} (hi : p[i]? = some t) (hk : t.kids[k]? = some a) (n : Nat) : iY p i k n = (a.kind == 2 && decide (a.kids.length = n + 2)) ∧ cn p i k = a := by
  have h1 := (List.getElem?_eq_some_iff.1 hi).1
  have h2 := (List.getElem?_eq_some_iff.1 hk).1
  have hd : cn p i k = a := by
    unfold cn ar
    rw [Int.toNat_natCast, c8 hi, Int.toNat_natCast, c8 hk]
  refine ⟨?_, hd⟩
  rw [iY, hd, Int.toNat_natCast, c8 hi, decide_eq_true (show 0 ≤ (i : Int) ∧ (i : Int) < p.length ∧ 0 ≤ (k : Int) ∧ (k : Int) < t.kids.length by omega), Bool.true_and]
theorem gu {p : List Tree} {m d : Int} {n : Nat} (h : ¬ (0 ≤ m ∧ m < p.length ∧ 0 ≤ d ∧ d < (p.getD m.toNat (.node 0 [] [] [])).kids.length)) : iY p m d n = false := by rw [iY, decide_eq_false h, Bool.false_and, Bool.false_and]
theorem jw {m : Int} (h : ¬ m < 0) : ∃ i : Nat, m = i := ⟨m.toNat, by omega⟩
theorem kS (p : List Tree) (hb : kbulk p ≤ 1000000000) (m d : Int) (n : Nat) (hn : n ≤ 1000000000) : fa p m d n (iN p m d n) := by
  have hl := dE p
  have fin : ∀ i j, ¬ i < p.length → cm (j + 1) p m d n i (iY p m d n) := fun i j hi => by
    refine f4 j _ _ _ _ _ _ ⟨fun h => absurd h hi, fun _ => ⟨fun h => ?_, fun h => ⟨fun h1 => ?_, fun h1 => ⟨fun h2 => ?_, fun h2 => ?_⟩⟩⟩⟩
    · rw [gu (by omega)]
    · rw [gu (by omega)]
    · rw [gu (by omega)]
    · obtain ⟨a, rfl⟩ := jw h
      obtain ⟨b, rfl⟩ := jw h2
      obtain ⟨t, ht, _⟩ | h' := aN p a
      · refine ⟨a, rfl, t, ht, fun h3 => ?_, fun h3 => ?_⟩
        · rw [gu (by rw [Int.toNat_natCast, c8 ht]; omega)]
        · obtain ⟨u, hu, _⟩ | h'' := aN t.kids b
          · obtain ⟨e, _⟩ := nG ht hu n
            refine ⟨a, rfl, t, ht, b, rfl, u, hu, fun hk => ⟨by constructor <;> omega, ?_⟩, fun hk => ?_⟩
            · rw [e, hk]
              by_cases hz : u.kids.length = n + 2
              · rw [decide_eq_true hz]; simp [hz]
              · rw [decide_eq_false hz]; simp; omega
            · rw [e]; simp [hk]
          · omega
      · omega
  have loop : ∀ j i, p.length - i ≤ j → cm (j + 1) p m d n i (bY (p.drop i) && iY p m d n) := fun j => by
    induction j with
    | zero =>
      intro i hi
      rw [List.drop_of_length_le (by omega), bY, Bool.true_and]
      exact fin i 0 (by omega)
    | succ j ihj =>
      intro i hi
      obtain ⟨t, ht, hlt⟩ | h' := aN p i
      · have hbt := ce ht
        rw [aO ht, bY]
        refine f4 (j + 1) _ _ _ _ _ _ ⟨fun _ => ⟨t, ht, fun hk => by simp [hk], fun hk => ⟨_, nR t (by omega), fun hs => by simp [hs], fun hs => ⟨by omega, ?_⟩⟩⟩, fun h => absurd hlt h⟩
        have := ihj (i + 1) (by omega)
        simpa [hk, hs] using this
      · rw [List.drop_of_length_le (by omega), bY, Bool.true_and]
        exact fin i (j + 1) h'
  exact km _ _ _ _ _ _ (loop p.length 0 (by omega))
def bv (p : List Tree) (m d : Int) (l : List GDatum) (fuel : Int) : GDatum × Int × Int :=
  if iN p m d l.length = true ∧ 0 ≤ fuel ∧ fuel ≤ 16384 ∧ l.all co = true then
    ((evG p 16385 m (ar (cn p m d) (l.length + 1)) (ch (cn p m d).kids l) fuel.toNat).1, fuel - ((evG p 16385 m (ar (cn p m d) (l.length + 1)) (ch (cn p m d).kids l) fuel.toNat).2.2 : Int), (evG p 16385 m (ar (cn p m d) (l.length + 1)) (ch (cn p m d).kids l) fuel.toNat).2.1)
  else (GD0, 0, 5)
theorem lF {p : List Tree} {m d : Int} {l : List GDatum} {fuel : Int} (h : ¬ (iN p m d l.length = true ∧ 0 ≤ fuel ∧ fuel ≤ 16384 ∧ l.all co = true)) : bv p m d l fuel = (GD0, 0, 5) := by rw [bv, if_neg h]
theorem r4 {p : List Tree} {m d : Int} {n : Nat} (h : iN p m d n = true) : bY p = true ∧ ∃ (i k : Nat) (t a : Tree), m = i ∧ d = k ∧ p[i]? = some t ∧ t.kids[k]? = some a ∧ a.kind = 2 ∧ a.kids.length = n + 2 ∧ cn p m d = a := by
  simp only [iN, Bool.and_eq_true] at h
  refine ⟨h.1, ?_⟩
  have hr := h.2
  by_cases hc : 0 ≤ m ∧ m < p.length ∧ 0 ≤ d ∧ d < (p.getD m.toNat (.node 0 [] [] [])).kids.length
  · obtain ⟨i, rfl⟩ := jw (m := m) (by omega)
    obtain ⟨k, rfl⟩ := jw (m := d) (by omega)
    obtain ⟨t, ht, _⟩ | h' := aN p i
    · rw [Int.toNat_natCast, c8 ht] at hc
      obtain ⟨a, ha, _⟩ | h'' := aN t.kids k
      · obtain ⟨e, e2⟩ := nG ht ha n
        rw [e] at hr
        simp only [Bool.and_eq_true, beq_iff_eq, decide_eq_true_eq] at hr
        exact ⟨i, k, t, a, rfl, rfl, ht, ha, hr.1, hr.2, e2⟩
      · omega
    · omega
  · rw [gu hc] at hr; cases hr
theorem mF {l : List GDatum} (h : l.all co = true) : ∀ d, d ∈ l → wD d ≤ 2000000 := fun d hd => by
  have := List.all_eq_true.1 h d hd
  simp only [co, Bool.and_eq_true, decide_eq_true_eq] at this
  omega
theorem s9 {p : List Tree} (hb : kbulk p ≤ 1000000) (m d : Int) (l : List GDatum) (fuel : Int) : wD (bv p m d l fuel).1 ≤ 2000000 := by
  by_cases h : iN p m d l.length = true ∧ 0 ≤ fuel ∧ fuel ≤ 16384 ∧ l.all co = true
  · rw [bv, if_pos h]
    exact (gv hb 16385 fuel.toNat m _ _ (Nat.le_trans (c6 _ _) (l3 hb (by omega) _ _)) (jP (mF h.2.2.2) _)).1
  · rw [lF h]; exact bz
theorem mc (p : List Tree) : ∀ (l : List Tree) (i : Nat), (iL p i l).length = l.length
  | [], i => rfl
  | t :: r, i => by simp [iL, mc p r (i + 1)]
theorem iZ (p : List Tree) : (bm p).length = p.length := mc p p 0
theorem sf {p : List Tree} (hb : kbulk p ≤ 1000000) (m d : Int) (l : List GDatum) (hl : l.length ≤ 1000000000) (fuel : Int) : f7 p m d l fuel (bv p m d l fuel).1 (bv p m d l fuel).2.1 (bv p m d l fuel).2.2 := by
  have hlp := dE p
  by_cases hc : iN p m d l.length = true ∧ 0 ≤ fuel ∧ fuel ≤ 16384
  · obtain ⟨hp, i, k, t, a, rfl, rfl, ht, ha, ha2, han, hd⟩ := r4 hc.1
    obtain ⟨F, rfl⟩ := jw (m := fuel) (by omega)
    have hF : F ≤ 16384 := by omega
    have hpos := (List.getElem?_eq_some_iff.1 ht).1
    have hab : tbulk a ≤ 1000000 := Nat.le_trans (Nat.le_of_lt (by have := bC ha; omega)) (Nat.le_trans (ce ht) hb)
    -- the end
    have fin : l.all co = true → ∀ j s acc q, p.length - s ≤ j → s ≤ p.length → q = f9 p s (p.drop s) → acc = (bm p).take s → d3 (2 * j + 1) p i k l F q acc s (bv p i k l F).1 (bv p i k l F).2.1 (bv p i k l F).2.2 := fun hall j => by
      have last : ∀ (j' s : Nat) (acc : List GEvalNode) (q : List GTarget), ¬ s < p.length → acc = bm p → d3 (j' + 1) p i k l F q acc s (bv p i k l F).1 (bv p i k l F).2.1 (bv p i k l F).2.2 := fun j' s acc q hs hacc => by
        subst hacc
        have hrun : bv p i k l F = ((evG p 16385 i (ar a (l.length + 1)) (ch a.kids l) F).1, (F : Int) - ((evG p 16385 i (ar a (l.length + 1)) (ch a.kids l) F).2.2 : Int), (evG p 16385 i (ar a (l.length + 1)) (ch a.kids l) F).2.1) := by
          rw [bv, if_pos ⟨hc.1, hc.2.1, hc.2.2, hall⟩, hd, Int.toNat_natCast]
        rw [hrun]
        obtain ⟨_, hbx⟩ := nl hp ht ha han
        have hen := oM (sQ hp hb 16385) i a l F hF hpos han hbx hab (mF hall) F (by omega) (Nat.le_refl _)
        rw [show ((F : Int) - (F : Int)) = 0 by omega] at hen
        have hinv := gv hb 16385 F i (ar a (l.length + 1)) (ch a.kids l) (Nat.le_trans (c6 _ _) hab) (jP (mF hall) _)
        refine jE j' _ _ _ _ _ _ _ _ _ _ _ ⟨fun h => absurd h hs, fun _ => ⟨i, rfl, _, iU ht, k, rfl, _, dL ha, _, _, _, _, _, hen, fun hne => ⟨(tZ 16385 F i _ _ hne).symm, rfl, rfl⟩, fun h0 => ⟨_, rp _ (by omega), rfl, rfl, h0.symm⟩⟩⟩
      induction j with
      | zero =>
        intro s acc q hj hs hq hacc
        exact last 0 s acc q (by omega) (by rw [hacc, List.take_of_length_le (by rw [iZ]; omega)])
      | succ j ihj =>
        intro s acc q hj hs hq hacc
        obtain ⟨u, hu, hlt⟩ | h' := aN p s
        · have hbu := ce hu
          have hu2 := iU hu
          have hal : acc.length = s := by rw [hacc, List.length_take, iZ]; omega
          rw [hq, aO hu, f9]
          have hset : ((acc ++ [GEvalNode.mk 0 0 0 false [] []]).set acc.length (prepN p s u)) = (bm p).take (s + 1) := by
            rw [List.take_succ, hu2, ← hacc]; simp
          refine jE (2 * j + 2) _ _ _ _ _ _ _ _ _ _ _ ⟨fun _ => ⟨u, hu, _, _, o0 u (by omega) [] _, by simp [hal]; omega, _, by simp; rfl, nP (2 * j + 1) _ _ _ _ _ _ _ _ _ _ _ ⟨by omega, ?_⟩⟩, fun h => absurd hlt h⟩
          rw [hset]
          exact ihj (s + 1) _ _ (by omega) (by omega) rfl rfl
        · exact last _ s acc q h' (by rw [hacc, List.take_of_length_le (by rw [iZ]; omega)])
    have loop : ∀ j s, l.length - s ≤ j → ((l.take s).all co = true) → d2 (j + 2 * p.length + 2) p i k l F s (bv p i k l F).1 (bv p i k l F).2.1 (bv p i k l F).2.2 := fun j => by
      have last : ∀ (j' s : Nat), ¬ s < l.length → l.all co = true → d2 (j' + 2 * p.length + 2) p i k l F s (bv p i k l F).1 (bv p i k l F).2.1 (bv p i k l F).2.2 := fun j' s hs hall => by
        refine jp (j' + 2 * p.length + 1) _ _ _ _ _ _ _ _ _ ⟨fun h => absurd h hs, fun _ => ⟨_, qi p (by omega), ?_⟩⟩
        have htk : fw p = f9 p 0 (p.drop 0) := by rw [fw, if_pos hp, List.drop_zero]
        have := fin hall (p.length) 0 [] (fw p) (by omega) (by omega) htk (by simp)
        rw [show j' + 2 * p.length + 1 = (2 * p.length + 1) + j' by omega]
        exact fun K j1 hK h1 => this K j1 hK (by omega)
      induction j with
      | zero =>
        intro s hj hv
        rw [List.take_of_length_le (by omega)] at hv
        exact last 0 s (by omega) hv
      | succ j ihj =>
        intro s hj hv
        obtain ⟨x, hx, hlt⟩ | h' := aN l s
        · rw [show j + 1 + 2 * p.length + 2 = (j + 2 * p.length + 2) + 1 by omega]
          refine jp (j + 2 * p.length + 2) _ _ _ _ _ _ _ _ _ ⟨fun _ => ⟨x, hx, _, lB x, fun hf => ?_, fun hv2 => ⟨by omega, ihj (s + 1) (by omega) ?_⟩⟩, fun h => absurd hlt h⟩
          · rw [lF (fun hh => by
              have := List.all_eq_true.1 hh.2.2.2 x (List.mem_of_getElem? hx)
              rw [this] at hf; cases hf)]
            exact ⟨rfl, rfl, rfl⟩
          · rw [List.take_succ, hx, List.all_append, hv]; simp [hv2]
        · rw [List.take_of_length_le (by omega)] at hv
          exact last _ s h' hv
    refine jZ (l.length + 2 * p.length + 2) _ _ _ _ _ _ _ _ ⟨_, kS p (by omega) _ _ _ hl, fun h => ?_, fun _ => ⟨fun h => by omega, fun _ => ⟨fun h => by omega, fun _ => loop l.length 0 (by omega) (by simp)⟩⟩⟩
    rw [hc.1] at h; cases h
  · have e : bv p m d l fuel = (GD0, 0, 5) := lF fun h => hc ⟨h.1, h.2.1, h.2.2.1⟩
    rw [e]
    exact jZ 0 _ _ _ _ _ _ _ _ ⟨_, kS p (by omega) m d _ hl, fun h => ⟨rfl, rfl, rfl⟩, fun h => ⟨fun _ => ⟨rfl, rfl, rfl⟩, fun h1 => ⟨fun _ => ⟨rfl, rfl, rfl⟩, fun h2 => absurd ⟨h, by omega, by omega⟩ hc⟩⟩⟩
end Go.Proofs.YthnohcipianijaaGreatDoor
namespace Go.Proofs.YthnohcipianijaaGreatDoor
open Go.RowKit Lx Sx
set_option maxRecDepth 100000
set_option maxHeartbeats 4000000
structure GSemvcsref02Piece where
  Lead : (List UInt8)
  Text : (List UInt8)
abbrev GSemvcsref02Piece.c (x : GSemvcsref02Piece) : List V := [.str x.Lead, .str x.Text]
abbrev GSemvcsref02Piece.w (x : GSemvcsref02Piece) : V := .agg x.c
end Go.Proofs.YthnohcipianijaaGreatDoor
namespace Go.Proofs.YthnohcipianijaaGreatDoor
open Go.RowKit Lx Sx
set_option maxRecDepth 100000
set_option maxHeartbeats 4000000
def be (r0 : Bool) : Prop := aF Tryz.prog 13 [] (.bool r0)
def kb (p0 : (List UInt8)) (r0 : Tree) (r1 : Int) (r2 : Int) : Prop := aF Tryz.prog 27 [.str p0] (.tup [.agg (cR r0), .int .i64 r1, .int .i64 r2])
def d6 (p0 : GDatum) (r0 : Bool) : Prop := aF Tryz.prog 3 [.agg (GDatum.c p0)] (.bool r0)
def dT (p0 : GDatum) (p1 : GDatum) (r0 : Bool) : Prop := aF Tryz.prog 4 [.agg (GDatum.c p0), .agg (GDatum.c p1)] (.bool r0)
def eo (r0 : Bool) : Prop := aF Tryz.prog 13 [] (.bool r0)
theorem gG (m : Nat) (p0 : GDatum) (r0 : Bool) (h : ∃ (b0_1 : Bool), bH p0 b0_1 ∧ ((b0_1 = false) → ∃ (b0_2 : Bool), be b0_2 ∧ b0_2 = r0) ∧ ((b0_1 = true) → ∃ (b0_3 : Bool), be b0_3 ∧ ((b0_3 = true) → ∃ (b0_4 : Bool), dH p0 b0_4 ∧ ∃ (b0_5 : Bool), dr p0 b0_5 ∧ ((b0_4 = b0_5) → ∃ (n0_6 : Int), dk p0 n0_6 ∧ ∃ (n0_7 : Int), cc p0 n0_7 ∧ (n0_6 == n0_7) = r0) ∧ ((b0_4 ≠ b0_5) → false = r0)) ∧ ((b0_3 = false) → false = r0))) : d6 p0 r0 := by
 refine ⟨rfl, rfl, ?_⟩
 refine ak 22 [] Tryz.func3 rfl rfl rfl (av rfl) fun K hK => ?_
 refine gR 3 rfl ?_
 refine gFP 0 rfl rfl rfl rfl ?_
 refine gR 7 rfl ?_
 obtain ⟨b0_1, hs8, h⟩ := h
 refine gC0 hs8 (by kernel_rfl) rfl rfl .rfl rfl ?_
 refine gR 3 rfl ?_
 refine gB 5 rfl rfl rfl (fun hd => ?_) (fun hd => ?_)
 replace hd := (dh hd)
 replace h := h.1 hd
 refine gR 3 rfl ?_
 obtain ⟨b0_2, hs9, h⟩ := h
 refine gC0 hs9 (by kernel_rfl) rfl rfl .rfl rfl ?_
 refine gR 5 rfl ?_
 subst h
 refine ab (F' := (mkF 22 0 [(2, .bool b0_2)])) (H' := ⟨0, []⟩) [] [] rfl hK ⟨⟨_, rfl, .rfl⟩, trivial⟩ trivial rfl ?_
 exact ae aa (rs := [.tmp 2]) rfl rfl rfl
 replace hd := (de hd)
 replace h := h.2 hd
 refine gR 4 rfl ?_
 refine gDs [] 16 16 rfl (by kernel_rfl) (by kernel_rfl) ?_
 obtain ⟨b0_3, hs10, h⟩ := h
 refine aL 0 hs10 (by kernel_rfl) rfl (by kernel_rfl) rfl rfl .rfl rfl rfl ?_
 refine gDr [(1, 0)] (by kernel_rfl) rfl rfl ?_
 refine gB 8 rfl rfl rfl (fun hd => ?_) (fun hd => ?_)
 refine gT 7 rfl hd rfl ?_
 replace h := h.1 hd
 refine gDr [(2, 2), (4, 2)] (by kernel_rfl) rfl rfl ?_
 obtain ⟨b0_4, hs11, h⟩ := h
 refine aL 3 hs11 (by kernel_rfl) rfl (by kernel_rfl) rfl rfl .rfl rfl rfl ?_
 obtain ⟨b0_5, hs12, h⟩ := h
 refine aL 5 hs12 (by kernel_rfl) rfl (by kernel_rfl) rfl rfl .rfl rfl rfl ?_
 refine gDr [(6, 0), (7, 0), (8, 0)] (by kernel_rfl) rfl rfl ?_
 refine gB 15 rfl rfl rfl (fun hd => ?_) (fun hd => ?_)
 refine gT 14 rfl hd rfl ?_
 replace hd := (eq_of_beq hd)
 replace h := h.1 hd
 refine gDr [(9, 2), (11, 2)] (by kernel_rfl) rfl rfl ?_
 obtain ⟨n0_6, hs13, h⟩ := h
 refine aL 10 hs13 (by kernel_rfl) rfl (by kernel_rfl) rfl rfl .rfl rfl rfl ?_
 obtain ⟨n0_7, hs14, h⟩ := h
 refine aL 12 hs14 (by kernel_rfl) rfl (by kernel_rfl) rfl rfl .rfl rfl rfl ?_
 refine gDr [(13, 0), (14, 0), (15, 0)] (by kernel_rfl) rfl rfl ?_
 refine gDe (by kernel_rfl) ?_
 refine gR 2 rfl ?_
 subst h
 refine ab (F' := (mkF 22 0 [(2, .bool (n0_6 == n0_7))])) (H' := ⟨0, []⟩) [] [] rfl hK ⟨⟨_, rfl, .rfl⟩, trivial⟩ trivial rfl ?_
 exact ae aa (rs := [.tmp 2]) rfl rfl rfl
 refine gF 14 rfl hd rfl ?_
 replace hd := (ne_of_beq_false hd)
 replace h := h.2 hd
 refine gDr [(9, 2), (11, 2), (10, 0), (12, 0), (13, 0), (14, 0), (15, 0)] (by kernel_rfl) rfl rfl ?_
 refine gDe (by kernel_rfl) ?_
 refine gR 2 rfl ?_
 subst h
 refine ab (F' := (mkF 22 0 [(2, .bool false)])) (H' := ⟨0, []⟩) [] [] rfl hK ⟨⟨_, rfl, .rfl⟩, trivial⟩ trivial rfl ?_
 exact ae aa (rs := [.tmp 2]) rfl rfl rfl
 refine gF 7 rfl hd rfl ?_
 replace h := h.2 hd
 refine gDr [(2, 2), (4, 2), (3, 0), (5, 0), (6, 0), (7, 0), (8, 0), (9, 2), (11, 2), (10, 0), (12, 0), (13, 0), (14, 0), (15, 0)] (by kernel_rfl) rfl rfl ?_
 refine gDe (by kernel_rfl) ?_
 refine gR 2 rfl ?_
 subst h
 refine ab (F' := (mkF 22 0 [(2, .bool false)])) (H' := ⟨0, []⟩) [] [] rfl hK ⟨⟨_, rfl, .rfl⟩, trivial⟩ trivial rfl ?_
 exact ae aa (rs := [.tmp 2]) rfl rfl rfl
theorem gy (m : Nat) (p0 : GDatum) (p1 : GDatum) (r0 : Bool) (h : ∃ (b0_1 : Bool), bH p0 b0_1 ∧ ((b0_1 = false) → ∃ (b0_2 : Bool), be b0_2 ∧ b0_2 = r0) ∧ ((b0_1 = true) → ∃ (b0_3 : Bool), bH p1 b0_3 ∧ ((b0_3 = false) → ∃ (b0_4 : Bool), be b0_4 ∧ b0_4 = r0) ∧ ((b0_3 = true) → ∃ (b0_5 : Bool), be b0_5 ∧ ((b0_5 = true) → ∃ (b0_6 : Bool), cP p0 p1 b0_6 ∧ ∃ (b0_7 : Bool), cG p0 p1 b0_7 ∧ ((b0_6 = b0_7) → ∃ (b0_8 : Bool), cP p0 p0 b0_8 ∧ b0_8 = r0) ∧ ((b0_6 ≠ b0_7) → false = r0)) ∧ ((b0_5 = false) → false = r0)))) : dT p0 p1 r0 := by
 refine ⟨rfl, rfl, ?_⟩
 refine ak 29 [] Tryz.func4 rfl rfl rfl (av rfl) fun K hK => ?_
 refine gR 3 rfl ?_
 refine gFP 0 rfl rfl rfl rfl ?_
 refine gR 1 rfl ?_
 refine gFP 1 rfl rfl rfl rfl ?_
 refine gR 7 rfl ?_
 obtain ⟨b0_1, hs9, h⟩ := h
 refine gC0 hs9 (by kernel_rfl) rfl rfl .rfl rfl ?_
 refine gR 2 rfl ?_
 refine gB 8 rfl rfl rfl (fun hd => ?_) (fun hd => ?_)
 refine gT 7 rfl hd rfl ?_
 replace hd := (dh hd)
 replace h := h.1 hd
 refine gR 9 rfl ?_
 obtain ⟨b0_2, hs10, h⟩ := h
 refine gC0 hs10 (by kernel_rfl) rfl rfl .rfl rfl ?_
 refine gR 5 rfl ?_
 subst h
 refine ab (F' := (mkF 29 0 [(4, .bool b0_2)])) (H' := ⟨0, []⟩) [] [] rfl hK ⟨⟨_, rfl, .rfl⟩, trivial⟩ trivial rfl ?_
 exact ae aa (rs := [.tmp 4]) rfl rfl rfl
 refine gF 7 rfl hd rfl ?_
 replace hd := (de hd)
 replace h := h.2 hd
 refine gR 1 rfl ?_
 obtain ⟨b0_3, hs11, h⟩ := h
 refine gC0 hs11 (by kernel_rfl) rfl rfl .rfl rfl ?_
 refine gR 4 rfl ?_
 refine gB 12 rfl rfl rfl (fun hd => ?_) (fun hd => ?_)
 replace hd := (dh hd)
 replace h := h.1 hd
 refine gR 3 rfl ?_
 obtain ⟨b0_4, hs12, h⟩ := h
 refine gC0 hs12 (by kernel_rfl) rfl rfl .rfl rfl ?_
 refine gR 5 rfl ?_
 subst h
 refine ab (F' := (mkF 29 0 [(4, .bool b0_4)])) (H' := ⟨0, []⟩) [] [] rfl hK ⟨⟨_, rfl, .rfl⟩, trivial⟩ trivial rfl ?_
 exact ae aa (rs := [.tmp 4]) rfl rfl rfl
 replace hd := (de hd)
 replace h := h.2 hd
 refine gR 4 rfl ?_
 refine gDs [] 16 16 rfl (by kernel_rfl) (by kernel_rfl) ?_
 obtain ⟨b0_5, hs13, h⟩ := h
 refine aL 0 hs13 (by kernel_rfl) rfl (by kernel_rfl) rfl rfl .rfl rfl rfl ?_
 refine gDr [(1, 0)] (by kernel_rfl) rfl rfl ?_
 refine gB 15 rfl rfl rfl (fun hd => ?_) (fun hd => ?_)
 refine gT 14 rfl hd rfl ?_
 replace h := h.1 hd
 refine gDr [(2, 2), (3, 2), (5, 2), (6, 2)] (by kernel_rfl) rfl rfl ?_
 obtain ⟨b0_6, hs14, h⟩ := h
 refine aL 4 hs14 (by kernel_rfl) rfl (by kernel_rfl) rfl rfl .rfl rfl rfl ?_
 obtain ⟨b0_7, hs15, h⟩ := h
 refine aL 7 hs15 (by kernel_rfl) rfl (by kernel_rfl) rfl rfl .rfl rfl rfl ?_
 refine gDr [(8, 0), (9, 0), (10, 0)] (by kernel_rfl) rfl rfl ?_
 refine gB 24 rfl rfl rfl (fun hd => ?_) (fun hd => ?_)
 refine gT 23 rfl hd rfl ?_
 replace hd := (eq_of_beq hd)
 replace h := h.1 hd
 refine gDr [(11, 2), (12, 0)] (by kernel_rfl) rfl rfl ?_
 obtain ⟨b0_8, hs16, h⟩ := h
 refine aL 13 hs16 (by kernel_rfl) rfl (by kernel_rfl) rfl rfl .rfl rfl rfl ?_
 refine gDr [(14, 0), (15, 0)] (by kernel_rfl) rfl rfl ?_
 refine gDe (by kernel_rfl) ?_
 refine gR 2 rfl ?_
 subst h
 refine ab (F' := (mkF 29 0 [(4, .bool b0_8)])) (H' := ⟨0, []⟩) [] [] rfl hK ⟨⟨_, rfl, .rfl⟩, trivial⟩ trivial rfl ?_
 exact ae aa (rs := [.tmp 4]) rfl rfl rfl
 refine gF 23 rfl hd rfl ?_
 replace hd := (ne_of_beq_false hd)
 replace h := h.2 hd
 refine gDr [(11, 2), (12, 0), (13, 0), (14, 0), (15, 0)] (by kernel_rfl) rfl rfl ?_
 refine gDe (by kernel_rfl) ?_
 refine gR 2 rfl ?_
 subst h
 refine ab (F' := (mkF 29 0 [(4, .bool false)])) (H' := ⟨0, []⟩) [] [] rfl hK ⟨⟨_, rfl, .rfl⟩, trivial⟩ trivial rfl ?_
 exact ae aa (rs := [.tmp 4]) rfl rfl rfl
 refine gF 14 rfl hd rfl ?_
 replace h := h.2 hd
 refine gDr [(2, 2), (3, 2), (5, 2), (6, 2), (4, 0), (7, 0), (8, 0), (9, 0), (10, 0), (11, 2), (12, 0), (13, 0), (14, 0), (15, 0)] (by kernel_rfl) rfl rfl ?_
 refine gDe (by kernel_rfl) ?_
 refine gR 2 rfl ?_
 subst h
 refine ab (F' := (mkF 29 0 [(4, .bool false)])) (H' := ⟨0, []⟩) [] [] rfl hK ⟨⟨_, rfl, .rfl⟩, trivial⟩ trivial rfl ?_
 exact ae aa (rs := [.tmp 4]) rfl rfl rfl
def d4 (m : Nat) (t0_1 : Tree) (n0_3 : Int) (r0_5 : GDatum) (n0_6 : Int) (n0_7 : Int) (r0 : Bool) : Prop := ∀ (K : Ctx), aC K [] → Go Tryz.prog K (bodyPost Tryz.prog Tryz.f13 (SP K (fun u _ => u = .bool r0))) (.ex .normal) [.seq (cB (cB (cB (ai Tryz.f13))))] 60 (mkF 60 0 [(1, .ptr 0 0), (3, .int .i64 n0_3), (4, .ptr 1 0), (5, .int .i64 n0_6), (6, .int .i64 n0_7)]) ⟨2, [(1, .var 24 (GDatum.c r0_5)), (0, .var 35 (cR t0_1))]⟩
def dZ (m : Nat) (n0_3 : Int) (r0_5 : GDatum) (n0_6 : Int) (n0_7 : Int) (n1_3 : Int) (n1_4 : Int) (r0 : Bool) : Prop := ∀ (K : Ctx), aC K [] → Go Tryz.prog K (bodyPost Tryz.prog Tryz.f13 (SP K (fun u _ => u = .bool r0))) (.ex .normal) [.seq (cB (cB (cB (cB (ai Tryz.f13)))))] 60 (mkF 60 0 [(3, .int .i64 n0_3), (4, .ptr 0 0), (5, .int .i64 n0_6), (6, .int .i64 n0_7), (8, .int .i64 n1_3), (9, .int .i64 n1_4)]) ⟨1, [(0, .var 24 (GDatum.c r0_5))]⟩
theorem hI (m : Nat) (r0 : Bool) (h : ∃ (t0_1 : Tree), ∃ (n0_2 : Int), ∃ (n0_3 : Int), kb [109, 111, 100, 117, 108, 101, 32, 77, 32, 100, 101, 102, 32, 102, 40, 110, 58, 32, 73, 110, 116, 41, 58, 32, 73, 110, 116, 32, 61, 32, 105, 102, 32, 110, 32, 60, 32, 49, 32, 116, 104, 101, 110, 32, 48, 32, 101, 108, 115, 101, 32, 110, 32, 43, 32, 102, 40, 110, 32, 45, 32, 49, 41] t0_1 n0_2 n0_3 ∧ ∃ (r0_4 : GDatum), bu 2 r0_4 ∧ ∃ (r0_5 : GDatum), ∃ (n0_6 : Int), ∃ (n0_7 : Int), f7 [t0_1] 0 0 [r0_4] 100 r0_5 n0_6 n0_7 ∧ d4 m t0_1 n0_3 r0_5 n0_6 n0_7 r0) : eo r0 := by
 refine ⟨rfl, rfl, ?_⟩
 refine ak 60 [] Tryz.func13 rfl rfl rfl (av rfl) fun K hK => ?_
 refine gR 7 rfl ?_
 obtain ⟨t0_1, n0_2, n0_3, hs61, h⟩ := h
 refine gC0 hs61 (by kernel_rfl) rfl rfl .rfl rfl ?_
 refine gR 11 rfl ?_
 refine gDs [0] 10 13 rfl (by kernel_rfl) (by kernel_rfl) ?_
 refine gDr [(0, 3)] (by kernel_rfl) rfl rfl ?_
 obtain ⟨r0_4, hs62, h⟩ := h
 apply kY (i := 1) (j := 2) (l := 9) (by kernel_rfl) rfl rfl rfl rfl rfl rfl
 exact (al aa rfl rfl)
 exact (aU (L' := [0]) (by kernel_rfl) rfl rfl (di hs62 .rfl [0] rfl) (.inl rfl))
 exact (al aa rfl rfl)
 refine gHR 1 (kidsV [t0_1]) rfl (dp t0_1) rfl ?_
 apply aD (i := 2) (j := 9) (by kernel_rfl) rfl rfl rfl rfl
 exact (aU (L' := [0]) (by kernel_rfl) rfl rfl (di hs62 .rfl [0] rfl) (.inl rfl))
 exact (al aa rfl rfl)
 apply aD (i := 3) (j := 9) (by kernel_rfl) rfl rfl rfl rfl
 exact (al aa rfl rfl)
 exact (al aa rfl rfl)
 refine gHR 2 (GDatum.vs [r0_4]) rfl (GDatum.vone r0_4) rfl ?_
 refine gFR 1 rfl (bt _) rfl rfl ?_
 refine gFR 2 rfl (GDatum.vpure _) rfl rfl ?_
 obtain ⟨r0_5, n0_6, n0_7, hs63, h⟩ := h
 apply aD (i := 4) (j := 9) (by kernel_rfl) rfl rfl rfl rfl
 exact (aU (L' := [0]) (by kernel_rfl) rfl rfl (di hs63 .rfl [0] rfl) (.inl rfl))
 exact (al aa rfl rfl)
 refine gDr [(5, 2), (6, 2), (7, 2), (8, 2), (9, 0), (10, 1), (11, 1), (12, 1)] (by kernel_rfl) rfl rfl ?_
 refine gDe (by kernel_rfl) ?_
 exact gJ (h K hK) [0, 3] [] rfl hK ⟨⟨_, rfl, .rfl⟩, ⟨_, rfl, .rfl⟩, ⟨_, rfl, .rfl⟩, ⟨_, rfl, .rfl⟩, ⟨_, rfl, .rfl⟩, trivial⟩ ⟨⟨_, rfl, ⟨rfl, ac.rfl⟩⟩, ⟨⟨_, rfl, ⟨rfl, ac.rfl⟩⟩, trivial⟩⟩ rfl
 refine aL 4 hs63 (by kernel_rfl) rfl (by kernel_rfl) rfl rfl .rfl rfl rfl ?_
 refine gDr [(5, 0), (6, 2), (7, 2), (8, 2), (10, 1), (11, 1), (12, 1)] (by kernel_rfl) rfl rfl ?_
 refine gDe (by kernel_rfl) ?_
 exact gJ (h K hK) [0, 3] [] rfl hK ⟨⟨_, rfl, .rfl⟩, ⟨_, rfl, .rfl⟩, ⟨_, rfl, .rfl⟩, ⟨_, rfl, .rfl⟩, ⟨_, rfl, .rfl⟩, trivial⟩ ⟨⟨_, rfl, ⟨rfl, ac.rfl⟩⟩, ⟨⟨_, rfl, ⟨rfl, ac.rfl⟩⟩, trivial⟩⟩ rfl
 refine gDr [(3, 0)] (by kernel_rfl) rfl rfl ?_
 refine gHR 3 (GDatum.vs [r0_4]) rfl (GDatum.vone r0_4) rfl ?_
 refine gFR 1 rfl (bt _) rfl rfl ?_
 refine gFR 3 rfl (GDatum.vpure _) rfl rfl ?_
 obtain ⟨r0_5, n0_6, n0_7, hs64, h⟩ := h
 refine aL 4 hs64 (by kernel_rfl) rfl (by kernel_rfl) rfl rfl .rfl rfl rfl ?_
 refine gDr [(5, 0), (6, 2), (7, 2), (8, 2), (10, 1), (11, 1), (12, 1)] (by kernel_rfl) rfl rfl ?_
 refine gDe (by kernel_rfl) ?_
 exact gJ (h K hK) [0, 2] [] rfl hK ⟨⟨_, rfl, .rfl⟩, ⟨_, rfl, .rfl⟩, ⟨_, rfl, .rfl⟩, ⟨_, rfl, .rfl⟩, ⟨_, rfl, .rfl⟩, trivial⟩ ⟨⟨_, rfl, ⟨rfl, ac.rfl⟩⟩, ⟨⟨_, rfl, ⟨rfl, ac.rfl⟩⟩, trivial⟩⟩ rfl
 refine aL 2 hs62 (by kernel_rfl) rfl (by kernel_rfl) rfl rfl .rfl rfl rfl ?_
 refine gDr [(3, 0)] (by kernel_rfl) rfl rfl ?_
 refine gHR 3 (GDatum.vs [r0_4]) rfl (GDatum.vone r0_4) rfl ?_
 refine gFR 1 rfl (bt _) rfl rfl ?_
 refine gFR 3 rfl (GDatum.vpure _) rfl rfl ?_
 obtain ⟨r0_5, n0_6, n0_7, hs65, h⟩ := h
 refine aL 4 hs65 (by kernel_rfl) rfl (by kernel_rfl) rfl rfl .rfl rfl rfl ?_
 refine gDr [(5, 0), (6, 2), (7, 2), (8, 2), (10, 1), (11, 1), (12, 1)] (by kernel_rfl) rfl rfl ?_
 refine gDe (by kernel_rfl) ?_
 exact gJ (h K hK) [0, 2] [] rfl hK ⟨⟨_, rfl, .rfl⟩, ⟨_, rfl, .rfl⟩, ⟨_, rfl, .rfl⟩, ⟨_, rfl, .rfl⟩, ⟨_, rfl, .rfl⟩, trivial⟩ ⟨⟨_, rfl, ⟨rfl, ac.rfl⟩⟩, ⟨⟨_, rfl, ⟨rfl, ac.rfl⟩⟩, trivial⟩⟩ rfl
 apply kY (i := 1) (j := 3) (l := 9) (by kernel_rfl) rfl rfl rfl rfl rfl rfl
 exact (al aa rfl rfl)
 exact (al aa rfl rfl)
 exact (al aa rfl rfl)
 refine gHR 1 (kidsV [t0_1]) rfl (dp t0_1) rfl ?_
 apply aD (i := 3) (j := 9) (by kernel_rfl) rfl rfl rfl rfl
 exact (al aa rfl rfl)
 exact (al aa rfl rfl)
 refine gHR 2 (GDatum.vs [r0_4]) rfl (GDatum.vone r0_4) rfl ?_
 refine gFR 1 rfl (bt _) rfl rfl ?_
 refine gFR 2 rfl (GDatum.vpure _) rfl rfl ?_
 obtain ⟨r0_5, n0_6, n0_7, hs66, h⟩ := h
 apply aD (i := 4) (j := 9) (by kernel_rfl) rfl rfl rfl rfl
 exact (aU (L' := [0]) (by kernel_rfl) rfl rfl (di hs66 .rfl [0] rfl) (.inl rfl))
 exact (al aa rfl rfl)
 refine gDr [(5, 2), (6, 2), (7, 2), (8, 2), (9, 0), (10, 1), (11, 1), (12, 1)] (by kernel_rfl) rfl rfl ?_
 refine gDe (by kernel_rfl) ?_
 exact gJ (h K hK) [0, 3] [] rfl hK ⟨⟨_, rfl, .rfl⟩, ⟨_, rfl, .rfl⟩, ⟨_, rfl, .rfl⟩, ⟨_, rfl, .rfl⟩, ⟨_, rfl, .rfl⟩, trivial⟩ ⟨⟨_, rfl, ⟨rfl, ac.rfl⟩⟩, ⟨⟨_, rfl, ⟨rfl, ac.rfl⟩⟩, trivial⟩⟩ rfl
 refine aL 4 hs66 (by kernel_rfl) rfl (by kernel_rfl) rfl rfl .rfl rfl rfl ?_
 refine gDr [(5, 0), (6, 2), (7, 2), (8, 2), (10, 1), (11, 1), (12, 1)] (by kernel_rfl) rfl rfl ?_
 refine gDe (by kernel_rfl) ?_
 exact gJ (h K hK) [0, 3] [] rfl hK ⟨⟨_, rfl, .rfl⟩, ⟨_, rfl, .rfl⟩, ⟨_, rfl, .rfl⟩, ⟨_, rfl, .rfl⟩, ⟨_, rfl, .rfl⟩, trivial⟩ ⟨⟨_, rfl, ⟨rfl, ac.rfl⟩⟩, ⟨⟨_, rfl, ⟨rfl, ac.rfl⟩⟩, trivial⟩⟩ rfl
 refine gDr [(3, 0)] (by kernel_rfl) rfl rfl ?_
 refine gHR 3 (GDatum.vs [r0_4]) rfl (GDatum.vone r0_4) rfl ?_
 refine gFR 1 rfl (bt _) rfl rfl ?_
 refine gFR 3 rfl (GDatum.vpure _) rfl rfl ?_
 obtain ⟨r0_5, n0_6, n0_7, hs67, h⟩ := h
 refine aL 4 hs67 (by kernel_rfl) rfl (by kernel_rfl) rfl rfl .rfl rfl rfl ?_
 refine gDr [(5, 0), (6, 2), (7, 2), (8, 2), (10, 1), (11, 1), (12, 1)] (by kernel_rfl) rfl rfl ?_
 refine gDe (by kernel_rfl) ?_
 exact gJ (h K hK) [0, 2] [] rfl hK ⟨⟨_, rfl, .rfl⟩, ⟨_, rfl, .rfl⟩, ⟨_, rfl, .rfl⟩, ⟨_, rfl, .rfl⟩, ⟨_, rfl, .rfl⟩, trivial⟩ ⟨⟨_, rfl, ⟨rfl, ac.rfl⟩⟩, ⟨⟨_, rfl, ⟨rfl, ac.rfl⟩⟩, trivial⟩⟩ rfl
 refine gHR 1 (GDatum.vs [r0_4]) rfl (GDatum.vone r0_4) rfl ?_
 apply aD (i := 1) (j := 9) (by kernel_rfl) rfl rfl rfl rfl
 exact (al aa rfl rfl)
 exact (al aa rfl rfl)
 refine gHR 2 (kidsV [t0_1]) rfl (dp t0_1) rfl ?_
 refine gFR 2 rfl (bt _) rfl rfl ?_
 refine gFR 1 rfl (GDatum.vpure _) rfl rfl ?_
 obtain ⟨r0_5, n0_6, n0_7, hs68, h⟩ := h
 apply aD (i := 4) (j := 9) (by kernel_rfl) rfl rfl rfl rfl
 exact (aU (L' := [0]) (by kernel_rfl) rfl rfl (di hs68 .rfl [0] rfl) (.inl rfl))
 exact (al aa rfl rfl)
 refine gDr [(5, 2), (6, 2), (7, 2), (8, 2), (9, 0), (10, 1), (11, 1), (12, 1)] (by kernel_rfl) rfl rfl ?_
 refine gDe (by kernel_rfl) ?_
 exact gJ (h K hK) [0, 3] [] rfl hK ⟨⟨_, rfl, .rfl⟩, ⟨_, rfl, .rfl⟩, ⟨_, rfl, .rfl⟩, ⟨_, rfl, .rfl⟩, ⟨_, rfl, .rfl⟩, trivial⟩ ⟨⟨_, rfl, ⟨rfl, ac.rfl⟩⟩, ⟨⟨_, rfl, ⟨rfl, ac.rfl⟩⟩, trivial⟩⟩ rfl
 refine aL 4 hs68 (by kernel_rfl) rfl (by kernel_rfl) rfl rfl .rfl rfl rfl ?_
 refine gDr [(5, 0), (6, 2), (7, 2), (8, 2), (10, 1), (11, 1), (12, 1)] (by kernel_rfl) rfl rfl ?_
 refine gDe (by kernel_rfl) ?_
 exact gJ (h K hK) [0, 3] [] rfl hK ⟨⟨_, rfl, .rfl⟩, ⟨_, rfl, .rfl⟩, ⟨_, rfl, .rfl⟩, ⟨_, rfl, .rfl⟩, ⟨_, rfl, .rfl⟩, trivial⟩ ⟨⟨_, rfl, ⟨rfl, ac.rfl⟩⟩, ⟨⟨_, rfl, ⟨rfl, ac.rfl⟩⟩, trivial⟩⟩ rfl
 refine gDr [(1, 0)] (by kernel_rfl) rfl rfl ?_
 refine gHR 3 (kidsV [t0_1]) rfl (dp t0_1) rfl ?_
 refine gFR 3 rfl (bt _) rfl rfl ?_
 refine gFR 1 rfl (GDatum.vpure _) rfl rfl ?_
 obtain ⟨r0_5, n0_6, n0_7, hs69, h⟩ := h
 refine aL 4 hs69 (by kernel_rfl) rfl (by kernel_rfl) rfl rfl .rfl rfl rfl ?_
 refine gDr [(5, 0), (6, 2), (7, 2), (8, 2), (10, 1), (11, 1), (12, 1)] (by kernel_rfl) rfl rfl ?_
 refine gDe (by kernel_rfl) ?_
 exact gJ (h K hK) [0, 2] [] rfl hK ⟨⟨_, rfl, .rfl⟩, ⟨_, rfl, .rfl⟩, ⟨_, rfl, .rfl⟩, ⟨_, rfl, .rfl⟩, ⟨_, rfl, .rfl⟩, trivial⟩ ⟨⟨_, rfl, ⟨rfl, ac.rfl⟩⟩, ⟨⟨_, rfl, ⟨rfl, ac.rfl⟩⟩, trivial⟩⟩ rfl
 apply aD (i := 1) (j := 3) (by kernel_rfl) rfl rfl rfl rfl
 exact (al aa rfl rfl)
 exact (al aa rfl rfl)
 refine gHR 2 (kidsV [t0_1]) rfl (dp t0_1) rfl ?_
 refine gDr [(3, 0)] (by kernel_rfl) rfl rfl ?_
 refine gHR 3 (GDatum.vs [r0_4]) rfl (GDatum.vone r0_4) rfl ?_
 refine gFR 2 rfl (bt _) rfl rfl ?_
 refine gFR 3 rfl (GDatum.vpure _) rfl rfl ?_
 obtain ⟨r0_5, n0_6, n0_7, hs70, h⟩ := h
 refine aL 4 hs70 (by kernel_rfl) rfl (by kernel_rfl) rfl rfl .rfl rfl rfl ?_
 refine gDr [(5, 0), (6, 2), (7, 2), (8, 2), (10, 1), (11, 1), (12, 1)] (by kernel_rfl) rfl rfl ?_
 refine gDe (by kernel_rfl) ?_
 exact gJ (h K hK) [0, 1] [] rfl hK ⟨⟨_, rfl, .rfl⟩, ⟨_, rfl, .rfl⟩, ⟨_, rfl, .rfl⟩, ⟨_, rfl, .rfl⟩, ⟨_, rfl, .rfl⟩, trivial⟩ ⟨⟨_, rfl, ⟨rfl, ac.rfl⟩⟩, ⟨⟨_, rfl, ⟨rfl, ac.rfl⟩⟩, trivial⟩⟩ rfl
 refine gHR 2 (GDatum.vs [r0_4]) rfl (GDatum.vone r0_4) rfl ?_
 refine gDr [(1, 0)] (by kernel_rfl) rfl rfl ?_
 refine gHR 3 (kidsV [t0_1]) rfl (dp t0_1) rfl ?_
 refine gFR 3 rfl (bt _) rfl rfl ?_
 refine gFR 2 rfl (GDatum.vpure _) rfl rfl ?_
 obtain ⟨r0_5, n0_6, n0_7, hs71, h⟩ := h
 refine aL 4 hs71 (by kernel_rfl) rfl (by kernel_rfl) rfl rfl .rfl rfl rfl ?_
 refine gDr [(5, 0), (6, 2), (7, 2), (8, 2), (10, 1), (11, 1), (12, 1)] (by kernel_rfl) rfl rfl ?_
 refine gDe (by kernel_rfl) ?_
 exact gJ (h K hK) [0, 1] [] rfl hK ⟨⟨_, rfl, .rfl⟩, ⟨_, rfl, .rfl⟩, ⟨_, rfl, .rfl⟩, ⟨_, rfl, .rfl⟩, ⟨_, rfl, .rfl⟩, trivial⟩ ⟨⟨_, rfl, ⟨rfl, ac.rfl⟩⟩, ⟨⟨_, rfl, ⟨rfl, ac.rfl⟩⟩, trivial⟩⟩ rfl
 apply aD (i := 1) (j := 2) (by kernel_rfl) rfl rfl rfl rfl
 exact (al aa rfl rfl)
 exact (aU (L' := [0]) (by kernel_rfl) rfl rfl (di hs62 .rfl [0] rfl) (.inl rfl))
 refine gHR 2 (kidsV [t0_1]) rfl (dp t0_1) rfl ?_
 refine aL 2 hs62 (by kernel_rfl) rfl (by kernel_rfl) rfl rfl .rfl rfl rfl ?_
 refine gDr [(3, 0)] (by kernel_rfl) rfl rfl ?_
 refine gHR 3 (GDatum.vs [r0_4]) rfl (GDatum.vone r0_4) rfl ?_
 refine gFR 2 rfl (bt _) rfl rfl ?_
 refine gFR 3 rfl (GDatum.vpure _) rfl rfl ?_
 obtain ⟨r0_5, n0_6, n0_7, hs72, h⟩ := h
 refine aL 4 hs72 (by kernel_rfl) rfl (by kernel_rfl) rfl rfl .rfl rfl rfl ?_
 refine gDr [(5, 0), (6, 2), (7, 2), (8, 2), (10, 1), (11, 1), (12, 1)] (by kernel_rfl) rfl rfl ?_
 refine gDe (by kernel_rfl) ?_
 exact gJ (h K hK) [0, 1] [] rfl hK ⟨⟨_, rfl, .rfl⟩, ⟨_, rfl, .rfl⟩, ⟨_, rfl, .rfl⟩, ⟨_, rfl, .rfl⟩, ⟨_, rfl, .rfl⟩, trivial⟩ ⟨⟨_, rfl, ⟨rfl, ac.rfl⟩⟩, ⟨⟨_, rfl, ⟨rfl, ac.rfl⟩⟩, trivial⟩⟩ rfl
 apply aD (i := 1) (j := 3) (by kernel_rfl) rfl rfl rfl rfl
 exact (al aa rfl rfl)
 exact (al aa rfl rfl)
 refine gHR 2 (kidsV [t0_1]) rfl (dp t0_1) rfl ?_
 refine gDr [(3, 0)] (by kernel_rfl) rfl rfl ?_
 refine gHR 3 (GDatum.vs [r0_4]) rfl (GDatum.vone r0_4) rfl ?_
 refine gFR 2 rfl (bt _) rfl rfl ?_
 refine gFR 3 rfl (GDatum.vpure _) rfl rfl ?_
 obtain ⟨r0_5, n0_6, n0_7, hs73, h⟩ := h
 refine aL 4 hs73 (by kernel_rfl) rfl (by kernel_rfl) rfl rfl .rfl rfl rfl ?_
 refine gDr [(5, 0), (6, 2), (7, 2), (8, 2), (10, 1), (11, 1), (12, 1)] (by kernel_rfl) rfl rfl ?_
 refine gDe (by kernel_rfl) ?_
 exact gJ (h K hK) [0, 1] [] rfl hK ⟨⟨_, rfl, .rfl⟩, ⟨_, rfl, .rfl⟩, ⟨_, rfl, .rfl⟩, ⟨_, rfl, .rfl⟩, ⟨_, rfl, .rfl⟩, trivial⟩ ⟨⟨_, rfl, ⟨rfl, ac.rfl⟩⟩, ⟨⟨_, rfl, ⟨rfl, ac.rfl⟩⟩, trivial⟩⟩ rfl
 refine gHR 2 (GDatum.vs [r0_4]) rfl (GDatum.vone r0_4) rfl ?_
 refine gDr [(1, 0)] (by kernel_rfl) rfl rfl ?_
 refine gHR 3 (kidsV [t0_1]) rfl (dp t0_1) rfl ?_
 refine gFR 3 rfl (bt _) rfl rfl ?_
 refine gFR 2 rfl (GDatum.vpure _) rfl rfl ?_
 obtain ⟨r0_5, n0_6, n0_7, hs74, h⟩ := h
 refine aL 4 hs74 (by kernel_rfl) rfl (by kernel_rfl) rfl rfl .rfl rfl rfl ?_
 refine gDr [(5, 0), (6, 2), (7, 2), (8, 2), (10, 1), (11, 1), (12, 1)] (by kernel_rfl) rfl rfl ?_
 refine gDe (by kernel_rfl) ?_
 exact gJ (h K hK) [0, 1] [] rfl hK ⟨⟨_, rfl, .rfl⟩, ⟨_, rfl, .rfl⟩, ⟨_, rfl, .rfl⟩, ⟨_, rfl, .rfl⟩, ⟨_, rfl, .rfl⟩, trivial⟩ ⟨⟨_, rfl, ⟨rfl, ac.rfl⟩⟩, ⟨⟨_, rfl, ⟨rfl, ac.rfl⟩⟩, trivial⟩⟩ rfl
theorem gI (m : Nat) (t0_1 : Tree) (n0_3 : Int) (r0_5 : GDatum) (n0_6 : Int) (n0_7 : Int) (r0 : Bool) (h : ∃ (r1_1 : GDatum), bu 2 r1_1 ∧ ∃ (r1_2 : GDatum), ∃ (n1_3 : Int), ∃ (n1_4 : Int), f7 [t0_1] 0 0 [r1_1] 5 r1_2 n1_3 n1_4 ∧ dZ m n0_3 r0_5 n0_6 n0_7 n1_3 n1_4 r0) : d4 (m + 1) t0_1 n0_3 r0_5 n0_6 n0_7 r0 := by
 intro K hK
 refine gR 2 rfl ?_
 refine gDs [0] 10 13 rfl (by kernel_rfl) (by kernel_rfl) ?_
 refine gDr [(0, 3)] (by kernel_rfl) rfl rfl ?_
 obtain ⟨r1_1, hs75, h⟩ := h
 apply kY (i := 1) (j := 2) (l := 9) (by kernel_rfl) rfl rfl rfl rfl rfl rfl
 exact (al aa rfl rfl)
 exact (aU (L' := [0]) (by kernel_rfl) rfl rfl (di hs75 .rfl [0] rfl) (.inl rfl))
 exact (al aa rfl rfl)
 refine gHR 2 (kidsV [t0_1]) rfl (dp t0_1) rfl ?_
 apply aD (i := 2) (j := 9) (by kernel_rfl) rfl rfl rfl rfl
 exact (aU (L' := [0]) (by kernel_rfl) rfl rfl (di hs75 .rfl [0] rfl) (.inl rfl))
 exact (al aa rfl rfl)
 apply aD (i := 3) (j := 9) (by kernel_rfl) rfl rfl rfl rfl
 exact (al aa rfl rfl)
 exact (al aa rfl rfl)
 refine gHR 3 (GDatum.vs [r1_1]) rfl (GDatum.vone r1_1) rfl ?_
 refine gFR 2 rfl (bt _) rfl rfl ?_
 refine gFR 3 rfl (GDatum.vpure _) rfl rfl ?_
 obtain ⟨r1_2, n1_3, n1_4, hs76, h⟩ := h
 apply aD (i := 4) (j := 9) (by kernel_rfl) rfl rfl rfl rfl
 exact (aU (L' := [0]) (by kernel_rfl) rfl rfl (di hs76 .rfl [0] rfl) (.inl rfl))
 exact (al aa rfl rfl)
 refine gDr [(5, 2), (6, 2), (7, 2), (8, 2), (9, 0), (10, 1), (11, 1), (12, 1)] (by kernel_rfl) rfl rfl ?_
 refine gDe (by kernel_rfl) ?_
 exact gJ (h K hK) [1] [] rfl hK ⟨⟨_, rfl, .rfl⟩, ⟨_, rfl, .rfl⟩, ⟨_, rfl, .rfl⟩, ⟨_, rfl, .rfl⟩, ⟨_, rfl, .rfl⟩, ⟨_, rfl, .rfl⟩, trivial⟩ ⟨⟨_, rfl, ⟨rfl, ac.rfl⟩⟩, trivial⟩ rfl
 refine aL 4 hs76 (by kernel_rfl) rfl (by kernel_rfl) rfl rfl .rfl rfl rfl ?_
 refine gDr [(5, 0), (6, 2), (7, 2), (8, 2), (10, 1), (11, 1), (12, 1)] (by kernel_rfl) rfl rfl ?_
 refine gDe (by kernel_rfl) ?_
 exact gJ (h K hK) [1] [] rfl hK ⟨⟨_, rfl, .rfl⟩, ⟨_, rfl, .rfl⟩, ⟨_, rfl, .rfl⟩, ⟨_, rfl, .rfl⟩, ⟨_, rfl, .rfl⟩, ⟨_, rfl, .rfl⟩, trivial⟩ ⟨⟨_, rfl, ⟨rfl, ac.rfl⟩⟩, trivial⟩ rfl
 refine gDr [(3, 0)] (by kernel_rfl) rfl rfl ?_
 refine gHR 4 (GDatum.vs [r1_1]) rfl (GDatum.vone r1_1) rfl ?_
 refine gFR 2 rfl (bt _) rfl rfl ?_
 refine gFR 4 rfl (GDatum.vpure _) rfl rfl ?_
 obtain ⟨r1_2, n1_3, n1_4, hs77, h⟩ := h
 refine aL 4 hs77 (by kernel_rfl) rfl (by kernel_rfl) rfl rfl .rfl rfl rfl ?_
 refine gDr [(5, 0), (6, 2), (7, 2), (8, 2), (10, 1), (11, 1), (12, 1)] (by kernel_rfl) rfl rfl ?_
 refine gDe (by kernel_rfl) ?_
 exact gJ (h K hK) [1] [] rfl hK ⟨⟨_, rfl, .rfl⟩, ⟨_, rfl, .rfl⟩, ⟨_, rfl, .rfl⟩, ⟨_, rfl, .rfl⟩, ⟨_, rfl, .rfl⟩, ⟨_, rfl, .rfl⟩, trivial⟩ ⟨⟨_, rfl, ⟨rfl, ac.rfl⟩⟩, trivial⟩ rfl
 refine aL 2 hs75 (by kernel_rfl) rfl (by kernel_rfl) rfl rfl .rfl rfl rfl ?_
 refine gDr [(3, 0)] (by kernel_rfl) rfl rfl ?_
 refine gHR 4 (GDatum.vs [r1_1]) rfl (GDatum.vone r1_1) rfl ?_
 refine gFR 2 rfl (bt _) rfl rfl ?_
 refine gFR 4 rfl (GDatum.vpure _) rfl rfl ?_
 obtain ⟨r1_2, n1_3, n1_4, hs78, h⟩ := h
 refine aL 4 hs78 (by kernel_rfl) rfl (by kernel_rfl) rfl rfl .rfl rfl rfl ?_
 refine gDr [(5, 0), (6, 2), (7, 2), (8, 2), (10, 1), (11, 1), (12, 1)] (by kernel_rfl) rfl rfl ?_
 refine gDe (by kernel_rfl) ?_
 exact gJ (h K hK) [1] [] rfl hK ⟨⟨_, rfl, .rfl⟩, ⟨_, rfl, .rfl⟩, ⟨_, rfl, .rfl⟩, ⟨_, rfl, .rfl⟩, ⟨_, rfl, .rfl⟩, ⟨_, rfl, .rfl⟩, trivial⟩ ⟨⟨_, rfl, ⟨rfl, ac.rfl⟩⟩, trivial⟩ rfl
 apply kY (i := 1) (j := 3) (l := 9) (by kernel_rfl) rfl rfl rfl rfl rfl rfl
 exact (al aa rfl rfl)
 exact (al aa rfl rfl)
 exact (al aa rfl rfl)
 refine gHR 2 (kidsV [t0_1]) rfl (dp t0_1) rfl ?_
 apply aD (i := 3) (j := 9) (by kernel_rfl) rfl rfl rfl rfl
 exact (al aa rfl rfl)
 exact (al aa rfl rfl)
 refine gHR 3 (GDatum.vs [r1_1]) rfl (GDatum.vone r1_1) rfl ?_
 refine gFR 2 rfl (bt _) rfl rfl ?_
 refine gFR 3 rfl (GDatum.vpure _) rfl rfl ?_
 obtain ⟨r1_2, n1_3, n1_4, hs79, h⟩ := h
 apply aD (i := 4) (j := 9) (by kernel_rfl) rfl rfl rfl rfl
 exact (aU (L' := [0]) (by kernel_rfl) rfl rfl (di hs79 .rfl [0] rfl) (.inl rfl))
 exact (al aa rfl rfl)
 refine gDr [(5, 2), (6, 2), (7, 2), (8, 2), (9, 0), (10, 1), (11, 1), (12, 1)] (by kernel_rfl) rfl rfl ?_
 refine gDe (by kernel_rfl) ?_
 exact gJ (h K hK) [1] [] rfl hK ⟨⟨_, rfl, .rfl⟩, ⟨_, rfl, .rfl⟩, ⟨_, rfl, .rfl⟩, ⟨_, rfl, .rfl⟩, ⟨_, rfl, .rfl⟩, ⟨_, rfl, .rfl⟩, trivial⟩ ⟨⟨_, rfl, ⟨rfl, ac.rfl⟩⟩, trivial⟩ rfl
 refine aL 4 hs79 (by kernel_rfl) rfl (by kernel_rfl) rfl rfl .rfl rfl rfl ?_
 refine gDr [(5, 0), (6, 2), (7, 2), (8, 2), (10, 1), (11, 1), (12, 1)] (by kernel_rfl) rfl rfl ?_
 refine gDe (by kernel_rfl) ?_
 exact gJ (h K hK) [1] [] rfl hK ⟨⟨_, rfl, .rfl⟩, ⟨_, rfl, .rfl⟩, ⟨_, rfl, .rfl⟩, ⟨_, rfl, .rfl⟩, ⟨_, rfl, .rfl⟩, ⟨_, rfl, .rfl⟩, trivial⟩ ⟨⟨_, rfl, ⟨rfl, ac.rfl⟩⟩, trivial⟩ rfl
 refine gDr [(3, 0)] (by kernel_rfl) rfl rfl ?_
 refine gHR 4 (GDatum.vs [r1_1]) rfl (GDatum.vone r1_1) rfl ?_
 refine gFR 2 rfl (bt _) rfl rfl ?_
 refine gFR 4 rfl (GDatum.vpure _) rfl rfl ?_
 obtain ⟨r1_2, n1_3, n1_4, hs80, h⟩ := h
 refine aL 4 hs80 (by kernel_rfl) rfl (by kernel_rfl) rfl rfl .rfl rfl rfl ?_
 refine gDr [(5, 0), (6, 2), (7, 2), (8, 2), (10, 1), (11, 1), (12, 1)] (by kernel_rfl) rfl rfl ?_
 refine gDe (by kernel_rfl) ?_
 exact gJ (h K hK) [1] [] rfl hK ⟨⟨_, rfl, .rfl⟩, ⟨_, rfl, .rfl⟩, ⟨_, rfl, .rfl⟩, ⟨_, rfl, .rfl⟩, ⟨_, rfl, .rfl⟩, ⟨_, rfl, .rfl⟩, trivial⟩ ⟨⟨_, rfl, ⟨rfl, ac.rfl⟩⟩, trivial⟩ rfl
 refine gHR 2 (GDatum.vs [r1_1]) rfl (GDatum.vone r1_1) rfl ?_
 apply aD (i := 1) (j := 9) (by kernel_rfl) rfl rfl rfl rfl
 exact (al aa rfl rfl)
 exact (al aa rfl rfl)
 refine gHR 3 (kidsV [t0_1]) rfl (dp t0_1) rfl ?_
 refine gFR 3 rfl (bt _) rfl rfl ?_
 refine gFR 2 rfl (GDatum.vpure _) rfl rfl ?_
 obtain ⟨r1_2, n1_3, n1_4, hs81, h⟩ := h
 apply aD (i := 4) (j := 9) (by kernel_rfl) rfl rfl rfl rfl
 exact (aU (L' := [0]) (by kernel_rfl) rfl rfl (di hs81 .rfl [0] rfl) (.inl rfl))
 exact (al aa rfl rfl)
 refine gDr [(5, 2), (6, 2), (7, 2), (8, 2), (9, 0), (10, 1), (11, 1), (12, 1)] (by kernel_rfl) rfl rfl ?_
 refine gDe (by kernel_rfl) ?_
 exact gJ (h K hK) [1] [] rfl hK ⟨⟨_, rfl, .rfl⟩, ⟨_, rfl, .rfl⟩, ⟨_, rfl, .rfl⟩, ⟨_, rfl, .rfl⟩, ⟨_, rfl, .rfl⟩, ⟨_, rfl, .rfl⟩, trivial⟩ ⟨⟨_, rfl, ⟨rfl, ac.rfl⟩⟩, trivial⟩ rfl
 refine aL 4 hs81 (by kernel_rfl) rfl (by kernel_rfl) rfl rfl .rfl rfl rfl ?_
 refine gDr [(5, 0), (6, 2), (7, 2), (8, 2), (10, 1), (11, 1), (12, 1)] (by kernel_rfl) rfl rfl ?_
 refine gDe (by kernel_rfl) ?_
 exact gJ (h K hK) [1] [] rfl hK ⟨⟨_, rfl, .rfl⟩, ⟨_, rfl, .rfl⟩, ⟨_, rfl, .rfl⟩, ⟨_, rfl, .rfl⟩, ⟨_, rfl, .rfl⟩, ⟨_, rfl, .rfl⟩, trivial⟩ ⟨⟨_, rfl, ⟨rfl, ac.rfl⟩⟩, trivial⟩ rfl
 refine gDr [(1, 0)] (by kernel_rfl) rfl rfl ?_
 refine gHR 4 (kidsV [t0_1]) rfl (dp t0_1) rfl ?_
 refine gFR 4 rfl (bt _) rfl rfl ?_
 refine gFR 2 rfl (GDatum.vpure _) rfl rfl ?_
 obtain ⟨r1_2, n1_3, n1_4, hs82, h⟩ := h
 refine aL 4 hs82 (by kernel_rfl) rfl (by kernel_rfl) rfl rfl .rfl rfl rfl ?_
 refine gDr [(5, 0), (6, 2), (7, 2), (8, 2), (10, 1), (11, 1), (12, 1)] (by kernel_rfl) rfl rfl ?_
 refine gDe (by kernel_rfl) ?_
 exact gJ (h K hK) [1] [] rfl hK ⟨⟨_, rfl, .rfl⟩, ⟨_, rfl, .rfl⟩, ⟨_, rfl, .rfl⟩, ⟨_, rfl, .rfl⟩, ⟨_, rfl, .rfl⟩, ⟨_, rfl, .rfl⟩, trivial⟩ ⟨⟨_, rfl, ⟨rfl, ac.rfl⟩⟩, trivial⟩ rfl
 apply aD (i := 1) (j := 3) (by kernel_rfl) rfl rfl rfl rfl
 exact (al aa rfl rfl)
 exact (al aa rfl rfl)
 refine gHR 3 (kidsV [t0_1]) rfl (dp t0_1) rfl ?_
 refine gDr [(3, 0)] (by kernel_rfl) rfl rfl ?_
 refine gHR 4 (GDatum.vs [r1_1]) rfl (GDatum.vone r1_1) rfl ?_
 refine gFR 3 rfl (bt _) rfl rfl ?_
 refine gFR 4 rfl (GDatum.vpure _) rfl rfl ?_
 obtain ⟨r1_2, n1_3, n1_4, hs83, h⟩ := h
 refine aL 4 hs83 (by kernel_rfl) rfl (by kernel_rfl) rfl rfl .rfl rfl rfl ?_
 refine gDr [(5, 0), (6, 2), (7, 2), (8, 2), (10, 1), (11, 1), (12, 1)] (by kernel_rfl) rfl rfl ?_
 refine gDe (by kernel_rfl) ?_
 exact gJ (h K hK) [1] [] rfl hK ⟨⟨_, rfl, .rfl⟩, ⟨_, rfl, .rfl⟩, ⟨_, rfl, .rfl⟩, ⟨_, rfl, .rfl⟩, ⟨_, rfl, .rfl⟩, ⟨_, rfl, .rfl⟩, trivial⟩ ⟨⟨_, rfl, ⟨rfl, ac.rfl⟩⟩, trivial⟩ rfl
 refine gHR 3 (GDatum.vs [r1_1]) rfl (GDatum.vone r1_1) rfl ?_
 refine gDr [(1, 0)] (by kernel_rfl) rfl rfl ?_
 refine gHR 4 (kidsV [t0_1]) rfl (dp t0_1) rfl ?_
 refine gFR 4 rfl (bt _) rfl rfl ?_
 refine gFR 3 rfl (GDatum.vpure _) rfl rfl ?_
 obtain ⟨r1_2, n1_3, n1_4, hs84, h⟩ := h
 refine aL 4 hs84 (by kernel_rfl) rfl (by kernel_rfl) rfl rfl .rfl rfl rfl ?_
 refine gDr [(5, 0), (6, 2), (7, 2), (8, 2), (10, 1), (11, 1), (12, 1)] (by kernel_rfl) rfl rfl ?_
 refine gDe (by kernel_rfl) ?_
 exact gJ (h K hK) [1] [] rfl hK ⟨⟨_, rfl, .rfl⟩, ⟨_, rfl, .rfl⟩, ⟨_, rfl, .rfl⟩, ⟨_, rfl, .rfl⟩, ⟨_, rfl, .rfl⟩, ⟨_, rfl, .rfl⟩, trivial⟩ ⟨⟨_, rfl, ⟨rfl, ac.rfl⟩⟩, trivial⟩ rfl
 apply aD (i := 1) (j := 2) (by kernel_rfl) rfl rfl rfl rfl
 exact (al aa rfl rfl)
 exact (aU (L' := [0]) (by kernel_rfl) rfl rfl (di hs75 .rfl [0] rfl) (.inl rfl))
 refine gHR 3 (kidsV [t0_1]) rfl (dp t0_1) rfl ?_
 refine aL 2 hs75 (by kernel_rfl) rfl (by kernel_rfl) rfl rfl .rfl rfl rfl ?_
 refine gDr [(3, 0)] (by kernel_rfl) rfl rfl ?_
 refine gHR 4 (GDatum.vs [r1_1]) rfl (GDatum.vone r1_1) rfl ?_
 refine gFR 3 rfl (bt _) rfl rfl ?_
 refine gFR 4 rfl (GDatum.vpure _) rfl rfl ?_
 obtain ⟨r1_2, n1_3, n1_4, hs85, h⟩ := h
 refine aL 4 hs85 (by kernel_rfl) rfl (by kernel_rfl) rfl rfl .rfl rfl rfl ?_
 refine gDr [(5, 0), (6, 2), (7, 2), (8, 2), (10, 1), (11, 1), (12, 1)] (by kernel_rfl) rfl rfl ?_
 refine gDe (by kernel_rfl) ?_
 exact gJ (h K hK) [1] [] rfl hK ⟨⟨_, rfl, .rfl⟩, ⟨_, rfl, .rfl⟩, ⟨_, rfl, .rfl⟩, ⟨_, rfl, .rfl⟩, ⟨_, rfl, .rfl⟩, ⟨_, rfl, .rfl⟩, trivial⟩ ⟨⟨_, rfl, ⟨rfl, ac.rfl⟩⟩, trivial⟩ rfl
 apply aD (i := 1) (j := 3) (by kernel_rfl) rfl rfl rfl rfl
 exact (al aa rfl rfl)
 exact (al aa rfl rfl)
 refine gHR 3 (kidsV [t0_1]) rfl (dp t0_1) rfl ?_
 refine gDr [(3, 0)] (by kernel_rfl) rfl rfl ?_
 refine gHR 4 (GDatum.vs [r1_1]) rfl (GDatum.vone r1_1) rfl ?_
 refine gFR 3 rfl (bt _) rfl rfl ?_
 refine gFR 4 rfl (GDatum.vpure _) rfl rfl ?_
 obtain ⟨r1_2, n1_3, n1_4, hs86, h⟩ := h
 refine aL 4 hs86 (by kernel_rfl) rfl (by kernel_rfl) rfl rfl .rfl rfl rfl ?_
 refine gDr [(5, 0), (6, 2), (7, 2), (8, 2), (10, 1), (11, 1), (12, 1)] (by kernel_rfl) rfl rfl ?_
 refine gDe (by kernel_rfl) ?_
 exact gJ (h K hK) [1] [] rfl hK ⟨⟨_, rfl, .rfl⟩, ⟨_, rfl, .rfl⟩, ⟨_, rfl, .rfl⟩, ⟨_, rfl, .rfl⟩, ⟨_, rfl, .rfl⟩, ⟨_, rfl, .rfl⟩, trivial⟩ ⟨⟨_, rfl, ⟨rfl, ac.rfl⟩⟩, trivial⟩ rfl
 refine gHR 3 (GDatum.vs [r1_1]) rfl (GDatum.vone r1_1) rfl ?_
 refine gDr [(1, 0)] (by kernel_rfl) rfl rfl ?_
 refine gHR 4 (kidsV [t0_1]) rfl (dp t0_1) rfl ?_
 refine gFR 4 rfl (bt _) rfl rfl ?_
 refine gFR 3 rfl (GDatum.vpure _) rfl rfl ?_
 obtain ⟨r1_2, n1_3, n1_4, hs87, h⟩ := h
 refine aL 4 hs87 (by kernel_rfl) rfl (by kernel_rfl) rfl rfl .rfl rfl rfl ?_
 refine gDr [(5, 0), (6, 2), (7, 2), (8, 2), (10, 1), (11, 1), (12, 1)] (by kernel_rfl) rfl rfl ?_
 refine gDe (by kernel_rfl) ?_
 exact gJ (h K hK) [1] [] rfl hK ⟨⟨_, rfl, .rfl⟩, ⟨_, rfl, .rfl⟩, ⟨_, rfl, .rfl⟩, ⟨_, rfl, .rfl⟩, ⟨_, rfl, .rfl⟩, ⟨_, rfl, .rfl⟩, trivial⟩ ⟨⟨_, rfl, ⟨rfl, ac.rfl⟩⟩, trivial⟩ rfl
theorem gH (m : Nat) (n0_3 : Int) (r0_5 : GDatum) (n0_6 : Int) (n0_7 : Int) (n1_3 : Int) (n1_4 : Int) (r0 : Bool) (h : ((n0_3 = 0) → ((n0_7 = 0) → ((n0_6 = 25) → ∃ (r2_1 : GDatum), bu 3 r2_1 ∧ ∃ (b2_2 : Bool), cP r0_5 r2_1 b2_2 ∧ ((b2_2 = true) → ((n1_4 = 21) → ((n1_3 = 5) → ∃ (b2_3 : Bool), dH r0_5 b2_3 ∧ b2_3 = r0) ∧ ((n1_3 ≠ 5) → false = r0)) ∧ ((n1_4 ≠ 21) → false = r0)) ∧ ((b2_2 = false) → false = r0)) ∧ ((n0_6 ≠ 25) → false = r0)) ∧ ((n0_7 ≠ 0) → false = r0)) ∧ ((n0_3 ≠ 0) → false = r0)) : dZ (m + 1) n0_3 r0_5 n0_6 n0_7 n1_3 n1_4 r0 := by
 intro K hK
 refine gR 2 rfl ?_
 refine gDs [0] 27 28 rfl (by kernel_rfl) (by kernel_rfl) ?_
 refine gDr [(0, 0), (1, 0), (2, 0)] (by kernel_rfl) rfl rfl ?_
 refine gB 35 rfl rfl rfl (fun hd => ?_) (fun hd => ?_)
 refine gT 34 rfl hd rfl ?_
 replace hd := (eq_of_beq hd)
 replace h := h.1 hd
 refine gDr [(3, 0), (4, 0), (5, 0), (6, 0)] (by kernel_rfl) rfl rfl ?_
 refine gB 39 rfl rfl rfl (fun hd => ?_) (fun hd => ?_)
 refine gT 38 rfl hd rfl ?_
 replace hd := (eq_of_beq hd)
 replace h := h.1 hd
 refine gDr [(7, 0), (8, 0), (9, 0), (10, 0)] (by kernel_rfl) rfl rfl ?_
 refine gB 43 rfl rfl rfl (fun hd => ?_) (fun hd => ?_)
 refine gT 42 rfl hd rfl ?_
 replace hd := (eq_of_beq hd)
 replace h := h.1 hd
 refine gDr [(11, 3)] (by kernel_rfl) rfl rfl ?_
 obtain ⟨r2_1, hs88, h⟩ := h
 refine aL 12 hs88 (by kernel_rfl) rfl (by kernel_rfl) rfl rfl .rfl rfl rfl ?_
 obtain ⟨b2_2, hs89, h⟩ := h
 refine aL 13 hs89 (by kernel_rfl) rfl (by kernel_rfl) rfl rfl .rfl rfl rfl ?_
 refine gDr [(14, 0), (15, 0)] (by kernel_rfl) rfl rfl ?_
 refine gB 48 rfl rfl rfl (fun hd => ?_) (fun hd => ?_)
 refine gT 47 rfl hd rfl ?_
 replace h := h.1 hd
 refine gDr [(16, 0), (17, 0), (18, 0), (19, 0)] (by kernel_rfl) rfl rfl ?_
 refine gB 52 rfl rfl rfl (fun hd => ?_) (fun hd => ?_)
 refine gT 51 rfl hd rfl ?_
 replace hd := (eq_of_beq hd)
 replace h := h.1 hd
 refine gDr [(20, 0), (21, 0), (22, 0), (23, 0)] (by kernel_rfl) rfl rfl ?_
 refine gB 56 rfl rfl rfl (fun hd => ?_) (fun hd => ?_)
 refine gT 55 rfl hd rfl ?_
 replace hd := (eq_of_beq hd)
 replace h := h.1 hd
 refine gDr [(24, 0)] (by kernel_rfl) rfl rfl ?_
 obtain ⟨b2_3, hs90, h⟩ := h
 refine aL 25 hs90 (by kernel_rfl) rfl (by kernel_rfl) rfl rfl .rfl rfl rfl ?_
 refine gDr [(26, 0), (27, 1)] (by kernel_rfl) rfl rfl ?_
 refine gDe (by kernel_rfl) ?_
 refine gR 2 rfl ?_
 subst h
 refine ab (F' := (mkF 60 0 [(0, .bool b2_3)])) (H' := ⟨0, []⟩) [] [] rfl hK ⟨⟨_, rfl, .rfl⟩, trivial⟩ trivial rfl ?_
 exact ae aa (rs := [.tmp 0]) rfl rfl rfl
 refine gF 55 rfl hd rfl ?_
 replace hd := (ne_of_beq_false hd)
 replace h := h.2 hd
 refine gDr [(24, 0), (25, 0), (26, 0), (27, 1)] (by kernel_rfl) rfl rfl ?_
 refine gDe (by kernel_rfl) ?_
 refine gR 2 rfl ?_
 subst h
 refine ab (F' := (mkF 60 0 [(0, .bool false)])) (H' := ⟨0, []⟩) [] [] rfl hK ⟨⟨_, rfl, .rfl⟩, trivial⟩ trivial rfl ?_
 exact ae aa (rs := [.tmp 0]) rfl rfl rfl
 refine gF 51 rfl hd rfl ?_
 replace hd := (ne_of_beq_false hd)
 replace h := h.2 hd
 refine gDr [(20, 0), (21, 0), (22, 0), (23, 0), (24, 0), (25, 0), (26, 0), (27, 1)] (by kernel_rfl) rfl rfl ?_
 refine gDe (by kernel_rfl) ?_
 refine gR 2 rfl ?_
 subst h
 refine ab (F' := (mkF 60 0 [(0, .bool false)])) (H' := ⟨0, []⟩) [] [] rfl hK ⟨⟨_, rfl, .rfl⟩, trivial⟩ trivial rfl ?_
 exact ae aa (rs := [.tmp 0]) rfl rfl rfl
 refine gF 47 rfl hd rfl ?_
 replace h := h.2 hd
 refine gDr [(16, 0), (17, 0), (18, 0), (19, 0), (20, 0), (21, 0), (22, 0), (23, 0), (24, 0), (25, 0), (26, 0), (27, 1)] (by kernel_rfl) rfl rfl ?_
 refine gDe (by kernel_rfl) ?_
 refine gR 2 rfl ?_
 subst h
 refine ab (F' := (mkF 60 0 [(0, .bool false)])) (H' := ⟨0, []⟩) [] [] rfl hK ⟨⟨_, rfl, .rfl⟩, trivial⟩ trivial rfl ?_
 exact ae aa (rs := [.tmp 0]) rfl rfl rfl
 refine gF 42 rfl hd rfl ?_
 replace hd := (ne_of_beq_false hd)
 replace h := h.2 hd
 refine gDr [(11, 2), (12, 0), (13, 0), (14, 0), (15, 0), (16, 0), (17, 0), (18, 0), (19, 0), (20, 0), (21, 0), (22, 0), (23, 0), (24, 0), (25, 0), (26, 0), (27, 1)] (by kernel_rfl) rfl rfl ?_
 refine gDe (by kernel_rfl) ?_
 refine gR 2 rfl ?_
 subst h
 refine ab (F' := (mkF 60 0 [(0, .bool false)])) (H' := ⟨0, []⟩) [] [] rfl hK ⟨⟨_, rfl, .rfl⟩, trivial⟩ trivial rfl ?_
 exact ae aa (rs := [.tmp 0]) rfl rfl rfl
 refine gF 38 rfl hd rfl ?_
 replace hd := (ne_of_beq_false hd)
 replace h := h.2 hd
 refine gDr [(7, 0), (8, 0), (9, 0), (10, 0), (11, 2), (12, 0), (13, 0), (14, 0), (15, 0), (16, 0), (17, 0), (18, 0), (19, 0), (20, 0), (21, 0), (22, 0), (23, 0), (24, 0), (25, 0), (26, 0), (27, 1)] (by kernel_rfl) rfl rfl ?_
 refine gDe (by kernel_rfl) ?_
 refine gR 2 rfl ?_
 subst h
 refine ab (F' := (mkF 60 0 [(0, .bool false)])) (H' := ⟨0, []⟩) [] [] rfl hK ⟨⟨_, rfl, .rfl⟩, trivial⟩ trivial rfl ?_
 exact ae aa (rs := [.tmp 0]) rfl rfl rfl
 refine gF 34 rfl hd rfl ?_
 replace hd := (ne_of_beq_false hd)
 replace h := h.2 hd
 refine gDr [(3, 0), (4, 0), (5, 0), (6, 0), (7, 0), (8, 0), (9, 0), (10, 0), (11, 2), (12, 0), (13, 0), (14, 0), (15, 0), (16, 0), (17, 0), (18, 0), (19, 0), (20, 0), (21, 0), (22, 0), (23, 0), (24, 0), (25, 0), (26, 0), (27, 1)] (by kernel_rfl) rfl rfl ?_
 refine gDe (by kernel_rfl) ?_
 refine gR 2 rfl ?_
 subst h
 refine ab (F' := (mkF 60 0 [(0, .bool false)])) (H' := ⟨0, []⟩) [] [] rfl hK ⟨⟨_, rfl, .rfl⟩, trivial⟩ trivial rfl ?_
 exact ae aa (rs := [.tmp 0]) rfl rfl rfl
end Go.Proofs.YthnohcipianijaaGreatDoor
namespace Go.Proofs.YthnohcipianijaaGreatDoor
open Go.RowKit
def bn (R : List Nat) (l : List (Nat × Ob)) : List (Nat × Ob) := l.filter fun p => dc p.1 R
def ung : Ob → Ob
  | .free => .gone
  | o => o
def bG (nx : Nat) (R : List Nat) (l : List (Nat × Ob)) : List (Nat × Ob) := (l.filter fun p => !dc p.1 R && Nat.blt p.1 nx).map fun p => (p.1, ung p.2)
theorem iG {α : Type} {R : List Nat} : ∀ (l : List (Nat × Ob)) (c : List (Nat × Ob) → α), jJ R l c = c (bn R l)
  | [], c => rfl
  | (i, o) :: r, c => by
    simp only [jJ]
    cases h : dc i R
    · simp only; rw [iG r]; simp [bn, h]
    · simp only; rw [iG r]; simp [bn, h]
theorem i8 {α : Type} {nx : Nat} {R : List Nat} : ∀ (l : List (Nat × Ob)) (c : List (Nat × Ob) → α), iD nx R l c = c (bG nx R l)
  | [], c => rfl
  | (i, o) :: r, c => by
    simp only [iD]
    cases h : (!dc i R && Nat.blt i nx)
    · simp only; rw [i8 r]; simp only [bG, List.filter_cons, h]; rfl
    · cases o <;> (simp only; rw [i8 r]; simp only [bG, List.filter_cons, h]; rfl)
theorem gW {R : List Nat} {i : Nat} : ∀ {l : List (Nat × Ob)}, aj (bn R l) i = aj l i ∨ (dc i R = false ∧ aj (bn R l) i = .gone)
  | [] => .inl rfl
  | (j, o) :: r => by
    by_cases hj : j = i
    · subst hj
      cases h : dc j R
      · right
        refine ⟨rfl, ?_⟩
        have ih := gW (R := R) (i := j) (l := r)
        simp only [bn, List.filter_cons, h] at ih ⊢
        simp only [Bool.false_eq_true, if_false]
        clear ih
        have key : ∀ (l : List (Nat × Ob)), aj (l.filter fun p => dc p.1 R) j = .gone := by
          intro l
          induction l with
          | nil => rfl
          | cons q t ih =>
            obtain ⟨k, o'⟩ := q
            simp only [List.filter_cons]
            split
            · rename_i hk
              have : k ≠ j := fun e => by subst e; simp [h] at hk
              simp only [aj, nbF this]; exact ih
            · exact ih
        exact key r
      · left
        simp only [bn, List.filter_cons, h, if_true, aj, nbT]
    · have ih := gW (R := R) (i := i) (l := r)
      simp only [bn, List.filter_cons]
      split
      · simp only [aj, nbF hj]; exact ih
      · simp only [aj, nbF hj]; exact ih
theorem mm {R : List Nat} {i : Nat} (h : dc i R = false) (l : List (Nat × Ob)) : aj (bn R l) i = .gone := by
  induction l with
  | nil => rfl
  | cons q t ih =>
    obtain ⟨k, o'⟩ := q
    simp only [bn, List.filter_cons]
    split
    · rename_i hk
      have : k ≠ i := fun e => by subst e; simp [h] at hk
      simp only [aj, nbF this]; exact ih
    · exact ih
theorem qv {nx : Nat} {R : List Nat} {i : Nat} (l : List (Nat × Ob)) : aj (bG nx R l) i = if (!dc i R && Nat.blt i nx) = true then ung (aj l i) else .gone := by
  induction l with
  | nil => simp [bG, aj, ung]
  | cons q t ih =>
    obtain ⟨k, o⟩ := q
    by_cases hk : k = i
    · subst hk
      cases h : (!dc k R && Nat.blt k nx)
      · rw [h] at ih
        simp only [bG, List.filter_cons, h, Bool.false_eq_true, if_false] at ih ⊢
        exact ih
      · simp only [bG, List.filter_cons, h, if_true, List.map_cons, aj, nbT]
    · have e : aj ((k, o) :: t) i = aj t i := by simp only [aj, nbF hk]
      rw [e, ← ih]
      simp only [bG, List.filter_cons]
      split
      · simp only [List.map_cons, aj, nbF hk]
      · rfl
section
variable {P : Program} {T : Tab} {K : Ctx} {Q : Exit → Act → World → Prop} {s : List EI} {n : Nat} {F : Fm} {H : Hp}
theorem oD (lo : Nat) (H : Hp) (v : V) : ∃ v' H', (∀ (α : Type) (c : V → Hp → α), py lo H v c = c v' H') ∧ H'.nx = H.nx ∧ (∀ K S w ρ x, HRel S w ρ H.get → Inv K S w ρ H.get → VRel S w ρ v x → ∃ S', HRel S' w ρ H'.get ∧ Inv K S' w ρ H'.get ∧ Up S S' w w ρ ρ ∧ VRel S' w ρ v' x) := by
  have triv : ∃ v' H', (∀ (α : Type) (c : V → Hp → α), c v H = c v' H') ∧ H'.nx = H.nx ∧ (∀ K S w ρ x, HRel S w ρ H.get → Inv K S w ρ H.get → VRel S w ρ v x → ∃ S', HRel S' w ρ H'.get ∧ Inv K S' w ρ H'.get ∧ Up S S' w w ρ ρ ∧ VRel S' w ρ v' x) := ⟨v, H, fun _ _ => rfl, rfl, fun K S w ρ x h1 h2 h3 => ⟨S, h1, h2, Up.refl, h3⟩⟩
  cases v with
  | sl id =>
    simp only [py]
    split
    · split
      · rename_i e sz els ho
        split
        · rename_i hpu
          refine ⟨.row sz els, ⟨H.nx, fN id H.es⟩, fun α c => by rw [jN], rfl, fun K S w ρ x hr hi hx => ?_⟩
          have hg : (⟨H.nx, fN id H.es⟩ : Hp).get = aX H.get id .gone := by
            funext i
            unfold Hp.get
            by_cases hii : i = id
            · subst hii
              rw [aG]
              simp only []
              have hlt : Nat.blt i H.nx = true := by
                unfold Hp.get at ho
                split at ho
                · assumption
                · cases ho
              rw [hlt]
              simp only [fv, if_true]
            · rw [aT _ _ hii]
              simp only [fv, if_neg hii]
          refine ⟨_, by rw [hg]; exact (cI hr).1, by rw [hg]; exact hi.frz hr id, (cI hr).2, lm hr ho hpu hx⟩
        · exact triv
      · exact triv
    · exact triv
  | _ => exact triv
theorem ox (lo : Nat) : ∀ (vs : List V) (H : Hp), ∃ vs' H', (∀ (α : Type) (c : List V → Hp → α), pC lo H vs c = c vs' H') ∧ H'.nx = H.nx ∧ (∀ K S w ρ xs, HRel S w ρ H.get → Inv K S w ρ H.get → LRel S w ρ vs xs → ∃ S', HRel S' w ρ H'.get ∧ Inv K S' w ρ H'.get ∧ Up S S' w w ρ ρ ∧ LRel S' w ρ vs' xs)
  | [], H => ⟨[], H, fun _ _ => rfl, rfl, fun K S w ρ x h1 h2 h3 => ⟨S, h1, h2, Up.refl, h3⟩⟩
  | v :: r, H => by
    obtain ⟨v', H1, e1, n1, k1⟩ := oD lo H v
    obtain ⟨r', H2, e2, n2, k2⟩ := ox lo r H1
    refine ⟨v' :: r', H2, fun α c => by simp only [pC, e1, e2], n2.trans n1, fun K S w ρ xs hr hi hx => ?_⟩
    simp only [LRel] at hx
    obtain ⟨x, ys, rfl, h1, h2⟩ := hx
    obtain ⟨S1, a1, a2, a3, a4⟩ := k1 K S w ρ x hr hi h1
    obtain ⟨S2, b1, b2, b3, b4⟩ := k2 K S1 w ρ ys a1 a2 (h2.up a3)
    exact ⟨S2, b1, b2, ⟨fun b hb => b3.s b (a3.s b hb), fun _ _ _ => rfl, fun _ _ h => h⟩, x, ys, rfl, a4.up b3, b4⟩
theorem sD (lo : Nat) (H : Hp) (v : V) : ∃ v' H', (∀ (α : Type) (c : V → Hp → α), rY lo H v c = c v' H') ∧ H'.nx = H.nx ∧ (∀ K S w ρ x, HRel S w ρ H.get → Inv K S w ρ H.get → VRel S w ρ v x → ∃ S', HRel S' w ρ H'.get ∧ Inv K S' w ρ H'.get ∧ Up S S' w w ρ ρ ∧ VRel S' w ρ v' x) := by
  have h0 := oD lo H v
  cases v
  case agg cs =>
    obtain ⟨vs', H', e, hn, k⟩ := ox lo cs H
    refine ⟨.agg vs', H', fun α c => by simp only [rY, e], hn, fun K S w ρ x hr hi hx => ?_⟩
    simp only [VRel] at hx
    obtain ⟨xs, rfl, h1⟩ := hx
    obtain ⟨S', a1, a2, a3, a4⟩ := k K S w ρ xs hr hi h1
    exact ⟨S', a1, a2, a3, by simp only [VRel]; exact ⟨xs, rfl, a4⟩⟩
  all_goals exact h0
theorem lG (lo : Nat) : ∀ (vs : List V) (H : Hp), ∃ vs' H', (∀ (α : Type) (c : List V → Hp → α), m6 lo H vs c = c vs' H') ∧ H'.nx = H.nx ∧ (∀ K S w ρ xs, HRel S w ρ H.get → Inv K S w ρ H.get → LRel S w ρ vs xs → ∃ S', HRel S' w ρ H'.get ∧ Inv K S' w ρ H'.get ∧ Up S S' w w ρ ρ ∧ LRel S' w ρ vs' xs)
  | [], H => ⟨[], H, fun _ _ => rfl, rfl, fun K S w ρ x h1 h2 h3 => ⟨S, h1, h2, Up.refl, h3⟩⟩
  | v :: r, H => by
    obtain ⟨v', H1, e1, n1, k1⟩ := sD lo H v
    obtain ⟨r', H2, e2, n2, k2⟩ := lG lo r H1
    refine ⟨v' :: r', H2, fun α c => by simp only [m6, e1, e2], n2.trans n1, fun K S w ρ xs hr hi hx => ?_⟩
    simp only [LRel] at hx
    obtain ⟨x, ys, rfl, h1, h2⟩ := hx
    obtain ⟨S1, a1, a2, a3, a4⟩ := k1 K S w ρ x hr hi h1
    obtain ⟨S2, b1, b2, b3, b4⟩ := k2 K S1 w ρ ys a1 a2 (h2.up a3)
    exact ⟨S2, b1, b2, ⟨fun b hb => b3.s b (a3.s b hb), fun _ _ _ => rfl, fun _ _ h => h⟩, x, ys, rfl, a4.up b3, b4⟩
variable {all : Array Oper} {rest : List Oper} {o : Oper} {u : V} {H' : Hp}
theorem uy {ok : Bool} (hw : az F all o.guard = some true) (hx : ec P K o [] ok n F H u H') (k : Go P K Q (.ops all rest) s n (F.seto o.dst (some u)) H') : Go P K Q (.ops all (o :: rest)) s n F H := fun S w ρ a hr hi hF => by
  show wpList P all (bj P Q s) (o :: rest) a w
  unfold wpList
  rw [if_pos (aJ hF hw)]
  exact .inl (hx S w ρ a hr hi hF _ _ fun x S' w' ρ' hr' hi' hu _ _ hv => k S' w' ρ' _ hr' hi' (aQ (hF.up hu) o.dst hv))
variable {L : List Nat} {m left i : Nat} {listed : Array Bool}
theorem uk (hrd : Region.ready .any all listed = [i]) (hi : all[i]? = some o) (hw : az F all o.guard = some true) (hx : ec P K o L ((listed.setIfInBounds i true).getD m false) n F H u H') (k : Go P K Q (.drw all L m left (listed.setIfInBounds i true)) s n (F.seto o.dst (some u)) H') : Go P K Q (.drw all L m (left + 1) listed) s n F H := fun S w ρ a hr hiv hF hs => by
  refine fy (S := S) hrd ?_
  unfold wpOp
  simp only [hi]
  rw [if_pos (aJ hF hw)]
  exact .inl (hx S w ρ a hr hiv hF _ _ fun x S' w' ρ' hr' hi' hu hA hL hv => dl hu hA hL (k S' w' ρ' _ hr' hi' (aQ (hF.up hu) o.dst hv) hs))
def dm (P : Program) (K : Ctx) (Q : Exit → Act → World → Prop) (n : Nat) : Rs → Prop
  | .ok e F H => ∀ S w ρ a, HRel S w ρ H.get → Inv K S w ρ H.get → FRel S w ρ a n F → Q (match e with | true => .ret | false => .normal) a w
  | .pt p s F H => Go P K Q p s n F H
  | .er _ _ => False
variable {ih : EP → List EI → Fm → Hp → Rs}
theorem ot {S : Nat → Prop} {w : World} {ρ : Nat → Option Value} {x : Value} : ∀ {rs : List V}, VRel S w ρ (fB rs) x → ∃ ys, LRel S w ρ rs ys ∧ x = js ys
  | [], hvx => by simp only [fB, VRel] at hvx; obtain ⟨ys, rfl, h1⟩ := hvx; exact ⟨ys, h1, by simp only [LRel] at h1; subst h1; rfl⟩
  | [v], hvx => ⟨[x], ⟨x, [], rfl, hvx, rfl⟩, rfl⟩
  | v :: u :: r, hvx => by
    simp only [fB, VRel] at hvx; obtain ⟨ys, rfl, h1⟩ := hvx
    refine ⟨ys, h1, ?_⟩
    simp only [LRel] at h1
    obtain ⟨_, _, rfl, _, _, _, rfl, _⟩ := h1
    rfl
theorem rk (hT : TabOk P T) (IH : ∀ p s F H K Q n, dm P K Q n (ih p s F H) → Go P K Q p s n F H) {X : Rs → Prop} (hX : ∀ n m, ¬ X (.er n m)) {keep ok : Bool} {vs : List V} {fid : FuncId} {fn : Func} {b : Code} {c : V → Hp → Rs} (hf : P.funcs[fid]? = some fn) (hb : fn.body = some b) (hl : Nat.ble vs.length fn.ntmps = true)
    (h : X (o8 T ih keep vs fn b H L ok c)) : ∃ u H' L', (L' = L ∨ ok = true) ∧ CallR P K fid vs H L' (fun u' H'' => u' = u ∧ H'' = H') ∧ X (c u H') := by
  unfold o8 at h
  simp only [] at h
  generalize hR : fV H 40 (iK vs []) [] = R at h
  split at h
  · rename_i hok
    rw [iG] at h
    split at h
    · rename_i e F1 H1 hrun
      split at h
      · rename_i rs hres
        split at h
        · rename_i hnx
          have hnx' : H.nx ≤ H1.nx := Nat.le_of_ble_eq_true hnx
          -- the objects that the call gets
          have hin : ∀ i, (⟨H.nx, bn R H.es⟩ : Hp).get i = H.get i ∨ (⟨H.nx, bn R H.es⟩ : Hp).get i = .gone := fun i => by
            unfold Hp.get
            simp only []
            split
            · rcases gW (R := R) (i := i) (l := H.es) with e | ⟨_, e⟩
              · exact .inl e
              · exact .inr e
            · exact .inl rfl
          have hout : ∀ i, dc i R = false → Nat.blt i H.nx = true → (⟨H.nx, bn R H.es⟩ : Hp).get i = .gone := fun i hi hlt => by
            unfold Hp.get
            simp only [hlt]
            exact mm hi _
          -- the objects behind the call
          have key : ∀ (H2 : Hp) (es3 : List (Nat × Ob)), H2.nx = H1.nx → (∀ i, aj es3 i = aj H2.es i ∨ aj es3 i = .gone) → ∀ i, ((⟨H2.nx, es3 ++ bG H.nx R H.es⟩ : Hp).get i = H2.get i ∨ (⟨H2.nx, es3 ++ bG H.nx R H.es⟩ : Hp).get i = .gone) ∨ ((⟨H2.nx, es3 ++ bG H.nx R H.es⟩ : Hp).get i = H.get i ∧ (⟨H.nx, bn R H.es⟩ : Hp).get i = .gone ∧ H.get i ≠ .free) := fun H2 es3 hn h3 i => by
            by_cases hlt2 : Nat.blt i H2.nx = true
            · have e0 : (⟨H2.nx, es3 ++ bG H.nx R H.es⟩ : Hp).get i = aj (es3 ++ bG H.nx R H.es) i := by unfold Hp.get; simp only [hlt2]
              have e2 : H2.get i = aj H2.es i := by unfold Hp.get; rw [hlt2]
              rw [e0, e2]
              rcases nq es3 (bG H.nx R H.es) i with e | ⟨e', e⟩
              · rw [e]
                rcases h3 i with h3 | h3
                · exact .inl (.inl h3)
                · exact .inl (.inr h3)
              · rw [e]
                rw [qv]
                cases hm : (!dc i R && Nat.blt i H.nx)
                · exact .inl (.inr (by simp))
                · have hm' := hm
                  simp only [Bool.and_eq_true, Bool.not_eq_true'] at hm'
                  have eH : H.get i = aj H.es i := by unfold Hp.get; rw [hm'.2]
                  rw [if_pos rfl]
                  cases hf : aj H.es i
                  case free => exact .inl (.inr rfl)
                  all_goals exact .inr ⟨by rw [eH, hf]; rfl, hout i hm'.1 hm'.2, by rw [eH, hf]; simp⟩
            · have e0 : (⟨H2.nx, es3 ++ bG H.nx R H.es⟩ : Hp).get i = .free := by
                unfold Hp.get; simp only [Bool.not_eq_true] at hlt2; simp only [hlt2]
              have e2 : H2.get i = .free := by unfold Hp.get; simp only [Bool.not_eq_true] at hlt2; rw [hlt2]
              exact .inl (.inl (by rw [e0, e2]))
          -- what holds behind the call
          have fin : ∀ (H2 : Hp) (es3 : List (Nat × Ob)) (rs2 : List V), H2.nx = H1.nx → (∀ i, aj es3 i = aj H2.es i ∨ aj es3 i = .gone) →
              (∀ K S w ρ xs, HRel S w ρ H1.get → Inv K S w ρ H1.get → LRel S w ρ rs xs → ∃ S', HRel S' w ρ H2.get ∧ Inv K S' w ρ H2.get ∧ Up S S' w w ρ ρ ∧ LRel S' w ρ rs2 xs) →
              ∃ L', (L' = L ∨ ok = true) ∧ CallR P K fid vs H L' (fun u' H'' => u' = fB rs2 ∧ H'' = ⟨H2.nx, es3 ++ bG H.nx R H.es⟩) := fun H2 es3 rs2 hn h3 hfz => by
            have main : ∀ L', (∀ (S : Nat → Prop) (w : World) (ρ : Nat → Option Value), HRel S w ρ H.get → L' = [] ∨ (a8 H.get L' = true ∧ ∀ id, id ∈ L' → (⟨H.nx, bn R H.es⟩ : Hp).get id = .gone)) → CallR P K fid vs H L' (fun u' H'' => u' = fB rs2 ∧ H'' = ⟨H2.nx, es3 ++ bG H.nx R H.es⟩) := fun L' hL' S w ρ xs hr hi hx => by
              have hr1 := hr.drop (h' := (⟨H.nx, bn R H.es⟩ : Hp).get) hin
              have hi1 : Inv ⟨w, S, fun b => ∃ id, own ρ id ((⟨H.nx, bn R H.es⟩ : Hp).get id) b, ρ⟩ S w ρ (⟨H.nx, bn R H.es⟩ : Hp).get := ⟨ChgP.refl _ _, fun _ h => h, fun _ h => .inl h, fun id b hb => .inl ⟨id, hb⟩, fun _ _ h => h⟩
              refine kh hf hb hl hr1 hi1 hx (IH _ _ _ _ _ _ _ ?_)
              rw [hrun]
              intro S' w' ρ' a' hr' hi' hF'
              obtain ⟨rl, hrl⟩ : ∃ l : List ResultVar, fn.results = l.toArray := ⟨fn.results.toList, by simp⟩
              rw [hrl] at hres
              refine ret_go hT (rs := rl) (by cases e <;> simp) hrl hr' hF' (by simpa using hres) fun x hvx => ?_
              have hLR := ot hvx
              obtain ⟨ys, hys, rfl⟩ := hLR
              obtain ⟨S2, a1, a2, a3, a4⟩ := hfz _ S' w' ρ' ys hr' hi' hys
              obtain ⟨m1, m2, m3, m4⟩ := nB (h1 := (⟨H.nx, bn R H.es⟩ : Hp).get) (h2 := (⟨H2.nx, es3 ++ bG H.nx R H.es⟩ : Hp).get) hr hi hin a1 a2 (key H2 es3 hn h3)
              refine ⟨_, S2, ρ', _, _, rfl, ⟨rfl, rfl⟩, m1, m2, m3, ov a4, ?_⟩
              rcases hL' S w ρ hr with rfl | ⟨g1, g2⟩
              · intro id hid; simp at hid
              · exact m4 L' g1 g2
            rcases jK hok with hok | hok
            · simp only [Bool.and_eq_true] at hok
              refine ⟨L, .inl rfl, main L fun S w ρ hr => .inr ⟨hok.1, fun id hid => ?_⟩⟩
              have hmem := List.all_eq_true.1 hok.2 id hid
              simp only [Bool.not_eq_true'] at hmem
              by_cases hlt : Nat.blt id H.nx = true
              · exact hout id hmem hlt
              · exfalso
                have hfree : H.get id = .free := by unfold Hp.get; simp only [Bool.not_eq_true] at hlt; rw [hlt]
                have hnl : ∀ (l : List Nat), id ∈ l → a8 H.get l = true → False := by
                  intro l
                  induction l with
                  | nil => intro h; simp at h
                  | cons j t ih =>
                    intro hm hl
                    simp only [a8] at hl
                    rcases List.mem_cons.1 hm with e | e
                    · subst e; rw [hfree] at hl; cases hl
                    · split at hl
                      · exact ih e hl
                      · exact ih e hl
                      · cases hl
                exact hnl L hid hok.1
            · exact ⟨[], .inr hok, main [] fun _ _ _ _ => .inl rfl⟩
          split at h
          · rw [i8] at h
            obtain ⟨L', g1, g2⟩ := fin H1 H1.es rs rfl (fun i => .inl rfl) (fun K S w ρ xs h1 h2 h3 => ⟨S, h1, h2, Up.refl, h3⟩)
            exact ⟨_, _, L', g1, g2, h⟩
          · obtain ⟨rs2, H2, e1, e2, e3⟩ := lG H.nx rs H1
            rw [e1] at h
            rw [iG, i8] at h
            obtain ⟨L', g1, g2⟩ := fin H2 (bn _ H2.es) rs2 e2 (fun i => by
              rcases gW (R := fV H2 60 (iK rs2 R) []) (i := i) (l := H2.es) with e | ⟨_, e⟩
              · exact .inl e
              · exact .inr e) e3
            exact ⟨_, _, L', g1, g2, h⟩
        · exact absurd h (hX _ _)
      · exact absurd h (hX _ _)
    · exact absurd h (hX _ _)
    · exact absurd h (hX _ _)
  · exact absurd h (hX _ _)
theorem gj (hT : TabOk P T) (IH : ∀ p s F H K Q n, dm P K Q n (ih p s F H) → Go P K Q p s n F H) {X : Rs → Prop} (hX : ∀ n m, ¬ X (.er n m)) {ok : Bool} {c : Option V → Hp → Rs} (h : X (iC T ih F H L ok o c)) : ∃ u H', ec P K o L ok n F H u H' ∧ X (c (some u) H') := by
  unfold iC at h
  split at h
  · rename_i v hv
    exact ⟨v, H, pX hT hv, h⟩
  · rw [bg] at h
    split at h
    · rename_i v ed hv
      split at h
      · rename_i hc
        rw [Hp.ap_eq] at h
        refine ⟨_, _, al hT hv hc, ?_⟩
        cases v with
        | none => exact h
        | some v => exact h
      · exact absurd h (hX _ _)
    · split at h
      · rename_i fid args tys hop
        split at h
        · rename_i vs hvs
          split at h
          · rename_i v hn
            obtain ⟨he, hnat⟩ := hT.nat _ _ _ hn
            refine ⟨v, H, aU (L' := L) he (by rw [hop]) hvs (fun S w ρ xs hr hi hx => ?_) (.inl rfl), h⟩
            obtain ⟨x, h1, h2⟩ := hnat S w ρ xs hx
            refine h2.mono fun e w' hR => ?_
            obtain ⟨rfl, rfl⟩ := hR
            exact ⟨x, S, ρ, v, H, rfl, ⟨rfl, rfl⟩, hr, hi, Up.refl, h1, fq⟩
          · split at h
            · rename_i fn hfn
              obtain ⟨hf, he⟩ := hT.fn _ _ hfn
              split at h
              · rename_i b hb
                split at h
                · rename_i hl
                  obtain ⟨u, H', L', g1, g2, g3⟩ := rk (K := K) hT IH hX hf hb hl h
                  exact ⟨u, H', aU he (by rw [hop]) hvs g2 g1, g3⟩
                · exact absurd h (hX _ _)
              · exact absurd h (hX _ _)
            · exact absurd h (hX _ _)
        · exact absurd h (hX _ _)
      · exact absurd h (hX _ _)
theorem qo {l : List Nat} {j : Nat} (h : mL l j = true) : l = [j] := by
  unfold mL at h
  split at h
  · rw [Nat.eq_of_beq_eq_true h]
  · cases h
theorem mR (hT : TabOk P T) (IH : ∀ p s F H K Q n, dm P K Q n (ih p s F H) → Go P K Q p s n F H) {i : Nat} {ps : List (Nat × Operand)} {vs : List (Nat × V)} {v : V} (hp : gZ T all i vs = some (o, ps, v)) : ∀ (left : Nat) (listed : Array Bool) (F : Fm) (H : Hp), dm P K Q n (mA T ih all L m i o ps v s left listed F H) → GoP P K Q all L m left listed s n F H i o ps vs v
  | left, listed, F, H, h => by
    unfold mA at h
    split at h
    · rename_i hl
      split at h
      · rename_i x hrd
        split at h
        · rename_i hb
          have := Nat.eq_of_beq_eq_true hb
          subst this
          rw [Fm.puto_eq] at h
          exact st hT hp hrd hl (IH _ _ _ _ _ _ _ h)
        · exact h.elim
      · rename_i x y hrd
        cases left with
        | zero => exact h.elim
        | succ left =>
          simp only [bg] at h
          generalize hj : pQ x y i = j at h
          unfold pQ at hj
          split at h
          · exact h.elim
          · rename_i hji
            have hne : j ≠ i := Nat.ne_of_beq_eq_false hji
            split at h
            · rename_i oj hoj
              split at h
              · rename_i hc
                simp only [Bool.and_eq_true] at hc
                obtain ⟨⟨⟨hc1, hc2⟩, hc3⟩, hc4⟩ := hc
                split at h
                · rename_i hw
                  obtain ⟨u, H', hx, hk⟩ := gj (K := K) (n := n) hT IH (X := dm P K Q n) (fun _ _ h => h) h
                  rw [Fm.puto_eq] at hk
                  have ih2 := mR hT IH hp left _ _ _ hk
                  have hpair : (match Region.ready .any all listed with | [x, y] => (Nat.beq x i && Nat.beq y j) || (Nat.beq x j && Nat.beq y i) | _ => false) = true := by
                    rw [hrd]
                    simp only []
                    cases hx1 : Nat.beq x i
                    · rw [hx1] at hj
                      cases hy1 : Nat.beq y i
                      · rw [hy1] at hj; exact absurd hj.symm hne
                      · rw [hy1] at hj; simp only at hj; subst hj; simp
                    · rw [hx1] at hj; simp only at hj; subst hj; simp
                  refine rx hT hp hoj hpair (qo hc1) hl (fun t ht => ?_) hc2 hc3 (Array.setIfInBounds_comm _ _ (Ne.symm hne)) (Post := fun u' H'' => u' = u ∧ H'' = H') (fun S w ρ a hr hi hF K2 hK2 => ?_) (fun u' H'' hP => by obtain ⟨rfl, rfl⟩ := hP; exact ih2)
                  · rw [ht] at hc4
                    simp only [Option.isNone_iff_eq_none] at hc4
                    exact hc4
                  · unfold wpOp
                    simp only [hoj]
                    rw [if_pos (aJ hF hw)]
                    refine .inl (hx S w ρ a hr hi hF _ _ fun x S' w' ρ' hr' hi' hu hA hL hv => hK2 x S' w' ρ' u H' ⟨rfl, rfl⟩ hr' hi' hu hA (hL.imp id fun h => ?_) hv)
                    simpa only [Bool.and_eq_true] using h
                · exact h.elim
              · exact h.elim
            · exact h.elim
      · exact h.elim
    · exact h.elim
theorem s7 (hT : TabOk P T) (IH : ∀ p s F H K Q n, dm P K Q n (ih p s F H) → Go P K Q p s n F H) {i j : Nat} {left : Nat} {listed : Array Bool} (hrd : Region.ready .any all listed = [i, j]) (h : dm P K Q n (qZ T ih all L m left i j listed s F H)) : Go P K Q (.drw all L m (left + 1) listed) s n F H := by
  unfold qZ at h
  split at h
  · rename_i oi hoi
    split at h
    · rename_i oj hoj
      split at h
      · rename_i hwi
        split at h
        · rename_i hwj
          obtain ⟨ui, Hi, xi, hk⟩ := gj (K := K) (n := n) hT IH (X := dm P K Q n) (fun _ _ h => h) h
          rw [Fm.puto_eq] at hk
          split at hk
          · rename_i F1 H1 e1
            obtain ⟨uj, Hj, xj, hk2⟩ := gj (K := K) (n := n) hT IH (X := dm P K Q n) (fun _ _ h => h) hk
            rw [Fm.puto_eq] at hk2
            split at hk2
            · rename_i F2 H2 e2
              split at hk2
              · rename_i hal
                have c : Go P K Q (.ex .normal) s n F1 H1 := IH _ _ _ _ _ _ _ hk2
                intro S w ρ a hr hi hF
                have hpin : ∀ id x, K.pin id = some x → id < H.nx := fun id x hx => Decidable.byContradiction fun hn => by
                  have h1 := hi.pin id x hx
                  have h2 := hr.ob id
                  have h3 : H.get id = .free := by
                    unfold Hp.get
                    have : Nat.blt id H.nx = false := by
                      cases hb : Nat.blt id H.nx
                      · rfl
                      · exact absurd (by simpa [Nat.blt_eq] using hb) hn
                    simp only [this]
                  rw [h3] at h2
                  have h4 : ρ id = none := h2
                  rw [h4] at h1; cases h1
                have g1 : Go P K (bj P Q s) (.drw all L m left (listed.setIfInBounds i true)) [] n (F.seto oi.dst (some ui)) Hi := IH _ _ _ _ _ _ _ (by rw [e1]; exact fun S w ρ a hr hi hF => c S w ρ a hr hi hF)
                have g2 : Go P K (bj P Q s) (.drw all L m left (listed.setIfInBounds j true)) [] n (F.seto oj.dst (some uj)) Hj := IH _ _ _ _ _ _ _ (by rw [e2]; exact fun S w ρ a hr hi hF => go_alike hal hpin c S w ρ a hr hi hF)
                exact aD (by rw [hrd]; simp) hoi hoj hwi hwj xi xj g1 g2 S w ρ a hr hi hF
              · exact hk2.elim
            · exact hk2.elim
            · exact hk2.elim
          · exact hk.elim
          · exact hk.elim
        · exact h.elim
      · exact h.elim
    · exact h.elim
  · exact h.elim
theorem gO : ∀ {R : List Nat} {i : Nat} {ps : List (Nat × Operand)} {v : V}, im T F all R = some (i, o, ps, v) → ∃ vs, d1 F ps = some vs ∧ gZ T all i vs = some (o, ps, v)
  | [], _, _, _, h => by cases h
  | j :: r, i, ps, v, h => by
    unfold im at h
    split at h
    · rename_i hj
      split at h
      · rename_i vs hvs
        split at h
        · rename_i o' ps' v' hpb
          simp only [Option.some.injEq, Prod.mk.injEq] at h
          obtain ⟨rfl, rfl, rfl, rfl⟩ := h
          refine ⟨vs, ?_, hpb⟩
          have := hpb
          unfold gZ at this
          rw [hj] at this
          simp only at this
          repeat' (split at this)
          all_goals first
            | (cases this; done)
            | (simp only [bg, Option.some.injEq, Prod.mk.injEq] at this; obtain ⟨_, rfl, _⟩ := this; exact hvs)
        · exact gO h
      · exact gO h
    · exact gO h
theorem sY (hT : TabOk P T) (hm : P.follows .mixedOrders = true) (IH : ∀ p s F H K Q n, dm P K Q n (ih p s F H) → Go P K Q p s n F H) : ∀ (p : EP) (s : List EI) (F : Fm) (H : Hp), dm P K Q n (step T ih p s F H) → Go P K Q p s n F H
  | .code c, s, F, H, h => by
    replace h : dm P K Q n (pc T ih c s F H) := h
    unfold pc at h
    split at h
    · exact qy (IH _ _ _ _ _ _ _ h)
    · exact nc (IH _ _ _ _ _ _ _ h)
    · exact oT (IH _ _ _ _ _ _ _ h)
    · exact go_ret (IH _ _ _ _ _ _ _ h)
    · exact oF (IH _ _ _ _ _ _ _ h)
    · exact ru (IH _ _ _ _ _ _ _ h)
    · exact rP (IH _ _ _ _ _ _ _ h)
    · exact go_loop 1000000 (IH _ _ _ _ _ _ _ h)
    · split at h
      · exact mC ‹_› (IH _ _ _ _ _ _ _ h)
      · exact nE ‹_› (IH _ _ _ _ _ _ _ h)
      · exact h.elim
    · exact l8 (IH _ _ _ _ _ _ _ h)
    · split at h
      · rename_i hs
        simp only [aV, bg] at h
        exact oU _ _ _ rfl hm hs (IH _ _ _ _ _ _ _ h)
      · exact h.elim
    · exact h.elim
  | .ops all rest, s, F, H, h => by
    replace h : dm P K Q n (m8 T ih all rest s F H) := h
    unfold m8 at h
    split at h
    · exact qA (IH _ _ _ _ _ _ _ h)
    · split at h
      · rw [Fm.puto_eq] at h
        exact p5 ‹_› (IH _ _ _ _ _ _ _ h)
      · obtain ⟨u, H', hx, hk⟩ := gj (K := K) (n := n) hT IH (X := dm P K Q n) (fun _ _ h => h) h
        rw [Fm.puto_eq] at hk
        exact uy ‹_› hx (IH _ _ _ _ _ _ _ hk)
      · exact h.elim
  | .ex e, s, F, H, h => by
    replace h : dm P K Q n (pU ih e s F H) := h
    unfold pU at h
    split at h
    · split at h
      · exact fun S w ρ a hr hi hF => h S w ρ a hr hi hF
      · exact fun S w ρ a hr hi hF => h S w ρ a hr hi hF
      · exact h.elim
    · split at h
      · exact ou (IH _ _ _ _ _ _ _ h)
      · exact mQ (IH _ _ _ _ _ _ _ h)
      · exact mG (IH _ _ _ _ _ _ _ h)
      · exact h.elim
    · split at h
      · split at h
        · exact h.elim
        · exact aM (IH _ _ _ _ _ _ _ h)
      · exact aA (IH _ _ _ _ _ _ _ h)
      · exact a6 (IH _ _ _ _ _ _ _ h)
      · exact h.elim
    · split at h
      · exact q9 (IH _ _ _ _ _ _ _ h)
      · exact qS (IH _ _ _ _ _ _ _ h)
      · exact ro (IH _ _ _ _ _ _ _ h)
      · exact h.elim
    · split at h
      · exact nr (IH _ _ _ _ _ _ _ h)
      · split at h
        · exact nm ‹_› (IH _ _ _ _ _ _ _ h)
        · exact mI ‹_› (IH _ _ _ _ _ _ _ h)
      · exact nA (IH _ _ _ _ _ _ _ h)
      · exact h.elim
  | .drw all L m left listed, s, F, H, h => by
    replace h : dm P K Q n (pN T ih all L m left listed s F H) := h
    unfold pN at h
    split at h
    · exact mZ ‹_› (IH _ _ _ _ _ _ _ h)
    · rename_i i R hrd
      cases left with
      | zero => exact h.elim
      | succ left =>
        simp only [] at h
        split at h
        · split at h
          · rename_i o ho
            split at h
            · rw [Fm.puto_eq] at h
              exact go_d1S hrd ho ‹_› (IH _ _ _ _ _ _ _ h)
            · obtain ⟨u, H', hx, hk⟩ := gj (K := K) (n := n) hT IH (X := dm P K Q n) (fun _ _ h => h) h
              rw [Fm.puto_eq] at hk
              exact uk hrd ho ‹_› hx (IH _ _ _ _ _ _ _ hk)
            · exact h.elim
          · exact h.elim
        · split at h
          · split at h
            · rename_i o ho
              split at h
              · rename_i hc
                simp only [Bool.and_eq_true, Bool.not_eq_true'] at hc
                obtain ⟨⟨hc1, hc2⟩, hc3⟩ := hc
                split at h
                · rw [Fm.puto_eq] at h
                  exact oY hc3 ho hc2 hc1 ‹_› (IH _ _ _ _ _ _ _ h)
                · rename_i hw
                  split at h
                  · rename_i v hv
                    rw [Fm.puto_eq] at h
                    exact sp hT hc3 ho hc2 hc1 hw hv (IH _ _ _ _ _ _ _ h)
                  · split at h
                    · rename_i id hid
                      split at h
                      · rename_i hL
                        simp only [Bool.and_eq_true, Bool.not_eq_true'] at hL
                        obtain ⟨⟨hL1, hL2⟩, hL3⟩ := hL
                        split at h
                        · rename_i v ed hv
                          rw [Fm.puto_eq] at h
                          exact r8 hT hc3 hL2 hL3 ho hc2 hc1 hw hid hL1 hv (IH _ _ _ _ _ _ _ h)
                        · exact h.elim
                      · exact h.elim
                    · exact h.elim
                · exact h.elim
              · exact h.elim
            · exact h.elim
          · split at h
            · rename_i i' o ps v hpo
              rw [Fm.puto_eq] at h
              obtain ⟨vs, g1, g2⟩ := gO hpo
              exact qj g1 (mR hT IH g2 left listed _ _ h)
            · split at h
              · exact s7 hT IH hrd h
              · exact h.elim
theorem qP (hT : TabOk P T) (hm : P.follows .mixedOrders = true) : ∀ (k : Nat) (p : EP) (s : List EI) (F : Fm) (H : Hp) (K : Ctx) (Q : Exit → Act → World → Prop) (n : Nat), dm P K Q n (run T k p s F H) → Go P K Q p s n F H
  | 0, p, s, F, H, K, Q, n, h => h
  | k + 1, p, s, F, H, K, Q, n, h => sY hT hm (fun p s F H K Q n h => qP hT hm k p s F H K Q n h) p s F H h
def rt (T : Tab) (k : Nat) (fid : FuncId) (vs : List V) (H : Hp) : Option (List V × Hp) := match T.fn fid with
  | some fn => match fn.body with
    | some b => match Nat.ble vs.length fn.ntmps with
      | true => match run T k (.code b) [] (ei fn.ntmps vs) H with
        | .ok _ F1 H1 => match i7 T H1.get F1 fn.results.toList with
          | some rs => some (rs, H1)
          | none => none
        | _ => none
      | false => none
    | none => none
  | none => none
theorem tc (hT : TabOk P T) (hm : P.follows .mixedOrders = true) {k : Nat} {fid : FuncId} {vs rs : List V} {H H1 : Hp} (h : rt T k fid vs H = some (rs, H1)) {S : Nat → Prop} {w : World} {ρ : Nat → Option Value} {xs : List Value} (hr : HRel S w ρ H.get) (hx : LRel S w ρ vs xs) : bA P fid = true ∧
    Calls P fid xs.toArray w fun e w' => ∃ S' ρ' ys, e = .returned (js ys) ∧ HRel S' w' ρ' H1.get ∧ Inv ⟨w, S, fun b => ∃ id, own ρ id (H.get id) b, ρ⟩ S' w' ρ' H1.get ∧ LRel S' w' ρ' rs ys := by
  unfold rt at h
  split at h
  · rename_i fn hfn
    obtain ⟨hf, he⟩ := hT.fn _ _ hfn
    split at h
    · rename_i b hb
      split at h
      · rename_i hl
        split at h
        · rename_i e F1 H1' hrun
          split at h
          · rename_i rs' hres
            simp only [Option.some.injEq, Prod.mk.injEq] at h
            obtain ⟨rfl, rfl⟩ := h
            refine ⟨he, ?_⟩
            have hi1 : Inv ⟨w, S, fun b => ∃ id, own ρ id (H.get id) b, ρ⟩ S w ρ H.get := ⟨ChgP.refl _ _, fun _ h => h, fun _ h => .inl h, fun id b hb => .inl ⟨id, hb⟩, fun _ _ h => h⟩
            refine kh hf hb hl hr hi1 hx (qP hT hm k _ _ _ _ _ _ _ ?_)
            rw [hrun]
            intro S' w' ρ' a' hr' hi' hF'
            obtain ⟨rl, hrl⟩ : ∃ l : List ResultVar, fn.results = l.toArray := ⟨fn.results.toList, by simp⟩
            rw [hrl] at hres
            refine ret_go hT (rs := rl) (by cases e <;> simp) hrl hr' hF' (by simpa using hres) fun x hvx => ?_
            have hLR := ot hvx
            obtain ⟨ys, hys, rfl⟩ := hLR
            exact ⟨S', ρ', ys, rfl, hr', hi', hys⟩
          · cases h
        · cases h
      · cases h
    · cases h
  · cases h
end
end Go.Proofs.YthnohcipianijaaGreatDoor
namespace Go.Proofs.YthnohcipianijaaGreatDoor
open Go.RowKit Lx Sx
set_option maxRecDepth 100000
def mB : List (List UInt8) → List V → Bool
  | [], [] => true
  | s :: r, .str l :: q => lEq s l && mB r q
  | _, _ => false
def mU (ls : List (List UInt8)) : V → Bool
  | .nils => ls.isEmpty
  | .row sz els => Nat.beq sz 1 && mB ls els
  | _ => false
mutual
def treeB : Tree → V → Bool
  | .node k s ls ks, v => match v with
    | .agg [.int .i64 k', .str s', l, r] => iEq k k' && lEq s s' && mU ls l && (match r with
      | .nils => ks.isEmpty
      | .row sz els => Nat.beq sz 4 && kidsB ks els
      | _ => false)
    | _ => false
def kidsB : List Tree → List V → Bool
  | [], vs => match vs with
    | [] => true
    | _ => false
  | t :: r, vs => match vs with
    | v :: q => treeB t v && kidsB r q
    | [] => false
end
section
variable {S : Nat → Prop} {w : World}
theorem nn {ρ : Nat → Option Value} : ∀ {ls : List (List UInt8)} {els : List V} {xs : List Value}, mB ls els = true → CRel S w ρ 1 els xs → els.length = ls.length ∧ xs = ls.map fZ
  | [], [], xs, _, hc => by simp only [CRel] at hc; subst hc; exact ⟨rfl, rfl⟩
  | s :: r, v :: q, xs, hb, hc => by
    cases v <;> simp only [mB] at hb <;> first | (cases hb; done) | skip
    rename_i l
    simp only [Bool.and_eq_true] at hb
    have hl := hb.1
    rw [iq] at hl
    simp only [beq_iff_eq] at hl
    subst hl
    simp only [CRel] at hc
    obtain ⟨x, ys, rfl, _, h3, h4⟩ := hc
    simp only [VRel] at h3
    subst h3
    obtain ⟨h5, h6⟩ := nn hb.2 h4
    exact ⟨by simp [h5], by simp [h6, Value.cells]⟩
  | [], _ :: _, _, hb, _ => by cases hb
  | _ :: _, [], _, hb, _ => by cases hb
theorem qe {ρ : Nat → Option Value} {ls : List (List UInt8)} {v : V} {x : Value} (hb : mU ls v = true) (hx : VRel S w ρ v x) : ∃ A m, x = .slice A ls.length m ∧ ls.length ≤ m ∧ m ≤ maxLen ∧ RowIn S w 1 A ls.length (ls.map fZ) := by
  cases v <;> simp only [mU] at hb <;> first | (cases hb; done) | skip
  · simp only [List.isEmpty_iff] at hb
    subst hb
    simp only [VRel] at hx; subst hx
    exact ⟨none, 0, rfl, Nat.le_refl _, by decide, RowIn.none_⟩
  · rename_i sz els
    simp only [Bool.and_eq_true, Nat.beq_eq] at hb
    obtain ⟨rfl, hb⟩ := hb
    simp only [VRel] at hx
    obtain ⟨A, c, xs, rfl, h3, h4, h5, h6⟩ := hx
    obtain ⟨h7, rfl⟩ := nn hb h5
    rw [h7] at h3 h6 ⊢
    exact ⟨A, c, rfl, h3, h4, h6⟩
mutual
theorem treeB_ok {ρ : Nat → Option Value} : ∀ {t : Tree} {v : V} {x : Value}, treeB t v = true → VRel S w ρ v x → ∃ c, x = .agg c.toArray ∧ TreeIs S w t c
  | .node k s ls ks, v, x, hb, hx => by
    unfold treeB at hb
    split at hb
    · rename_i k' s' l r
      simp only [Bool.and_eq_true] at hb
      obtain ⟨⟨⟨hb1, hb2⟩, hb3⟩, hb4⟩ := hb
      rw [jv] at hb1
      rw [iq] at hb2
      simp only [beq_iff_eq] at hb1 hb2
      subst hb1 hb2
      simp only [VRel] at hx
      obtain ⟨xs, rfl, hl⟩ := hx
      simp only [LRel] at hl
      obtain ⟨x0, _, rfl, h0, x1, _, rfl, h1, x2, _, rfl, h2, x3, _, rfl, h3, rfl⟩ := hl
      simp only [VRel] at h0 h1
      subst h0 h1
      obtain ⟨A, m, rfl, g1, g2, g3⟩ := qe hb3 h2
      have kk : ∃ B n, x3 = .slice B ks.length n ∧ ks.length ≤ n ∧ n ≤ maxLen ∧ ∃ cs, KidsAre S w ks cs ∧ RowIn S w 4 B ks.length cs := by
        split at hb4
        · simp only [List.isEmpty_iff] at hb4
          subst hb4
          simp only [VRel] at h3; subst h3
          exact ⟨none, 0, rfl, Nat.le_refl _, by decide, [], by simp only [KidsAre], RowIn.none_⟩
        · rename_i sz els
          simp only [Bool.and_eq_true, Nat.beq_eq] at hb4
          obtain ⟨rfl, hb4⟩ := hb4
          simp only [VRel] at h3
          obtain ⟨B, c, ys, rfl, q3, q4, q5, q6⟩ := h3
          obtain ⟨q7, q8⟩ := kidsB_ok hb4 q5
          rw [q7] at q3 q6 ⊢
          exact ⟨B, c, rfl, q3, q4, ys, q8, q6⟩
        · cases hb4
      obtain ⟨B, n, rfl, k1, k2, cs, k3, k4⟩ := kk
      exact ⟨_, rfl, sA g1 g2 k1 k2 g3 k3 k4⟩
    · cases hb
theorem kidsB_ok {ρ : Nat → Option Value} : ∀ {ts : List Tree} {vs : List V} {xs : List Value}, kidsB ts vs = true → CRel S w ρ 4 vs xs → vs.length = ts.length ∧ KidsAre S w ts xs
  | [], vs, xs, hb, hc => by
    unfold kidsB at hb
    split at hb
    · simp only [CRel] at hc; subst hc; exact ⟨rfl, by simp only [KidsAre]⟩
    · cases hb
  | t :: r, vs, xs, hb, hc => by
    unfold kidsB at hb
    split at hb
    · rename_i v q
      simp only [Bool.and_eq_true] at hb
      simp only [CRel] at hc
      obtain ⟨x, ys, rfl, _, h3, h4⟩ := hc
      obtain ⟨c, rfl, hT⟩ := treeB_ok hb.1 h3
      obtain ⟨h5, h6⟩ := kidsB_ok hb.2 h4
      exact ⟨by simp [h5], by simp only [KidsAre]; exact ⟨c, ys, by simp [Value.cells], hT, h6⟩⟩
    · cases hb
end
end
def np (T : Tab) (k : Nat) (fid : FuncId) (vs : List V) : Option (List V) := match rt T k fid vs ⟨0, []⟩ with
  | some (rs, H1) => m6 0 H1 rs fun rs' _ => some rs'
  | none => none
theorem hV (i : Nat) : (⟨0, []⟩ : Hp).get i = .free := by
  unfold Hp.get
  have : Nat.blt i 0 = false := by cases i <;> rfl
  simp only [this]
theorem sn (w : World) : HRel (fun _ => False) w (fun _ => none) (⟨0, []⟩ : Hp).get :=
  ⟨fun i => by rw [hV]; rfl, fun i b hb => by rw [hV] at hb; exact hb.elim, fun i j b hb _ => by rw [hV] at hb; exact hb.elim, fun _ h => h.elim⟩
theorem sK {P : Program} {T : Tab} (hT : TabOk P T) (hm : P.follows .mixedOrders = true) {k : Nat} {fid : FuncId} {vs rs : List V} (h : np T k fid vs = some rs) {w : World} {xs : List Value} (hx : LRel (fun _ => False) w (fun _ => none) vs xs) :
    Calls P fid xs.toArray w fun e w' => ∃ S' ρ' ys, e = .returned (js ys) ∧ (∀ b, S' b → w.heap.size ≤ b) ∧ Chg [] w w' ∧ LRel S' w' ρ' rs ys := by
  unfold np at h
  split at h
  · rename_i rs1 H1 hrun
    obtain ⟨rs2, H2, e1, _, e3⟩ := lG 0 rs1 H1
    rw [e1] at h
    injection h with h; subst h
    have hr0 := sn w
    refine (tc hT hm hrun hr0 hx).2.mono fun e w' hR => ?_
    obtain ⟨S', ρ', ys, rfl, hr, hi, hl⟩ := hR
    obtain ⟨S2, a1, a2, a3, a4⟩ := e3 _ S' w' ρ' ys hr hi hl
    have hno : ∀ b, ¬ ∃ id, own (fun _ => none) id ((⟨0, []⟩ : Hp).get id) b := fun b ⟨id, hb⟩ => by rw [hV] at hb; exact hb
    refine ⟨S2, ρ', ys, rfl, fun b hb => ?_, ⟨hi.chg.os, hi.chg.tape, hi.chg.output, hi.chg.size, fun b hb _ => hi.chg.block b hb (hno b)⟩, a4⟩
    rcases a2.s1 b hb with h | h | h
    · exact h.elim
    · exact absurd h (hno b)
    · exact h
  · cases h
def qY (fid : FuncId) (vs : List V) : Option V := match Nat.beq fid 121 with
  | true => match vs with
    | [.str s, .int .u8 (.ofNat c)] => pS (Lib.indexByte s c.toUInt8) fun n => some (.int .i64 n)
    | _ => none
  | false => none
noncomputable def pG : Tab := ⟨true, fQ tyL, fQ fnL, qY, fun f => Nat.beq f 50⟩
theorem sX : TabOk Tryz.prog pG := by
  refine ⟨qB, tz, fun i vs v hv => ?_⟩
  replace hv : qY i vs = some v := hv
  unfold qY at hv
  split at hv
  · rename_i hb
    have := Nat.eq_of_beq_eq_true hb
    subst this
    split at hv
    · rename_i s c
      rw [oP] at hv
      injection hv with hv; subst hv
      refine ⟨by kernel_rfl, fun S w ρ xs hx => ?_⟩
      simp only [LRel] at hx
      obtain ⟨x0, _, rfl, h0, x1, _, rfl, h1, rfl⟩ := hx
      simp only [VRel] at h0 h1
      subst h0 h1
      exact ⟨_, by simp only [VRel]; rfl, o5 _ _ _⟩
    · cases hv
  · cases hv
def jM (t : Tree) : Option (List V) → Bool
  | some [v, .int .i64 a, .int .i64 e] => treeB t v && iEq a 0 && iEq e 0
  | _ => false
theorem qb {k : Nat} {l : List UInt8} {t : Tree} (h : jM t (np pG k 27 [.str l]) = true) {w : World} : Calls Tryz.prog 27 [fZ l].toArray w fun e w' => ∃ c0 c1 c2 c3, e = .returned (.tuple #[.agg #[c0, c1, c2, c3], .int .i64 0, .int .i64 0]) ∧ TreeIs (fun b => w.heap.size ≤ b) w' t [c0, c1, c2, c3] ∧ Chg [] w w' := by
  unfold jM at h
  split at h
  · rename_i v a e hr
    simp only [Bool.and_eq_true, jv, beq_iff_eq] at h
    obtain ⟨⟨h1, rfl⟩, rfl⟩ := h
    refine (sK sX (by kernel_rfl) hr (xs := [fZ l]) ⟨_, [], rfl, by simp only [VRel], rfl⟩).mono fun e w' hR => ?_
    obtain ⟨S', ρ', ys, rfl, g1, g2, g3⟩ := hR
    simp only [LRel] at g3
    obtain ⟨x0, _, rfl, h0, x1, _, rfl, h2, x2, _, rfl, h3, rfl⟩ := g3
    simp only [VRel] at h2 h3
    subst h2 h3
    obtain ⟨c, rfl, hT⟩ := treeB_ok h1 h0
    have h4 := hT.four
    match c, h4, hT with
    | [c0, c1, c2, c3], _, hT => exact ⟨c0, c1, c2, c3, rfl, hT.keep g1 (fun _ _ _ => rfl), g2⟩
  · cases h
end Go.Proofs.YthnohcipianijaaGreatDoor
namespace Go.Proofs.YthnohcipianijaaGreatDoor
open Go.RowKit Lx Sx
section
variable {S : Nat → Prop} {w : World} {ρ : Nat → Option Value}
theorem nv : ∀ ls : List (List UInt8), CRel S w ρ 1 (ls.map .str) (ls.map fZ)
  | [] => by simp [CRel]
  | s :: r => by
    simp only [List.map_cons, CRel]
    exact ⟨fZ s, r.map fZ, by simp [Value.cells, fZ], ⟨rfl, rfl⟩, by unfold VRel; rfl, nv r⟩
mutual
theorem TreeIs.vrel : ∀ {ρ : Nat → Option Value} {t : Tree} {c : List Value}, TreeIs S w t c → LRel S w ρ (cR t) c
  | ρ, .node k s ls ks, c, h => by
    simp only [TreeIs] at h
    obtain ⟨A, m, B, n, rfl, h1, h2, h3, h4, h5, cs, h6, h7⟩ := h
    simp only [cR, Tree.kind, Tree.text, Tree.leads, Tree.kids, LRel, VRel]
    exact ⟨_, _, rfl, rfl, _, _, rfl, rfl, _, _, rfl, ⟨A, m, _, by simp, by simpa using h1, h2, nv ls, by simpa using h5⟩, _, _, rfl, ⟨B, n, cs, by simp [fS], by simpa [fS] using h3, h4, KidsAre.crel h6, by simpa [fS] using h7⟩, rfl⟩
theorem KidsAre.crel : ∀ {ρ : Nat → Option Value} {ts : List Tree} {cs : List Value}, KidsAre S w ts cs → CRel S w ρ 4 (kidsV ts) cs
  | ρ, [], cs, h => by simp only [KidsAre] at h; simp only [kidsV, CRel]; exact h
  | ρ, t :: r, cs, h => by
    simp only [KidsAre] at h
    obtain ⟨c, d, rfl, h1, h2⟩ := h
    simp only [kidsV, CRel, iE]
    exact ⟨.agg c.toArray, d, by simp [Value.cells], ⟨by simp [Value.cells, h1.four], by simpa [Value.cells] using h1.one⟩, by simp only [VRel]; exact ⟨c, rfl, h1.vrel⟩, KidsAre.crel h2⟩
end
end
theorem ti {k : Nat} {l : List UInt8} {t : Tree} (h : jM t (np pG k 27 [.str l]) = true) : aF Tryz.prog 27 [.str l] (.tup [.agg (cR t), .int .i64 0, .int .i64 0]) := by
  refine ⟨rfl, rfl, fun S w ρ xs hr hx => ?_⟩
  simp only [LRel, VRel] at hx
  obtain ⟨x, ys, rfl, rfl, rfl⟩ := hx
  refine (qb h (w := w)).mono ?_
  rintro e w' ⟨c0, c1, c2, c3, rfl, hT, hc⟩
  have hT' := hT.bound
  have g := hr.chg0 hc
  refine ⟨_, fun b => S b ∨ (w.heap.size ≤ b ∧ b < w'.heap.size), ρ, _, ⟨0, []⟩, rfl, rfl, ⟨fun i => ?_, fun i b hb => ?_, fun i j b hb _ => ?_, fun b hb => hb.elim (g.slt b) (·.2)⟩, ⟨ChgP.of0 hc, fun _ h => .inl h, fun b hb => hb.elim .inl fun h => .inr (.inr h.1), fun id b hb => .inl ⟨id, hb⟩, fun id x h => ?_⟩, ?_⟩
  · have := g.ob i; rw [hV] at this ⊢; exact this
  · rw [hV] at hb; exact hb.elim
  · rw [hV] at hb; exact hb.elim
  · simp only [kd] at h
    split at h
    · exact h
    · cases h
  · have hk := TreeIs.vrel (ρ := ρ) (TreeIs.keep (S' := fun b => S b ∨ (w.heap.size ≤ b ∧ b < w'.heap.size)) (fun b hb => .inr hb) (fun _ _ _ => rfl) hT')
    simp only [VRel]
    exact ⟨[.agg #[c0, c1, c2, c3], .int .i64 0, .int .i64 0], rfl, .agg #[c0, c1, c2, c3], _, rfl, by simp only [VRel]; exact ⟨_, rfl, hk⟩, _, _, rfl, by simp only [VRel], _, _, rfl, by simp only [VRel], rfl⟩
end Go.Proofs.YthnohcipianijaaGreatDoor
namespace Go.Proofs.YthnohcipianijaaGreatDoor
open Go.RowKit Lx Sx
set_option maxRecDepth 100000
set_option maxHeartbeats 1000000
def r9 : List UInt8 := [109, 111, 100, 117, 108, 101, 32, 77, 32, 100, 101, 102, 32, 102, 40, 110, 58, 32, 73, 110, 116, 41, 58, 32, 73, 110, 116, 32, 61, 32, 105, 102, 32, 110, 32, 60, 32, 49, 32, 116, 104, 101, 110, 32, 48, 32, 101, 108, 115, 101, 32, 110, 32, 43, 32, 102, 40, 110, 32, 45, 32, 49, 41]
def fP : Tree := (tC r9).1
theorem rO : jM fP (np pG 5000 27 [.str r9]) = true := by kernel_rfl
theorem jy : kbulk [fP] ≤ 1000000 := by decide +kernel
theorem tX : (bv [fP] 0 0 [dI 2] 100).2 = (25, 0) ∧ sameD (bv [fP] 0 0 [dI 2] 100).1 (dI 3) = true ∧ co (bv [fP] 0 0 [dI 2] 100).1 = true := by decide +kernel
theorem tr : (bv [fP] 0 0 [dI 2] 5).2 = (5, 21) := by decide +kernel
theorem rg : eo true := by
  obtain ⟨a1, a2, a3⟩ := tX
  have a4 := tr
  have r1 := sf jy 0 0 [dI 2] (by simp) 100
  have r2 := sf jy 0 0 [dI 2] (by simp) 5
  have hw := s9 jy 0 0 [dI 2] 100
  have hn := pg (bv [fP] 0 0 [dI 2] 100).1
  revert a1 a2 a3 a4 r1 r2 hw hn
  generalize bv [fP] 0 0 [dI 2] 100 = x
  generalize bv [fP] 0 0 [dI 2] 5 = y
  obtain ⟨x1, x2, x3⟩ := x
  obtain ⟨y1, y2, y3⟩ := y
  intro a1 a2 a3 a4 r1 r2 hw hn
  simp only [Prod.mk.injEq] at a1 a2 a3 a4 r1 r2 hw hn
  obtain ⟨rfl, rfl⟩ := a1
  obtain ⟨rfl, rfl⟩ := a4
  refine hI 5 _ ⟨fP, 0, 0, ti rO, _, kn 2, _, _, _, r1, gI 4 _ _ _ _ _ _ ⟨_, kn 2, _, _, _, r2, gH 3 _ _ _ _ _ _ _ ⟨fun _ => ⟨fun _ => ⟨fun _ => ⟨_, kn 3, _, lg x1 (by omega) _, fun _ => ⟨fun _ => ⟨fun _ => ⟨_, lB x1, a3⟩, fun h => absurd rfl h⟩, fun h => absurd rfl h⟩, fun h => by rw [a2] at h; cases h⟩, fun h => absurd rfl h⟩, fun h => absurd rfl h⟩, fun h => absurd rfl h⟩⟩⟩
theorem aw9 : be true := rg
theorem vp (d : GDatum) (hd : mD d ≤ 1000000000000000) : d6 d true := by
  refine gG 0 _ _ ⟨_, lL d, fun _ => ⟨_, aw9, rfl⟩, fun _ => ⟨_, aw9, fun _ => ⟨_, lB d, _, rM d hd, fun _ => ⟨_, kA d, _, lR d hd, by simp⟩, fun h => absurd rfl h⟩, fun h => by cases h⟩⟩
theorem uO (a b : GDatum) : dT a b true := by
  refine gy 0 _ _ _ ⟨_, lL a, fun _ => ⟨_, aw9, rfl⟩, fun ha => ⟨_, lL b, fun _ => ⟨_, aw9, rfl⟩, fun _ => ⟨_, aw9, fun _ => ?_, fun h => by cases h⟩⟩⟩
  have ha' : nD a < 3000 := of_decide_eq_true ha
  exact ⟨_, lg a (by omega) b, _, ss a (by omega) b, fun _ => ⟨_, lg a (by omega) a, pk a⟩, fun h => absurd rfl h⟩
end Go.Proofs.YthnohcipianijaaGreatDoor
namespace Go.Proofs.YthnohcipianijaaGreatDoor
open Go.RowKit Lx Sx
abbrev eG (W : World) : Nat → Prop := fun b => b < W.heap.size
abbrev VLive (W : World) (v : V) (x : Value) : Prop := VRel (eG W) W (fun _ => none) v x
theorem vK {fid : FuncId} {us : List V} {b : Bool} (h : aF Tryz.prog fid us (.bool b)) {W : World} {xs : List Value} (hx : LRel (eG W) W (fun _ => none) us xs) : Calls Tryz.prog fid xs.toArray W fun e W' => e = .returned (.bool b) ∧ Ext W W' := by
  have h0 := sn W
  have hr' : HRel (eG W) W (fun _ => none) (⟨0, []⟩ : Hp).get := ⟨h0.ob, fun i b hb => by rw [hV] at hb; exact hb.elim, fun i j b hb _ => by rw [hV] at hb; exact hb.elim, fun _ h => h⟩
  refine (h.2.2 _ W _ xs hr' hx).mono ?_
  rintro e W' ⟨x, S', ρ', v, H', rfl, rfl, h1, h2, h3⟩
  simp only [VRel] at h3
  subst h3
  have hno : ∀ b, ¬ ∃ id, own (fun _ => none) id ((⟨0, []⟩ : Hp).get id) b := fun b ⟨id, hb⟩ => by rw [hV] at hb; exact hb
  exact ⟨rfl, Chg.ext ⟨h2.chg.os, h2.chg.tape, h2.chg.output, h2.chg.size, fun b hb _ => h2.chg.block b hb (hno b)⟩⟩
theorem lr1 {W : World} {u : V} {x : Value} (h : VLive W u x) : LRel (eG W) W (fun _ => none) [u] [x] := ⟨x, [], rfl, h, rfl⟩
theorem lrc {W : World} {u : V} {us : List V} {x : Value} {xs : List Value} (h : VLive W u x) (k : LRel (eG W) W (fun _ => none) us xs) : LRel (eG W) W (fun _ => none) (u :: us) (x :: xs) := ⟨x, xs, rfl, h, k⟩
end Go.Proofs.YthnohcipianijaaGreatDoor
namespace Go.Proofs.YthnohcipianijaaGreatDoor
open Go.RowKit Lx Sx Go.ChangeShapes Go.WideShapes Go.Deep Go.Joins
instance : Inhabited Tree := ⟨ee⟩
theorem qw : Tryz.prog.cellsOf 3 = 1 := by kernel_rfl
theorem p7 : Tryz.prog.cellsOf 9 = 1 := by kernel_rfl
theorem l9 {α : Type} {l : List α} (h : l.length = 4) : ∃ a b c d, l = [a, b, c, d] := by
  match l, h with
  | [a, b, c, d], _ => exact ⟨a, b, c, d, rfl⟩
theorem oq {α : Type} {c : Nat → List α} : ∀ (l : List Nat) (i r : Nat), (∀ j ∈ l, (c j).length = 4) → r < 4 → (l.flatMap c)[i * 4 + r]? = (l[i]?).bind fun j => (c j)[r]?
  | [], i, r, _, _ => by simp
  | j :: l, 0, r, h, hr => by
    have := h j (by simp)
    rw [List.flatMap_cons, List.getElem?_append_left (by omega)]; simp
  | j :: l, i + 1, r, h, hr => by
    have h4 := h j (by simp)
    rw [List.flatMap_cons, List.getElem?_append_right (by omega), show (i + 1) * 4 + r - (c j).length = i * 4 + r by omega, oq l i r (fun q hq => h q (by simp [hq])) hr]; simp
theorem q0 {v a b c d : Value} (h : v.cells = #[a, b, c, d]) : v = .agg #[a, b, c, d] := by
  cases v <;> simp_all [Value.cells]
section
variable {H : Type} {enc : TypeId × Value → H} {W : World}
theorem oC (b off k : Nat) : (⟨b, off, none⟩ : Addr).add k = ⟨b, off + k, none⟩ := by unfold Addr.add; split <;> simp_all
end
end Go.Proofs.YthnohcipianijaaGreatDoor
namespace Go.Proofs.YthnohcipianijaaGreatDoor
open Go.RowKit Go.ChangeShapes Go.WideShapes Go.Deep Go.Joins
open Lx Sx
instance : Inhabited GDatum := ⟨GD0⟩
theorem m5 : Tryz.prog.cellsOf 24 = 4 := by kernel_rfl
theorem rq : Tryz.prog.cellsOf 2 = 1 := by kernel_rfl
theorem r7 : Tryz.prog.cellsOf 22 = 1 := by kernel_rfl
theorem oe {B : Nat} : ∀ l : List GDatum, (∀ d, d ∈ l → mD d ≤ B) → mDs l ≤ B
  | [], _ => by simp [mDs]
  | a :: r, h => by
    have := h a (by simp)
    have := oe r fun x hx => h x (by simp [hx])
    simp only [mDs]; omega
section
variable {H : Type} {enc : TypeId × Value → H} {W : World}
theorem jY {T : TypeId} {y : DataW H} {n : Nat} (hn : n ∈ y.weights Tryz.prog T) : ∀ {l : List (DataW H)}, y ∈ l → n ∈ DataW.weightsAll Tryz.prog T l
  | z :: r, h => by
    simp only [DataW.weightsAll, List.mem_append]
    rcases List.mem_cons.1 h with rfl | h
    · exact .inl hn
    · exact .inr (jY hn h)
theorem mK {y : DataW H} : ∀ {l : List (DataW H)}, y ∈ l → Rows.uptoBulk y ≤ Rows.uptoBulkAll l
  | z :: r, h => by
    simp only [Rows.uptoBulkAll]
    rcases List.mem_cons.1 h with rfl | h
    · omega
    · have := mK h; omega
def mz (W : World) (y : DataW H) (d : GDatum) (cs : List Value) : Prop := (LRel (eG W) W ρ0 (GDatum.c d) cs ∧ cs.length = 4 ∧ cs.all (·.oneCell') = true) ∧ ∀ B, (∀ k, k ∈ y.weights Tryz.prog 24 → k ≤ B) → mD d ≤ B
theorem m9 {g : Nat → GDatum} {c : Nat → List Value} : ∀ (l : List Nat), (∀ i, i ∈ l → LRel (eG W) W ρ0 (GDatum.c (g i)) (c i) ∧ (c i).length = 4 ∧ (c i).all (·.oneCell') = true) → CRel (eG W) W ρ0 4 (GDatum.vs (l.map g)) (l.flatMap c)
  | [], _ => by simp [CRel, GDatum.vs]
  | i :: l, h => by
    obtain ⟨h1, h2, h3⟩ := h i (by simp)
    simp only [List.map_cons, List.flatMap_cons, GDatum.vs, CRel]
    refine ⟨.agg (c i).toArray, _, by simp [Value.cells], ⟨by simp [Value.cells, h2], by simpa [Value.cells] using h3⟩, ?_, m9 l fun j hj => h j (by simp [hj])⟩
    rw [GDatum.v_eq]
    simp only [VRel]
    exact ⟨_, rfl, h1⟩
theorem sI {n : Nat} {v : Value} {x : DataW H × List MemPlace} (h : DataW.trod enc Tryz.prog W 0 (fun _ => true) true n 22 [v] = some x) (ih : ∀ n cs (y : DataW H × List MemPlace), Rows.uptoBulk y.1 < Rows.uptoBulk x.1 → DataW.trod enc Tryz.prog W 0 (fun _ => true) true n 24 cs = some y → ∃ d, mz W y.1 d cs) :
    ∃ ks, VRel (eG W) W ρ0 (.row 4 (GDatum.vs ks)) v ∧ v.oneCell' = true ∧ ∀ B, (∀ k, k ∈ x.1.weights Tryz.prog 22 → k ≤ B) → mDs ks ≤ B := by
  rcases open_slice Tryz.underlying22 h with ⟨hcs, hx3⟩ | ⟨a, len, cap, m3, n3, D, Pl, hcs, hb, hl3, hm3, hmm, hx3, hi⟩
  · simp only [List.cons.injEq, and_true] at hcs
    subst hcs
    refine ⟨[], ?_, rfl, fun B _ => by simp [mDs]⟩
    simp only [VRel]
    exact ⟨none, 0, [], rfl, Nat.le_refl _, by simp [maxLen], by simp [CRel, GDatum.vs], RowIn.none_⟩
  · simp only [List.cons.injEq, and_true] at hcs
    simp only [if_true] at hmm
    subst hmm hcs
    rw [m5] at hi
    have hall : Rows.uptoBulk x.1 = Rows.uptoBulkAll ((List.range len).map D) + Rows.uptoBulkAll ((List.range (m3 - len)).map fun j => D (len + j)) + 1 := by
      rw [hx3]; simp only [Rows.uptoBulk]
    obtain ⟨T, hT⟩ := choose_lt (α := GDatum × List Value) (p := fun i t => i < len → W.cells? 0 (a.add (i * 4)) 4 = some t.2 ∧ mz W (D i) t.1 t.2) (n := m3) (fun i him => by
      by_cases hil : i < len
      · obtain ⟨cs', hc, ht⟩ := hi i him
        have hb1 : Rows.uptoBulk (D i) ≤ Rows.uptoBulkAll ((List.range len).map D) := mK (List.mem_map.2 ⟨i, by simp [hil], rfl⟩)
        obtain ⟨d, g1⟩ := ih n3 cs' (D i, Pl i) (by simp only; omega) ht
        exact ⟨(d, cs'), fun _ => ⟨hc, g1⟩⟩
      · exact ⟨(GD0, []), fun h => absurd h hil⟩)
    have hTl : ∀ i, i ∈ List.range len → W.cells? 0 (a.add (i * 4)) 4 = some (T i).2 ∧ mz W (D i) (T i).1 (T i).2 := fun i hi' => by
      have := List.mem_range.1 hi'
      exact hT i (by omega) this
    have hrow : RowIn (eG W) W 4 (some a) len ((List.range len).flatMap fun i => (T i).2) := by
      refine ⟨?_, fun h0 => ?_⟩
      · have e : ∀ l : List Nat, (∀ i, i ∈ l → (T i).2.length = 4) → (l.flatMap fun i => (T i).2).length = l.length * 4 := by
          intro l
          induction l with
          | nil => simp
          | cons i r ihr =>
            intro hh
            have := hh i (by simp)
            have := ihr fun j hj => hh j (by simp [hj])
            simp only [List.flatMap_cons, List.length_append, List.length_cons]; omega
        rw [e _ fun i hi' => (hTl i hi').2.1.2.1]; simp
      · have hcell : ∀ i, i < len → ∀ r, r < 4 → W.cell? ((a.add (i * 4)).add r) = (T i).2[r]? := fun i hi' r hr => by
          have h4 := (hTl i (by simp [hi'])).2.1.2.1
          have := (World.cells?_some (hTl i (by simp [hi'])).1).2.2 r (by omega)
          rw [this]
        have hsome : ∃ v, W.cell? a = some v := by
          have h4 := (hTl 0 (by simp [h0])).2.1.2.1
          have := hcell 0 h0 0 (by omega)
          refine ⟨(T 0).2[0]'(by omega), ?_⟩
          rw [List.getElem?_eq_getElem (by omega)] at this
          simpa [Addr.add] using this
        obtain ⟨vv, hvv⟩ := hsome
        have hs : a.spot = none := World.cell?_spot (a := a) hvv
        obtain ⟨b, off, spot⟩ := a
        simp only at hs
        subst hs
        refine ⟨b, off, rfl, World.block_lt_of_cell? W ⟨b, off, none⟩ hvv, World.block_lt_of_cell? W ⟨b, off, none⟩ hvv, fun j hj => ?_⟩
        have e := hcell (j / 4) (by omega) (j % 4) (by omega)
        rw [oC, oC, show off + j / 4 * 4 + j % 4 = off + j by omega] at e
        have e2 := oq (c := fun i => (T i).2) (List.range len) (j / 4) (j % 4) (fun i hi' => (hTl i hi').2.1.2.1) (by omega)
        rw [show j / 4 * 4 + j % 4 = j by omega] at e2
        rw [e, e2]; simp [show j / 4 < len by omega]
    refine ⟨(List.range len).map fun i => (T i).1, ?_, rfl, fun B hB => ?_⟩
    · simp only [VRel]
      refine ⟨some a, m3, (List.range len).flatMap fun i => (T i).2, ?_, ?_, hm3, m9 _ fun i hi' => (hTl i hi').2.1, ?_⟩
      · rw [GDatum.vlen]; simp
      · rw [GDatum.vlen]; simpa using hl3
      · rw [GDatum.vlen]; simpa using hrow
    · refine oe _ fun d hd => ?_
      obtain ⟨i, hi', rfl⟩ := List.mem_map.1 hd
      refine (hTl i hi').2.2 B fun k hk => hB k ?_
      rw [hx3]
      simp only [DataW.weights, Tryz.underlying22, List.mem_cons, List.mem_append]
      exact .inr (.inl (jY hk (List.mem_map.2 ⟨i, hi', rfl⟩)))
theorem qh : ∀ (q n : Nat) (cs : List Value) (x : DataW H × List MemPlace), Rows.uptoBulk x.1 ≤ q → DataW.trod enc Tryz.prog W 0 (fun _ => true) true n 24 cs = some x → ∃ d, mz W x.1 d cs
  | q, n, cs, x, hq, h => by
    obtain ⟨y0, y1, y2, y3, n', hx, hl, h0, h1, h2, h3⟩ := trod_struct4 Tryz.underlying24 h
    rw [m5] at hl
    obtain ⟨v0, v1, v2, v3, rfl⟩ := l9 hl
    simp only [qw, p7, rq, r7, List.drop_zero, List.drop_succ_cons, List.take_succ_cons, List.take_zero] at h0 h1 h2 h3
    obtain ⟨k, e0, f0, _⟩ := DataW.trod_int Tryz.underlying3 h0
    obtain ⟨j, e1, f1, _⟩ := DataW.trod_int Tryz.underlying2 h1
    obtain ⟨s, e2, f2, _⟩ := DataW.trod_string Tryz.underlying9 h2
    simp only [List.cons.injEq, and_true] at e0 e1 e2
    have hbk : Rows.uptoBulk x.1 = Rows.uptoBulk y0.1 + (Rows.uptoBulk y1.1 + (Rows.uptoBulk y2.1 + (Rows.uptoBulk y3.1 + 0))) + 1 := by rw [hx]; simp only [Rows.uptoBulk, Rows.uptoBulkAll]
    obtain ⟨ks, g1, g2, g3⟩ := sI h3 fun n cs y hy hc => qh (q - 1) n cs y (by omega) hc
    have hs : y2.1 = .lit (.string s.data.toList) := by rw [f2]
    refine ⟨⟨k, j, s.data.toList, ks⟩, ⟨?_, rfl, ?_⟩, fun B hB => ?_⟩
    · subst e0 e1 e2
      simp only [GDatum.c, LRel]
      exact ⟨_, _, rfl, by simp only [VRel], _, _, rfl, by simp only [VRel], _, _, rfl, by simp only [VRel], _, _, rfl, g1, rfl⟩
    · subst e0 e1 e2
      simp only [List.all_cons, List.all_nil, g2, Bool.and_true]; rfl
    · have hw : ∀ k, k ∈ y2.1.weights Tryz.prog 9 ∨ k ∈ y3.1.weights Tryz.prog 22 → k ≤ B := fun k hk => hB k (by
        rw [hx]
        simp only [DataW.weights, Tryz.underlying24, List.map_cons, List.map_nil, DataW.weightsEach, List.mem_append, List.toList_toArray]
        rcases hk with hk | hk
        · exact .inr (.inr (.inl hk))
        · exact .inr (.inr (.inr (.inl hk))))
      rw [sd]
      have a1 : s.data.toList.length ≤ B := hw _ (.inl (by rw [hs]; simp [DataW.weights]))
      have a2 := g3 B fun k hk => hw k (.inr hk)
      show max s.data.toList.length (mDs ks) ≤ B
      omega
  termination_by q => q
  decreasing_by omega
theorem vx {v : Value} {d : DataW H} {p : List MemPlace} (h : DataW.Trod enc Tryz.prog W 0 (fun _ => true) true 24 v d p) : ∃ t, VLive W (GDatum.w t) v ∧ ∀ B, (∀ k, k ∈ d.weights Tryz.prog 24 → k ≤ B) → mD t ≤ B := by
  obtain ⟨fuel, h3⟩ := h
  obtain ⟨t, g1, g3⟩ := qh _ fuel _ _ (Nat.le_refl _) h3
  obtain ⟨c0, c1, c2, c3, e⟩ := l9 g1.2.1
  have e' : v = .agg #[c0, c1, c2, c3] := q0 (by apply Array.ext'; simpa using e)
  subst e'
  refine ⟨t, ?_, g3⟩
  simp only [VLive, VRel]
  exact ⟨_, rfl, g1.1⟩
theorem vr {ts : List TypeId} {ds : List (DataW H)} (h : (DataW.weightsEach Tryz.prog ts ds).all (· ≤ reachBytes) = true) {j : Nat} {t : TypeId} {d : DataW H} (ht : ts[j]? = some t) (hd : ds[j]? = some d) : ∀ k, k ∈ d.weights Tryz.prog t → k ≤ reachBytes := fun k hk => by
  have := List.all_eq_true.1 h _ (DataW.weights_mem_each ht hd k hk)
  simpa using this
end
end Go.Proofs.YthnohcipianijaaGreatDoor
namespace Go.Proofs.YthnohcipianijaaGreatDoor
def nw (cs : Array Value) : Obj → Obj
  | .cells _ t frozen => .cells cs t frozen
  | o => o
noncomputable def uD : Nat := (World.holding Tryz.prog default ⟨#[], #[], []⟩).heap.size
noncomputable def qJ (os : Os) : World :=
  let w0 := World.holding Tryz.prog os ⟨#[.cells #[.string ⟨#[105, 110, 118, 97, 108, 105, 100, 32, 115, 121, 110, 116, 97, 120]⟩] 242, .cells #[.string ⟨#[118, 97, 108, 117, 101, 32, 111, 117, 116, 32, 111, 102, 32, 114, 97, 110, 103, 101]⟩] 242], #[], []⟩
  { w0 with heap := ((((w0.heap.modify 3 (nw #[.iface 240 (.pointer (some ⟨uD, 0, none⟩))])).modify 4 (nw #[.iface 240 (.pointer (some ⟨uD + 1, 0, none⟩))])).modify 6 (nw #[.int .u64 1, .int .u64 10, .int .u64 100, .int .u64 1000, .int .u64 10000, .int .u64 100000, .int .u64 1000000, .int .u64 10000000, .int .u64 100000000, .int .u64 1000000000, .int .u64 10000000000, .int .u64 100000000000, .int .u64 1000000000000, .int .u64 10000000000000, .int .u64 100000000000000, .int .u64 1000000000000000, .int .u64 10000000000000000, .int .u64 100000000000000000, .int .u64 1000000000000000000, .int .u64 10000000000000000000])).modify 7 (nw #[.int .u8 0, .int .u8 1, .int .u8 28, .int .u8 2, .int .u8 29, .int .u8 14, .int .u8 24, .int .u8 3, .int .u8 30, .int .u8 22, .int .u8 20, .int .u8 15, .int .u8 25, .int .u8 17, .int .u8 4, .int .u8 8, .int .u8 31, .int .u8 27, .int .u8 13, .int .u8 23, .int .u8 21, .int .u8 19, .int .u8 16, .int .u8 7, .int .u8 26, .int .u8 12, .int .u8 18, .int .u8 6, .int .u8 11, .int .u8 5, .int .u8 10, .int .u8 9])).modify 8 (nw #[.int .u8 0, .int .u8 1, .int .u8 56, .int .u8 2, .int .u8 57, .int .u8 49, .int .u8 28, .int .u8 3, .int .u8 61, .int .u8 58, .int .u8 42, .int .u8 50, .int .u8 38, .int .u8 29, .int .u8 17, .int .u8 4, .int .u8 62, .int .u8 47, .int .u8 59, .int .u8 36, .int .u8 45, .int .u8 43, .int .u8 51, .int .u8 22, .int .u8 53, .int .u8 39, .int .u8 33, .int .u8 30, .int .u8 24, .int .u8 18, .int .u8 12, .int .u8 5, .int .u8 63, .int .u8 55, .int .u8 48, .int .u8 27, .int .u8 60, .int .u8 41, .int .u8 37, .int .u8 16, .int .u8 46, .int .u8 35, .int .u8 44, .int .u8 21, .int .u8 52, .int .u8 32, .int .u8 23, .int .u8 11, .int .u8 54, .int .u8 26, .int .u8 40, .int .u8 15, .int .u8 34, .int .u8 20, .int .u8 31, .int .u8 10, .int .u8 25, .int .u8 14, .int .u8 19, .int .u8 9, .int .u8 13, .int .u8 8, .int .u8 7, .int .u8 6]) }
theorem vC (os : Os) (args : Array Value) : laidMet Tryz.prog Rows.evalDataRow.laid ((qJ os).forCall (fun _ _ => 0) ⟨#[], args, []⟩).memory :=
  laidMet_of_run' 8 (by kernel_rfl) (by kernel_rfl)
end Go.Proofs.YthnohcipianijaaGreatDoor
