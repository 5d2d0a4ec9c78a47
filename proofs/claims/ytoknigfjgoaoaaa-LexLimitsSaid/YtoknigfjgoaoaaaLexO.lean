/- Contracts of Join of the program and of the reference. -/
import Derived.Test.YtoknigfjgoaoaaaLexN
import Derived.Test.YtoknigfjgoaoaaaBuild
namespace Go.Proofs.Ytoknigfjgoaoaaa
open Go.RowKit Lx
set_option linter.unusedSimpArgs false
set_option linter.unusedVariables false

/-- How many bytes the leads and texts of tokens have. -/
def totalT : List Tok → Nat
  | [] => 0
  | t :: r => t.lead.length + t.text.length + totalT r
theorem joinT_len : ∀ (l : List Tok) (tail : List UInt8), (joinT l tail).length = totalT l + tail.length
  | [], tail => by simp [joinT, totalT]
  | t :: r, tail => by simp [joinT, totalT, joinT_len r tail]; omega
theorem totalT_drop : ∀ (l : List Tok) (k : Nat), totalT (l.drop k) ≤ totalT l
  | [], k => by simp
  | t :: r, 0 => by simp
  | t :: r, k + 1 => by have := totalT_drop r k; simp only [List.drop_succ_cons, totalT]; omega
theorem joinT_step {l : List Tok} {k : Nat} (h : k < l.length) (tail : List UInt8) : joinT (l.drop k) tail = l[k].lead ++ l[k].text ++ joinT (l.drop (k + 1)) tail := by
  rw [List.drop_eq_getElem_cons h]; rfl
theorem joinT_end {l : List Tok} {k : Nat} (h : l.length ≤ k) (tail : List UInt8) : joinT (l.drop k) tail = tail := by
  rw [List.drop_of_length_le h]; rfl

set_option maxHeartbeats 2000000 in
theorem joinR (v : Value) (l : List Tok) (tail : List UInt8) (w : World) (hv : TokRow w v l) (hl : l.length ≤ 1000000) (hj : (joinT l tail).length ≤ 4611686018427387904) : Calls Try.prog 24 #[v, .string ⟨tail.toArray⟩] w fun e w' => e = .returned (.string ⟨(joinT l tail).toArray⟩) ∧ Ext w w' := by
  obtain ⟨A, c, rfl, hc1, hc2, hrow⟩ := hv
  have HRow := Lib.hid hrow; clear hrow
  obtain ⟨J, hJ⟩ : ∃ J, joinT l tail = J := ⟨_, rfl⟩
  have HJ := Lib.hid hJ
  rw [hJ] at hj ⊢
  clear hJ
  have hx := app_list
  go_enter Try.func24, Try.ntmps24
  go_wp2_with fail
  go_loopg [5, 6] l.length (fun g s5 s6 wx => ∃ (i : Nat) (acc : List UInt8), g = l.length - i ∧ i ≤ l.length ∧ s5 = .string ⟨acc.toArray⟩ ∧ s6 = .int .i64 i ∧ Hid (acc ++ joinT (l.drop i) tail = J) ∧ Hid (Ext w wx))
  case atStart => exact ⟨0, [], rfl, Nat.zero_le _, rfl, rfl, Lib.hid (by simpa using HJ.out), Lib.hid (Ext.refl _)⟩
  case round =>
    obtain ⟨i, acc, rfl, hil, rfl, rfl, HA, HX⟩ := hrel
    by_cases hit : i < l.length
    · obtain ⟨b, off, rfl, hb, p0, p1, p2⟩ := tokRow_at (HRow.out.ext HX.out) hit
      have HS := Lib.hid (HA.out.symm.trans (congrArg (acc ++ ·) (joinT_step hit tail)))
      have h0 : (0 : Int) ≤ (i : Int) := by omega
      have h1 : (i : Int) < (l.length : Int) := by omega
      generalize l[i] = t at p0 p1 p2 HS
      have hlen := congrArg List.length HS.out
      simp only [List.length_append] at hlen
      have hl1 : acc.length + t.lead.length ≤ 4611686018427387904 := by omega
      have hl2 : acc.length + t.lead.length + t.text.length ≤ 4611686018427387904 := by omega
      clear hlen
      go_wp2_with fail
      go_quiet (fail)
      go_wp2_with fail
      go_roundg (l.length - (i + 1))
      case measure => omega
      case rel => exact ⟨i + 1, acc ++ (t.lead ++ t.text), rfl, by omega, rfl, by go_num, Lib.hid (by rw [HS.out]; simp), Lib.hid (Ext.drewN HX.out _)⟩
    · have HE := Lib.hid (show acc ++ tail = J from by rw [← HA.out, joinT_end (by omega)])
      have hlen : acc.length + tail.length ≤ 4611686018427387904 := by have := congrArg List.length HE.out; simp at this; omega
      go_wp2_with fail
      go_ret
      exact ⟨by rw [← HE.out]; rfl, HX.out⟩

theorem headBuilder : HeadB 50 0 := ⟨by decide, by kernel_rfl⟩

set_option maxHeartbeats 2000000 in
theorem joinL (v : Value) (l : List Tok) (tail : List UInt8) (w : World) (hv : TokRow w v l) (hl : l.length ≤ 1000000) (hj : (joinT l tail).length ≤ 140737488355328) : Calls Try.prog 23 #[v, .string ⟨tail.toArray⟩] w fun e w' => e = .returned (.string ⟨(joinT l tail).toArray⟩) ∧ Ext w w' := by
  obtain ⟨A, c, rfl, hc1, hc2, hrow⟩ := hv
  have HRow := Lib.hid hrow; clear hrow
  obtain ⟨J, hJ⟩ : ∃ J, joinT l tail = J := ⟨_, rfl⟩
  have HJ := Lib.hid hJ
  rw [hJ] at hj ⊢
  clear hJ
  go_enter Try.func23, Try.ntmps23
  go_wp2_with fail
  go_loopg [10] l.length (fun g s10 wx => ∃ (i : Nat) (acc : List UInt8), g = l.length - i ∧ i ≤ l.length ∧ s10 = .int .i64 i ∧ Hid (acc ++ joinT (l.drop i) tail = J) ∧ Hid (Bd 50 w.heap.size w.heap.size [] acc wx) ∧ Hid (Ext w wx) ∧ w.heap.size < wx.heap.size)
  case atStart =>
    refine ⟨0, [], rfl, Nat.zero_le _, rfl, Lib.hid (by simpa using HJ.out), Lib.hid ⟨_, _, .inl rfl, Nat.le_refl _, ?_, World.ownsRow_nil _ _ _ _⟩, Lib.hid ((Ext.refl w).alloc _), by simp⟩
    exact heap_alloc_new w _
  case round =>
    obtain ⟨i, acc, rfl, hil, rfl, HA, HBd, HX, hsz⟩ := hrel
    by_cases hit : i < l.length
    · obtain ⟨b, off, rfl, hb, p0, p1, p2⟩ := tokRow_at (HRow.out.ext HX.out) hit
      have HS := Lib.hid (HA.out.symm.trans (congrArg (acc ++ ·) (joinT_step hit tail)))
      have h0 : (0 : Int) ≤ (i : Int) := by omega
      have h1 : (i : Int) < (l.length : Int) := by omega
      generalize l[i] = t at p0 p1 p2 HS
      have hlen : acc.length + t.lead.length + t.text.length ≤ 140737488355328 := by have := congrArg List.length HS.out; simp at this; omega
      go_wp2_with fail
      obtain ⟨W2, hW2⟩ : ∃ W2, wr.alloc (.cells #[.int .i64 t.kind, .string ⟨t.lead.toArray⟩, .string ⟨t.text.toArray⟩] 34) = W2 := ⟨_, rfl⟩
      rw [hW2]
      have HK0 := Lib.hid (show W2.heap[wr.heap.size]? = some (.cells #[.int .i64 t.kind, .string ⟨t.lead.toArray⟩, .string ⟨t.text.toArray⟩] 34 (0, 0)) from by rw [← hW2]; exact heap_alloc_new wr _)
      have hsz2 : wr.heap.size < W2.heap.size := by rw [← hW2]; simp
      have HB2 := Lib.hid (show Bd 50 w.heap.size w.heap.size [] acc W2 from by
        obtain ⟨p, v, hp, h1, h2, h3⟩ := HBd.out
        refine ⟨p, v, hp, h1, ?_, ?_⟩
        · rw [← hW2, Below.heap_alloc _ _ _ (heap_lt h2)]; exact h2
        · rw [← hW2]; exact h3.alloc _)
      have HX2 := Lib.hid (show Ext w W2 from by rw [← hW2]; exact HX.out.alloc _)
      obtain ⟨B, hB⟩ : ∃ B, wr.heap.size = B := ⟨_, rfl⟩
      rw [hB] at HK0 hsz2 hsz
      rw [hB]
      clear hW2 hB HBd HX p0 p1 p2
      refine (writeString 50 w.heap.size w.heap.size [] acc t.lead _ headBuilder HB2.out (by omega) (by omega)).mono ?_
      rintro e1 w3 ⟨rfl, hbd3, hfr3, hbel3⟩
      have hs3 := hfr3.1
      have HK3 := Lib.hid (hfr3.keep HK0.out (by decide) (by omega))
      have c2 : w3.cell? ⟨B, 2, none⟩ = some (.string ⟨t.text.toArray⟩) := by rw [Lib.cell_of_heap HK3.out]; rfl
      have HB3 := Lib.hid hbd3
      have HX3 := Lib.hid (show Ext w w3 from Below.trans HX2.out hbel3)
      clear hbd3 hfr3 hbel3
      go_wp2_with fail
      refine (writeString 50 w.heap.size w.heap.size [] (acc ++ t.lead) t.text _ headBuilder HB3.out (by simp; omega) (by omega)).mono ?_
      rintro e2 w4 ⟨rfl, hbd4, hfr4, hbel4⟩
      have hs4 := hfr4.1
      have HB4 := Lib.hid hbd4
      have HX4 := Lib.hid (show Ext w w4 from Below.trans HX3.out hbel4)
      clear hbd4 hfr4 hbel4 c2
      go_wp2_with fail
      go_roundg (l.length - (i + 1))
      case measure => omega
      case rel => exact ⟨i + 1, acc ++ t.lead ++ t.text, rfl, by omega, by go_num, Lib.hid (by rw [HS.out]; simp), HB4, HX4, by omega⟩
    · have HE := Lib.hid (show acc ++ tail = J from by rw [← HA.out, joinT_end (by omega)])
      have hlen : acc.length + tail.length ≤ 140737488355328 := by have := congrArg List.length HE.out; simp at this; omega
      go_wp2_with fail
      refine (writeString 50 w.heap.size w.heap.size [] acc tail _ headBuilder HBd.out hlen (by omega)).mono ?_
      rintro e1 w3 ⟨rfl, hbd3, hfr3, hbel3⟩
      have hs3 := hfr3.1
      have HB3 := Lib.hid hbd3
      have HX3 := Lib.hid (show Ext w w3 from Below.trans HX.out hbel3)
      clear hbd3 hfr3 hbel3
      go_wp2_with fail
      refine (builderString 50 w.heap.size w.heap.size [] (acc ++ tail) _ HB3.out (by omega)).mono ?_
      rintro e2 w4 ⟨rfl, hbel4⟩
      have HX4 := Lib.hid (show Ext w w4 from Below.trans HX3.out hbel4)
      clear hbel4
      go_wp2_with fail
      go_ret
      exact ⟨by rw [← HE.out]; rfl, HX4.out⟩

set_option maxHeartbeats 1000000 in
theorem joinsW (v : Value) (l : List Tok) (tail : List UInt8) (w : World) (hv : TokRow w v l) (hj : (joinT l tail).length ≤ 140737488355328) : Calls Try.prog 8 #[v, .string ⟨tail.toArray⟩] w fun e w' => e = .returned (.bool true) ∧ Ext w w' := by
  have HV := Lib.hid hv
  obtain ⟨A, c, rfl, hc1, hc2, hrow⟩ := hv
  unfold maxLen at hc2
  clear hrow
  by_cases h2 : 200 < l.length
  · go_enter Try.func8, Try.ntmps8
    go_wp2_with fail
    refine (awakeL _).mono ?_
    rintro e1 w1 ⟨rfl, hx1⟩
    have HX1 := Lib.hid hx1; clear hx1
    go_wp2
    go_ret
    exact ⟨rfl, HX1.out⟩
  · go_enter Try.func8, Try.ntmps8
    go_wp2_with fail
    refine (awakeL _).mono ?_
    rintro e1 w1 ⟨rfl, hx1⟩
    have HV1 := Lib.hid (tokRow_ext HV.out hx1)
    have HX1 := Lib.hid hx1; clear hx1
    go_wp2_with fail
    refine (joinL _ l _ _ HV1.out (by omega) hj).mono ?_
    rintro e2 w2 ⟨rfl, hx2⟩
    have HV2 := Lib.hid (tokRow_ext HV1.out hx2)
    have HX2 := Lib.hid (HX1.out.trans hx2); clear hx2
    go_wp2_with fail
    refine (joinR _ l _ _ HV2.out (by omega) (by omega)).mono ?_
    rintro e3 w3 ⟨rfl, hx3⟩
    have HX3 := Lib.hid (HX2.out.trans hx3); clear hx3
    go_wp2
    go_ret
    exact ⟨ret_bool (by simp), HX3.out⟩
end Go.Proofs.Ytoknigfjgoaoaaa
