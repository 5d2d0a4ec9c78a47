/- The walk of LexAgain. -/
import Derived.Test.YtoknigfjgoaoaaaLexS
import Derived.Test.YtoknigfjgoaoaaaLexT
namespace Go.Proofs.Ytoknigfjgoaoaaa
open Go.RowKit Lx
set_option linter.unusedSimpArgs false
set_option linter.unusedVariables false

theorem apart_snoc : ∀ (l : List Tok) (t : Tok), Apart l → (∀ x, l.getLast? = some x → t.lead = [] → fusesT x.text t.text = false) → Apart (l ++ [t])
  | [], t, _, _ => trivial
  | [a], t, _, h => ⟨h a rfl, trivial⟩
  | a :: b :: r, t, h, hl => ⟨h.1, apart_snoc (b :: r) t h.2 (fun x hx => hl x (by simpa using hx))⟩
theorem take_succ_tok {l : List Tok} {i : Nat} (h : i < l.length) : l.take (i + 1) = l.take i ++ [l[i]] := List.take_succ_eq_append_getElem h

/-- What the loop has seen so far. -/
def Seen (l : List Tok) (i : Nat) : Prop := (∀ t ∈ l.take i, GoodTok t) ∧ Apart (l.take i)
theorem seen_step {l : List Tok} {i : Nat} (hi : i < l.length) (h : Seen l i) (hg : GoodTok l[i]) (ha : ∀ (hp : i - 1 < l.length), 0 < i → l[i].lead = [] → fusesT (l[i - 1]'hp).text l[i].text = false) : Seen l (i + 1) := by
  unfold Seen
  rw [take_succ_tok hi]
  refine ⟨?_, apart_snoc _ _ h.2 ?_⟩
  · intro t ht
    rcases List.mem_append.1 ht with ht | ht
    · exact h.1 t ht
    · simp at ht; subst ht; exact hg
  · intro x hx hl
    by_cases h0 : i = 0
    · subst h0; simp at hx
    · have e : (l.take i).getLast? = some l[i - 1] := by
        rw [List.getLast?_eq_getElem?, List.length_take, Nat.min_eq_left (by omega), List.getElem?_take_of_lt (by omega), List.getElem?_eq_getElem (by omega)]
      rw [e] at hx
      simp only [Option.some.injEq] at hx
      subst hx
      exact ha (by omega) (by omega) hl

set_option maxHeartbeats 8000000 in
set_option maxRecDepth 100000 in
theorem againW (v : Value) (l : List Tok) (tail : List UInt8) (w : World) (hv : TokRow w v l) (ht47 : tail.length ≤ 140737488355328) (hj : l.length ≤ 100 → (joinT l tail).length ≤ 4611686018427387904) : Calls Try.prog 10 #[v, .string ⟨tail.toArray⟩] w fun e w' => e = .returned (.bool true) ∧ Ext w w' := by
  have HV := Lib.hid hv
  obtain ⟨A, c, rfl, hc1, hc2, hrow⟩ := hv
  unfold maxLen at hc2
  have HRow := Lib.hid hrow
  clear hrow
  by_cases h1 : 100 < l.length
  · clear hj
    go_enter Try.func10, Try.ntmps10
    go_wp2_with fail
    refine (awakeL _).mono ?_
    rintro e9 w9 ⟨rfl, hx9⟩
    have HX9 := Lib.hid ((Ext.refl w).trans hx9); clear hx9
    go_wp2
    go_ret
    exact ⟨rfl, HX9.out⟩
  have hjl := hj (by omega)
  have hj100 : l.length ≤ 100 := by omega
  clear hj
  have hb1 : decide ((100 : Int) < (l.length : Int)) = false := by simp; omega
  go_enter Try.func10, Try.ntmps10
  go_wp2_with fail
  refine (triviaL _ _ _ (by omega)).mono ?_
  rintro e1 w1 ⟨rfl, rfl⟩
  cases htr : triviaT false tail true
  · go_wp2_with fail
    refine (awakeL _).mono ?_
    rintro e9 w9 ⟨rfl, hx9⟩
    have HX9 := Lib.hid ((Ext.refl w).trans hx9); clear hx9
    go_wp2
    go_ret
    exact ⟨rfl, HX9.out⟩
  go_wp2_with fail
  refine (joinR _ l _ _ HV.out (by omega) hjl).mono ?_
  rintro e2 w2 ⟨rfl, hx2⟩
  have HV2 := Lib.hid (tokRow_ext HV.out hx2)
  have HRow2 := Lib.hid (HRow.out.ext hx2)
  have HX2 := Lib.hid hx2; clear hx2
  by_cases h4 : 4096 < (joinT l tail).length
  · go_wp2_with fail
    refine (awakeL _).mono ?_
    rintro e9 w9 ⟨rfl, hx9⟩
    have HX9 := Lib.hid (HX2.out.trans hx9); clear hx9
    go_wp2
    go_ret
    exact ⟨rfl, HX9.out⟩
  have h4b : decide ((4096 : Int) < ((joinT l tail).length : Int)) = false := by simp; omega
  have htot : totalT l + tail.length ≤ 4096 := by rw [← joinT_len]; omega
  have H4 := Lib.hid (show (joinT l tail).length ≤ 4096 from by omega)
  generalize hJ : (joinT l tail) = J at h4b
  have HJ := Lib.hid hJ
  clear hJ h4 hjl
  go_wp2_with fail
  go_loopg [5] l.length (fun g s5 wx => ∃ i : Nat, g = l.length - i ∧ i ≤ l.length ∧ s5 = .int .i64 i ∧ Hid (Seen l i) ∧ Hid (Ext w2 wx))
  case atStart => exact ⟨0, rfl, Nat.zero_le _, rfl, Lib.hid ⟨by simp, by simp [Apart]⟩, Lib.hid (Ext.refl _)⟩
  case round =>
    obtain ⟨i, rfl, hil, rfl, HS, HX⟩ := hrel
    by_cases hit : i < l.length
    rotate_left
    · have hS := HS.out
      have hii : i = l.length := by omega
      have HScan := Lib.hid (show scan J = ⟨l, tail, 0, 0⟩ from by
        rw [← HJ.out]
        unfold Seen at hS
        rw [hii, List.take_length] at hS
        exact scan_again hS.1 hS.2 htr H4.out)
      clear hS
      have HV3 := Lib.hid (tokRow_ext HV2.out HX.out)
      go_wp2_with fail
      refine (joinL _ l _ _ HV3.out (by omega) (by have := H4.out; omega)).mono ?_
      rintro e3 w3 ⟨rfl, hx3⟩
      rw [HJ.out]
      have HV4 := Lib.hid (tokRow_ext HV3.out hx3)
      have HX4 := Lib.hid ((HX2.out.trans HX.out).trans hx3); clear hx3
      have hJ4 : J.length ≤ 4096 := by rw [← HJ.out]; exact H4.out
      go_wp2_with fail
      refine (scanL _ _ (by omega)).mono ?_
      rintro e4 w4 ⟨v4, rfl, htr4, hx4⟩
      rw [HScan.out] at htr4 ⊢
      have HV5 := Lib.hid (tokRow_ext HV4.out hx4)
      have HX5 := Lib.hid (HX4.out.trans hx4); clear hx4
      have HM := Lib.hid htr4
      obtain ⟨A4, c4, rfl, _, _, _⟩ := htr4
      go_wp2_with fail
      refine (awakeL _).mono ?_
      rintro e5 w5 ⟨rfl, hx5⟩
      have HV6 := Lib.hid (tokRow_ext HV5.out hx5)
      have HM6 := Lib.hid (tokRow_ext HM.out hx5)
      have HX6 := Lib.hid (HX5.out.trans hx5); clear hx5
      have htt : (tail == tail) = true := by simp
      go_wp2_with fail
      refine (sameR _ _ _ _ _ HM6.out HV6.out).mono ?_
      rintro e6 w6 ⟨rfl, hx6⟩
      have HX7 := Lib.hid (HX6.out.trans hx6); clear hx6
      rw [(sameT_iff _ _).2 rfl]
      go_wp2
      go_ret
      exact ⟨rfl, HX7.out⟩
    obtain ⟨b, off, rfl, hb, p0, p1, p2⟩ := tokRow_at (HRow2.out.ext HX.out) hit
    have hsz := total_mem (List.getElem_mem hit)
    have HSt := Lib.hid (fun hg ha => seen_step hit HS.out hg ha)
    have h0 : (0 : Int) ≤ (i : Int) := by omega
    have hlt1 : (i : Int) < (l.length : Int) := by omega
    obtain ⟨t, htk⟩ : ∃ t, l[i] = t := ⟨_, rfl⟩
    rw [htk] at p0 p1 p2 hsz HSt
    have HTK := Lib.hid htk; clear htk
    have hz1 : t.text.length ≤ 281474976710656 := by omega
    have hz2 : t.lead.length ≤ 281474976710656 := by omega
    cases f1 : ((classT t.text : Int) != t.kind)
    rotate_left
    · go_wp2_with fail
      go_quiet ((first | (go_at_call 15; exact Calls.quiet_of_same (quietC (classL _ _ hz1))) | (go_at_call 21; exact Calls.quiet_of_same (quietC (triviaL _ _ _ hz2)))))
      go_wp2_with fail
      refine (awakeL _).mono ?_
      rintro e9 w9 ⟨rfl, hx9⟩
      have HX9 := Lib.hid ((HX2.out.trans (Ext.drewN HX.out _)).trans hx9); clear hx9
      go_wp2
      go_ret
      exact ⟨rfl, HX9.out⟩
    cases f2 : (t.kind == 0)
    rotate_left
    · go_wp2_with fail
      go_quiet ((first | (go_at_call 15; exact Calls.quiet_of_same (quietC (classL _ _ hz1))) | (go_at_call 21; exact Calls.quiet_of_same (quietC (triviaL _ _ _ hz2)))))
      go_wp2_with fail
      refine (awakeL _).mono ?_
      rintro e9 w9 ⟨rfl, hx9⟩
      have HX9 := Lib.hid ((HX2.out.trans (Ext.drewN HX.out _)).trans hx9); clear hx9
      go_wp2
      go_ret
      exact ⟨rfl, HX9.out⟩
    cases f3 : triviaT false t.lead false
    · go_wp2_with fail
      go_quiet ((first | (go_at_call 15; exact Calls.quiet_of_same (quietC (classL _ _ hz1))) | (go_at_call 21; exact Calls.quiet_of_same (quietC (triviaL _ _ _ hz2)))))
      go_wp2_with fail
      refine (awakeL _).mono ?_
      rintro e9 w9 ⟨rfl, hx9⟩
      have HX9 := Lib.hid ((HX2.out.trans (Ext.drewN HX.out _)).trans hx9); clear hx9
      go_wp2
      go_ret
      exact ⟨rfl, HX9.out⟩
    have HG := Lib.hid (show GoodTok t from ⟨by simpa using f1, by simpa using f2, f3⟩)
    by_cases hi0 : i = 0
    · have hi0b : decide ((0 : Int) < (i : Int)) = false := by simp; omega
      have hi0c : decide (0 < i) = false := by simp; omega
      have HI0 := Lib.hid hi0; clear hi0
      go_wp2_with fail
      go_quiet ((first | (go_at_call 15; exact Calls.quiet_of_same (quietC (classL _ _ hz1))) | (go_at_call 21; exact Calls.quiet_of_same (quietC (triviaL _ _ _ hz2)))))
      go_wp2_with fail
      go_roundg (l.length - (i + 1))
      case measure => omega
      case rel => exact ⟨i + 1, rfl, by omega, by go_num, Lib.hid (HSt.out HG.out (fun hp h => absurd h (by have := HI0.out; omega))), Lib.hid (Ext.drewN HX.out _)⟩
    have hi1 : 0 < i := by omega
    have hi1b : decide ((0 : Int) < (i : Int)) = true := by simp; omega
    cases f4 : (t.lead == [])
    · have f4' : t.lead.isEmpty = false := isEmpty_of f4
      go_wp2_with fail
      go_quiet ((first | (go_at_call 15; exact Calls.quiet_of_same (quietC (classL _ _ hz1))) | (go_at_call 21; exact Calls.quiet_of_same (quietC (triviaL _ _ _ hz2)))))
      go_wp2_with fail
      go_roundg (l.length - (i + 1))
      case measure => omega
      case rel => exact ⟨i + 1, rfl, by omega, by go_num, Lib.hid (HSt.out HG.out (fun hp h hl => by simp [hl] at f4)), Lib.hid (Ext.drewN HX.out _)⟩
    have f4' : t.lead.isEmpty = true := isEmpty_of f4
    obtain ⟨b', off', heq, _, q0, q1, q2⟩ := tokRow_at (k := i - 1) (HRow2.out.ext HX.out) (by omega)
    obtain ⟨rfl, rfl⟩ : b = b' ∧ off = off' := by simpa using heq
    clear heq
    have hsz2 := total_mem (List.getElem_mem (l := l) (n := i - 1) (by omega))
    obtain ⟨tp, htp⟩ : ∃ tp, l[i - 1]'(by omega) = tp := ⟨_, rfl⟩
    rw [htp] at q0 q1 q2 hsz2
    have HTP := Lib.hid htp; clear htp
    have hm0 : (0 : Int) ≤ (i : Int) - 1 := by omega
    have hm1 : (i : Int) - 1 < (l.length : Int) := by omega
    have hm2 : ((i : Int) - 1).toNat = i - 1 := by omega
    have hmw : IntKind.i64.wrap ((i : Int) - 1) = (i : Int) - 1 := IntWalk.i64_in _ (by omega)
    have hf0 : (0 : Int) < i := by omega
    have hm3 : (1 : Int) ≤ (i : Int) := by omega
    have hm4 : (i : Int) < (l.length : Int) + 1 := by omega
    have hm5 : 1 ≤ i := by omega
    have hm6 : i < l.length + 1 := by omega
    cases f5 : fusesT tp.text t.text
    · skip
      go_wp2_with fail
      go_region_held3 (fun w' => w'.cell? ⟨b, off + i * 3, none⟩ = some (.int .i64 t.kind) ∧ w'.cell? ⟨b, off + i * 3 + 1, none⟩ = some (.string ⟨t.lead.toArray⟩) ∧ w'.cell? ⟨b, off + i * 3 + 2, none⟩ = some (.string ⟨t.text.toArray⟩) ∧ w'.cell? ⟨b, off + (i - 1) * 3 + 2, none⟩ = some (.string ⟨tp.text.toArray⟩))
        (first | go_keep | (go_split_ands; refine ⟨?_, ?_, ?_, ?_⟩ <;> (rw [hfx.cell (by simpa using hb)]; simp [*])))
        (first | (go_at_call 15; refine (classL _ _ hz1).mono ?_; rintro e w' ⟨rfl, rfl⟩) | (go_at_call 21; refine (triviaL _ _ _ hz2).mono ?_; rintro e w' ⟨rfl, rfl⟩) | (go_at_call 17; refine (fusesL _ _ _ (by omega) (by omega)).mono ?_; rintro e w' ⟨rfl, hfx⟩))
      have HXF := Lib.hid (HX2.out.trans ((Ext.drew HX.out).trans hfx))
      have HXG := Lib.hid ((Ext.drew HX.out).trans hfx)
      clear hfx
      go_wp2_with fail
      go_roundg (l.length - (i + 1))
      case measure => omega
      case rel => exact ⟨i + 1, rfl, by omega, by go_num, Lib.hid (HSt.out HG.out (fun hp h hl => by rw [HTP.out]; exact f5)), HXG⟩
    · skip
      go_wp2_with fail
      go_region_held3 (fun w' => w'.cell? ⟨b, off + i * 3, none⟩ = some (.int .i64 t.kind) ∧ w'.cell? ⟨b, off + i * 3 + 1, none⟩ = some (.string ⟨t.lead.toArray⟩) ∧ w'.cell? ⟨b, off + i * 3 + 2, none⟩ = some (.string ⟨t.text.toArray⟩) ∧ w'.cell? ⟨b, off + (i - 1) * 3 + 2, none⟩ = some (.string ⟨tp.text.toArray⟩))
        (first | go_keep | (go_split_ands; refine ⟨?_, ?_, ?_, ?_⟩ <;> (rw [hfx.cell (by simpa using hb)]; simp [*])))
        (first | (go_at_call 15; refine (classL _ _ hz1).mono ?_; rintro e w' ⟨rfl, rfl⟩) | (go_at_call 21; refine (triviaL _ _ _ hz2).mono ?_; rintro e w' ⟨rfl, rfl⟩) | (go_at_call 17; refine (fusesL _ _ _ (by omega) (by omega)).mono ?_; rintro e w' ⟨rfl, hfx⟩))
      have HXF := Lib.hid (HX2.out.trans ((Ext.drew HX.out).trans hfx))
      have HXG := Lib.hid ((Ext.drew HX.out).trans hfx)
      clear hfx
      go_wp2_with fail
      refine (awakeL _).mono ?_
      rintro e9 w9 ⟨rfl, hx9⟩
      have HX9 := Lib.hid (HXF.out.trans hx9); clear hx9
      go_wp2
      go_ret
      exact ⟨rfl, HX9.out⟩
end Go.Proofs.Ytoknigfjgoaoaaa
