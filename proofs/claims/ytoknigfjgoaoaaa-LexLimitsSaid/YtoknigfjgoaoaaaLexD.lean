/- Contract of lex.Scan. -/
import Derived.Test.YtoknigfjgoaoaaaLexC
import Derived.Test.YtoknigfjgoaoaaaMem
import Derived.Deep.LoopGhost
import Derived.Deep.RegionHeld3
import Derived.BigQuiet
import Derived.Deep.QuietTactic
namespace Go.Proofs.Ytoknigfjgoaoaaa
open Go.RowKit Lx
set_option linter.unusedSimpArgs false
set_option linter.unusedVariables false

def tokCells (l : List Tok) : List Value := l.flatMap fun t => [.int .i64 t.kind, .string ⟨t.lead.toArray⟩, .string ⟨t.text.toArray⟩]
def TokRow (w : World) (v : Value) (l : List Tok) : Prop := ∃ A c, v = .slice A l.length c ∧ l.length ≤ c ∧ c ≤ maxLen ∧ Row w 3 A l.length (tokCells l)
def ScanPost (l : List UInt8) (w : World) (e : Ending) (w' : World) : Prop :=
  ∃ v, e = .returned (.tuple #[v, .string ⟨(scan l).tail.toArray⟩, .int .i64 ((scan l).place : Nat), .int .i64 ((scan l).err : Nat)]) ∧ TokRow w' v (scan l).toks ∧ Ext w w'

theorem tokInfo : (Try.prog.info? 34).map (fun i => (i.zero, i.size, i.bytes)) = some (some (.agg #[.int .i64 0, .string ByteArray.empty, .string ByteArray.empty]), 3, 40) := by kernel_rfl
theorem tokCells_snoc (l : List Tok) (t : Tok) : tokCells (l ++ [t]) = tokCells l ++ [.int .i64 t.kind, .string ⟨t.lead.toArray⟩, .string ⟨t.text.toArray⟩] := by simp [tokCells]
theorem tokRow_of {w : World} {base : Nat} {v : Value} {l : List Tok} (h : w.ownsRow base 34 3 v l.length (tokCells l)) : TokRow w v l := by
  obtain ⟨A, c, rfl, hc, hm⟩ := own_slice h
  exact ⟨A, c, rfl, hc, hm, Row.of_own h⟩
theorem tokRow_nil (w : World) : TokRow w (.slice none 0 0) [] := ⟨none, 0, rfl, Nat.le_refl _, Nat.zero_le _, Row.none_⟩
theorem scanPost_mk {l : List UInt8} {w w' : World} {v : Value} {r : Scanned} {tail : List UInt8} {p e : Int} (h : scan l = r) (ht : r.tail = tail) (hp : (r.place : Int) = p) (he : (r.err : Int) = e) (hr : TokRow w' v r.toks) (hx : Ext w w') :
    ScanPost l w (.returned (.tuple #[v, .string ⟨tail.toArray⟩, .int .i64 p, .int .i64 e])) w' := by
  subst h; subst ht; subst hp; subst he
  exact ⟨v, rfl, hr, hx⟩

/-- The loop's relation. -/
def ScanRel (l : List UInt8) (w : World) (R : Scanned) (g : Nat) (s2 s6 s7 : Value) (wx : World) : Prop :=
  ∃ (i start F : Nat) (acc : List Tok), start ≤ i ∧ i ≤ l.length ∧ g = l.length - i ∧ s6 = .int .i64 start ∧ s7 = .int .i64 i ∧ acc.length ≤ i ∧ l.length - start < F ∧
    scanT F (l.drop start) start acc = R ∧ leadT false (l.drop start) 0 = leadT false (l.drop i) (i - start) ∧ wx.ownsRow w.heap.size 34 3 s2 acc.length (tokCells acc) ∧ Ext w wx

set_option maxHeartbeats 4000000 in
theorem scanL (l : List UInt8) (w : World) (hl : l.length ≤ 281474976710656) : Calls Try.prog 12 #[.string ⟨l.toArray⟩] w (ScanPost l w) := by
  have hx := ext_list; have hx2 := take_drop_all
  by_cases h4 : 4096 < l.length
  · have HS := Lib.hid (show scan l = ⟨[], [], 4096, 3⟩ from by simp [scan, h4])
    go_enter Try.func12, Try.ntmps12
    go_wp2
    go_step3
    go_wp2
    rw [Exit.noGoto_ret]
    exact bodyPost_ret (v := .tuple #[.slice none 0 0, .string ⟨#[]⟩, .int .i64 4096, .int .i64 3]) (by simp [results, Try.results12, go_sem]) rfl (scanPost_mk HS.out rfl rfl rfl (tokRow_nil _) (Ext.refl _))
  · obtain ⟨R, hR⟩ : ∃ R, scan l = R := ⟨_, rfl⟩
    have HS := Lib.hid hR
    have H0 := Lib.hid (show scanT (l.length + 1) (l.drop 0) 0 [] = R from by rw [← hR]; simp [scan, h4])
    clear hR
    go_enter Try.func12, Try.ntmps12
    go_wp2
    go_step3
    go_wp2
    go_step3
    go_wp2
    go_loopg [2, 6, 7] l.length (fun g s2 s6 s7 wx => ScanRel l w R g s2 s6 s7 wx)
    case atStart => exact ⟨0, 0, l.length + 1, [], Nat.le_refl _, Nat.zero_le _, by omega, rfl, rfl, Nat.le_refl _, by omega, H0.out, by simp, World.ownsRow_nil _ _ _ _, Ext.refl _⟩
    case round =>
      obtain ⟨i, start, F, acc, hsi, hil, rfl, rfl, rfl, hacc, hF, hscan, hlead, hown, hext⟩ := hrel
      have HSc := Lib.hid hscan; clear hscan
      have HLd := Lib.hid hlead; clear hlead
      have HO := Lib.hid hown; clear hown
      have HE := Lib.hid hext; clear hext
      by_cases hlt : i < l.length
      · obtain ⟨c, hc⟩ : ∃ c, ({ data := l.toArray } : ByteArray)[i]'hlt = c := ⟨_, rfl⟩
        have HC := Lib.hid (show l[i] = c from hc)
        cases hw : whiteB c
        rotate_left
        · go_wp2_with (first | (go_at_call 25; refine (whiteL _ _).mono ?_; rintro e w' ⟨rfl, rfl⟩) | (go_at_call 26; refine (allowedL _ _).mono ?_; rintro e w' ⟨rfl, rfl⟩))
          go_roundg (l.length - (i + 1))
          case measure => omega
          case rel => exact ⟨i + 1, start, F, acc, by omega, by omega, rfl, rfl, by go_num, by omega, hF, HSc.out, by rw [HLd.out, leadT_white hlt HC.out hw]; congr 1; omega, HO.out, HE.out⟩
        cases h35 : ((c.toNat : Int) == 35)
        rotate_left
        · go_wp2_with (first | (go_at_call 25; refine (whiteL _ _).mono ?_; rintro e w' ⟨rfl, rfl⟩) | (go_at_call 26; refine (allowedL _ _).mono ?_; rintro e w' ⟨rfl, rfl⟩))
          obtain ⟨wo, rfl⟩ : ∃ wo : World, wo = wr := ⟨_, rfl⟩
          have HL2 := Lib.hid (HLd.out.trans (leadT_hash (n := i - start) hlt HC.out (beqI (m := 35) h35)))
          have HCI := Lib.hid (beqI (m := 35) h35)
          clear h35 hw hc HLd
          go_loopg [2, 7] (l.length - i) (fun g t2 t7 wy => ∃ j, i ≤ j ∧ j ≤ l.length ∧ g = l.length - j ∧ t7 = .int .i64 (j : Nat) ∧ t2 = u2 ∧ wy = wo ∧ Hid (leadT false (l.drop start) 0 = leadT true (l.drop j) (j - start)))
          case atStart => exact ⟨i, Nat.le_refl _, by omega, rfl, rfl, rfl, rfl, HL2⟩
          case round =>
            obtain ⟨j, hij, hjl, rfl, rfl, rfl, rfl, HL3⟩ := hrel
            by_cases hjt : j < l.length
            · obtain ⟨d, hd⟩ : ∃ c, ({ data := l.toArray } : ByteArray)[j]'hjt = c := ⟨_, rfl⟩
              have HD := Lib.hid (show l[j] = d from hd)
              cases h10 : ((d.toNat : Int) == 10)
              rotate_left
              · have hne : i < j := by
                  rcases Nat.lt_or_ge i j with h | h
                  · exact h
                  · have : i = j := by omega
                    subst this
                    have h1 := beqI (m := 10) h10
                    have h2 := HCI.out
                    have h3 : c = d := by rw [← HC.out, ← HD.out]
                    subst h3
                    omega
                go_wp2_with (first | (go_at_call 25; refine (whiteL _ _).mono ?_; rintro e w' ⟨rfl, rfl⟩) | (go_at_call 26; refine (allowedL _ _).mono ?_; rintro e w' ⟨rfl, rfl⟩))
                go_roundg (l.length - j)
                case measure => omega
                case rel => exact ⟨j, start, F, acc, by omega, by omega, rfl, rfl, rfl, by omega, hF, HSc.out, HL3.out.trans (leadT_line hjt HD.out (beqI (m := 10) h10)), HO.out, HE.out⟩
              cases ha : allowedB d
              · go_wp2_with (first | (go_at_call 25; refine (whiteL _ _).mono ?_; rintro e w' ⟨rfl, rfl⟩) | (go_at_call 26; refine (allowedL _ _).mono ?_; rintro e w' ⟨rfl, rfl⟩))
                rw [Exit.noGoto_ret]
                exact bodyPost_ret (v := .tuple #[.slice none 0 0, .string ⟨([] : List UInt8).toArray⟩, .int .i64 j, .int .i64 1]) (by simp [results, Try.results12, go_sem]) rfl (scanPost_mk (r := ⟨[], [], start + (j - start), 1⟩) (by rw [HS.out, ← HSc.out]; obtain ⟨F', rfl⟩ : ∃ F', F = F' + 1 := ⟨F - 1, by omega⟩; exact scanT_bad (n := j - start) (by rw [HL3.out]; exact leadT_bad hjt HD.out (bneI (m := 10) h10) ha)) rfl (by simp; omega) rfl (tokRow_nil _) HE.out)
              · go_wp2_with (first | (go_at_call 25; refine (whiteL _ _).mono ?_; rintro e w' ⟨rfl, rfl⟩) | (go_at_call 26; refine (allowedL _ _).mono ?_; rintro e w' ⟨rfl, rfl⟩))
                go_roundg (l.length - (j + 1))
                case measure => omega
                case rel => exact ⟨j + 1, by omega, by omega, rfl, by go_num, rfl, rfl, Lib.hid (by rw [HL3.out, leadT_in hjt HD.out (bneI (m := 10) h10) ha]; congr 1; omega)⟩
            · have hb0 : (0 : Int) ≤ (start : Int) := by omega
              have hb1 : (start : Int) ≤ (l.length : Int) := by omega
              go_wp2_with (first | (go_at_call 25; refine (whiteL _ _).mono ?_; rintro e w' ⟨rfl, rfl⟩) | (go_at_call 26; refine (allowedL _ _).mono ?_; rintro e w' ⟨rfl, rfl⟩))
              go_quiet (fail)
              go_wp2
              rw [Exit.noGoto_ret]
              exact bodyPost_ret (v := .tuple #[u2, .string ⟨(l.drop start).toArray⟩, .int .i64 0, .int .i64 0]) (by simp [results, Try.results12, go_sem]) rfl (scanPost_mk (r := ⟨acc, l.drop start, 0, 0⟩) (by rw [HS.out, ← HSc.out]; obtain ⟨F', rfl⟩ : ∃ F', F = F' + 1 := ⟨F - 1, by omega⟩; exact scanT_end (n := j - start) (by rw [HL3.out]; exact leadT_end _ (by omega)) (by simp; omega)) rfl rfl rfl (tokRow_of HO.out) (Ext.drewN HE.out _))
        · have HLO := Lib.hid (HLd.out.trans (leadT_other (n := i - start) hlt HC.out hw (bneI (m := 35) h35)))
          have hd0 : 0 < (l.drop i).length := by simp; omega
          have hdl : (l.drop i).length ≤ 281474976710656 := by simp; omega
          obtain ⟨k, m, e, hT⟩ : ∃ k m e, tokenT (l.drop i) = (k, m, e) := ⟨_, _, _, rfl⟩
          have hlen := tokenT_len hd0
          rw [hT] at hlen
          simp only [List.length_drop] at hlen
          obtain ⟨hm1, hm2⟩ := hlen
          have HM := Lib.hid hm2; clear hm2
          have HT := Lib.hid hT; clear hT
          have hd1 : (l.drop start).drop (i - start) = l.drop i := by rw [List.drop_drop]; congr 1; omega
          have HD1 := Lib.hid hd1; clear hd1
          have CT := Lib.hid (fun w => tokenL (l.drop i) w hd0 hdl)
          clear hd0 hdl
          go_wp2_with (first | (go_at_call 25; refine (whiteL _ _).mono ?_; rintro e w' ⟨rfl, rfl⟩) | (go_at_call 26; refine (allowedL _ _).mono ?_; rintro e w' ⟨rfl, rfl⟩))
          refine (CT.out _).mono ?_
          rintro e0 w' ⟨rfl, rfl⟩
          rw [HT.out]
          by_cases he : e = 0
          rotate_left
          · have heb : ((e : Int) != 0) = true := by simp; omega
            go_wp2_with (first | (go_at_call 25; refine (whiteL _ _).mono ?_; rintro e w' ⟨rfl, rfl⟩) | (go_at_call 26; refine (allowedL _ _).mono ?_; rintro e w' ⟨rfl, rfl⟩))
            rw [Exit.noGoto_ret]
            exact bodyPost_ret (v := .tuple #[.slice none 0 0, .string ⟨([] : List UInt8).toArray⟩, .int .i64 ((i : Int) + m), .int .i64 e]) (by simp [results, Try.results12, go_sem]) rfl (scanPost_mk (r := ⟨[], [], start + (i - start) + m, e⟩) (by rw [HS.out, ← HSc.out]; obtain ⟨F', rfl⟩ : ∃ F', F = F' + 1 := ⟨F - 1, by omega⟩; exact scanT_err (n := i - start) HLO.out (by simp; omega) (by rw [HD1.out]; exact HT.out) he) rfl (by simp; omega) rfl (tokRow_nil _) HE.out)
          · subst he
            have hmp : 0 < m := HM.out rfl
            go_wp2_with (first | (go_at_call 25; refine (whiteL _ _).mono ?_; rintro e w' ⟨rfl, rfl⟩) | (go_at_call 26; refine (allowedL _ _).mono ?_; rintro e w' ⟨rfl, rfl⟩))
            have hb0 : (0 : Int) ≤ (start : Int) := by omega
            have hb1 : (start : Int) ≤ (i : Int) := by omega
            have hb2 : (i : Int) ≤ (l.length : Int) := by omega
            have hb3 : (i : Int) + m ≤ (l.length : Int) := by omega
            have hb4 : (i : Int) ≤ (i : Int) + m := by omega
            have hwr : IntKind.i64.wrap ((i : Int) + m) = (i : Int) + m := IntWalk.i64_in _ (by omega)
            have hb5 : (0 : Int) ≤ (i : Int) + m := by omega
            have hb6 : ((i : Int) + m).toNat = i + m := by omega
            have hown := HO.out
            have hsz := HE.out.size
            have hbase : w.heap.size ≤ wr.heap.size + 1 := by omega
            have hsz2 : (acc.length + 1) * 40 ≤ 140737488355328 := by omega
            have hsz3 : acc.length + 1 ≤ maxLen := by unfold maxLen; omega
            obtain ⟨i0, hi0, hz0, hz1, hz2⟩ := info_parts' tokInfo
            go_region_held3 (fun _ => True) (trivial)
              ((refine step_append_lies _ (by rfl) _ _ _ (by rfl) w.heap.size 34 i0 _ 3 40 Try.underlying23 hi0 hz0 hz1 hz2 rfl (by omega) u2 acc.length (tokCells acc) (by rfl) ((hown.alloc _).drew) ⟨wr.heap.size, 0, none⟩ 1 1 [.int .i64 k, .string ⟨((l.drop start).take (i - start)).toArray⟩, .string ⟨((l.drop i).take m).toArray⟩] (by rfl) (by rfl) (World.news_of_block (cs := #[.int .i64 k, .string ⟨((l.drop start).take (i - start)).toArray⟩, .string ⟨((l.drop i).take m).toArray⟩]) (t := 34) (fr := (0, 0)) (heap_alloc_new wr _)) (by simp [Value.oneCell']) (by omega) hsz3 hsz2 (by simp; omega) (wr.heap.size + 1) (by simp) ?_; intro gg cap w1 hown1 hgrow hat hlt1))
            have HX := Lib.hid (((HE.out.alloc _).drew).grown hgrow (fun k hk => (hown.lt k hk).1))
            have HO1 := Lib.hid (show w1.ownsRow w.heap.size 34 3 (.slice (some ⟨gg, 0, none⟩) (acc.length + 1) cap) (acc ++ [Tok.mk k ((l.drop start).take (i - start)) ((l.drop i).take m)]).length (tokCells (acc ++ [Tok.mk k ((l.drop start).take (i - start)) ((l.drop i).take m)])) from by
              rw [tokCells_snoc, List.length_append]; exact hown1)
            clear hown1 hgrow hat hown hsz2 hsz3 hi0 hz0 hz1 hz2 hwr hb6
            go_wp2
            go_roundg (l.length - (i + m))
            case measure => omega
            case rel =>
              obtain ⟨F', rfl⟩ : ∃ F', F = F' + 1 := ⟨F - 1, by omega⟩
              refine ⟨i + m, i + m, F', acc ++ [Tok.mk k ((l.drop start).take (i - start)) ((l.drop i).take m)], Nat.le_refl _, by omega, rfl, by go_num, by go_num, by simp; omega, by omega, ?_, by simp, HO1.out, HX.out⟩
              rw [← HSc.out, scanT_tok (n := i - start) HLO.out (by simp; omega) (by rw [HD1.out]; exact HT.out), HD1.out, List.drop_drop]
              congr 2 <;> omega
      · have hb0 : (0 : Int) ≤ (start : Int) := by omega
        have hb1 : (start : Int) ≤ (l.length : Int) := by omega
        go_wp2_with (first | (go_at_call 25; refine (whiteL _ _).mono ?_; rintro e w' ⟨rfl, rfl⟩) | (go_at_call 26; refine (allowedL _ _).mono ?_; rintro e w' ⟨rfl, rfl⟩))
        go_quiet (fail)
        go_wp2
        rw [Exit.noGoto_ret]
        exact bodyPost_ret (v := .tuple #[u2, .string ⟨(l.drop start).toArray⟩, .int .i64 0, .int .i64 0]) (by simp [results, Try.results12, go_sem]) rfl (scanPost_mk (r := ⟨acc, l.drop start, 0, 0⟩) (by rw [HS.out, ← HSc.out]; obtain ⟨F', rfl⟩ : ∃ F', F = F' + 1 := ⟨F - 1, by omega⟩; exact scanT_end (n := i - start) (by rw [HLd.out]; exact leadT_end _ (by omega)) (by simp; omega)) rfl rfl rfl (tokRow_of HO.out) (Ext.drewN HE.out _))
end Go.Proofs.Ytoknigfjgoaoaaa
