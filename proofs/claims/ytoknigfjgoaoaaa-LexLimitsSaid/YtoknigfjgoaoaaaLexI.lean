/- Contracts of the reference's scan and Scan. -/
import Derived.Test.YtoknigfjgoaoaaaLexH
namespace Go.Proofs.Ytoknigfjgoaoaaa
open Go.RowKit Lx
set_option linter.unusedSimpArgs false
set_option linter.unusedVariables false

theorem leadT_le : ∀ (b : Bool) (l : List UInt8) (n : Nat), (leadT b l n).1 ≤ n + l.length
  | _, [], n => by simp [leadT]
  | false, c :: r, n => by
    have h1 := leadT_le false r (n + 1)
    have h2 := leadT_le true r (n + 1)
    unfold leadT
    simp only [List.length_cons]
    split
    · omega
    · split
      · omega
      · simp
  | true, c :: r, n => by
    have h1 := leadT_le false r (n + 1)
    have h2 := leadT_le true r (n + 1)
    unfold leadT
    simp only [List.length_cons]
    split
    · omega
    · split
      · simp
      · omega

def ScanRelR (l : List UInt8) (w : World) (Rs : Scanned) (g : Nat) (s6 s7 : Value) (wx : World) : Prop :=
  ∃ (p F : Nat) (acc : List Tok), p ≤ l.length ∧ g = l.length - p ∧ s7 = .int .i64 p ∧ acc.length ≤ p ∧ l.length - p < F ∧
    scanT F (l.drop p) p acc = Rs ∧ wx.ownsRow w.heap.size 34 3 s6 acc.length (tokCells acc) ∧ Ext w wx
/-- What scan returns, without the limit of the length. -/
def ScanPost0 (Rs : Scanned) (w : World) (e : Ending) (w' : World) : Prop :=
  ∃ v, e = .returned (.tuple #[v, .string ⟨Rs.tail.toArray⟩, .int .i64 (Rs.place : Nat), .int .i64 (Rs.err : Nat)]) ∧ TokRow w' v Rs.toks ∧ Ext w w'
theorem scanPost0_mk {Rs : Scanned} {w w' : World} {v : Value} {r : Scanned} {tail : List UInt8} {p e : Int} (h : Rs = r) (ht : r.tail = tail) (hp : (r.place : Int) = p) (he : (r.err : Int) = e) (hr : TokRow w' v r.toks) (hx : Ext w w') :
    ScanPost0 Rs w (.returned (.tuple #[v, .string ⟨tail.toArray⟩, .int .i64 p, .int .i64 e])) w' := by
  subst h; subst ht; subst hp; subst he
  exact ⟨v, rfl, hr, hx⟩

set_option maxHeartbeats 4000000 in
theorem scan0R (l : List UInt8) (w : World) (hl : l.length ≤ 4096) : Calls Try.prog 28 #[.string ⟨l.toArray⟩] w (ScanPost0 (scanT (l.length + 1) l 0 []) w) := by
  obtain ⟨Rs, hR⟩ : ∃ Rs, scanT (l.length + 1) l 0 [] = Rs := ⟨_, rfl⟩
  rw [hR]
  have H0 := Lib.hid (show scanT (l.length + 1) (l.drop 0) 0 [] = Rs from by rw [← hR]; simp)
  clear hR
  have hx := ext_list; have hx2 := take_drop_all
  go_enter Try.func28, Try.ntmps28
  go_wp2_with fail
  go_loopg [6, 7] l.length (fun g s6 s7 wx => ScanRelR l w Rs g s6 s7 wx)
  case atStart => exact ⟨0, l.length + 1, [], Nat.zero_le _, by omega, rfl, Nat.le_refl _, by omega, H0.out, World.ownsRow_nil _ _ _ _, Ext.refl _⟩
  case round =>
    obtain ⟨p, F, acc, hpl, rfl, rfl, hacc, hF, hscan, hown, hext⟩ := hrel
    have HSc := Lib.hid hscan; clear hscan
    have HO := Lib.hid hown; clear hown
    have HE := Lib.hid hext; clear hext
    obtain ⟨F', rfl⟩ : ∃ F', F = F' + 1 := ⟨F - 1, by omega⟩
    obtain ⟨n, b, hLd⟩ : ∃ n b, leadT false (l.drop p) 0 = (n, b) := ⟨_, _, rfl⟩
    have hnl : p + n ≤ l.length := by have h := leadT_le false (l.drop p) 0; rw [hLd] at h; simp at h; omega
    have HLd := Lib.hid hLd; clear hLd
    go_wp2_with fail
    refine (leadR _ _ p rfl _ hpl (by omega)).mono ?_
    rintro e w' ⟨rfl, rfl⟩
    rw [HLd.out]
    cases b with
    | some q =>
      have hq : (0 : Int) ≤ ((p + q : Nat) : Int) := by omega
      have hq2 : badI p (some q) = ((p + q : Nat) : Int) := rfl
      rw [hq2]
      generalize hz : ((p + q : Nat) : Int) = z at *
      have HZ := Lib.hid hz; clear hz hq2
      go_wp2
      exact bodyPost_ret (v := .tuple #[.slice none 0 0, .string ⟨([] : List UInt8).toArray⟩, .int .i64 z, .int .i64 1]) (by simp [results, Try.results28, go_sem]) rfl (scanPost0_mk (r := ⟨[], [], p + q, 1⟩) (HSc.out.symm.trans (scanT_bad HLd.out)) rfl (by rw [HZ.out]) rfl (tokRow_nil _) HE.out)
    | none =>
      have hq2 : badI p none = -1 := rfl
      rw [hq2]
      clear hq2
      obtain ⟨E, hE⟩ : ∃ E, p + n = E := ⟨_, rfl⟩
      have hE1 : (p : Int) + n = (E : Nat) := by omega
      have hE2 : E - p = n := by omega
      have HEE := Lib.hid hE
      have hpE : p ≤ E := by omega
      have hEl : E ≤ l.length := by omega
      clear hE hnl
      by_cases hend : E = l.length
      · have hendb : ((E : Int) == (l.length : Int)) = true := by simp; omega
        have hb0 : (0 : Int) ≤ (p : Int) := by omega
        have hb1 : (p : Int) ≤ (l.length : Int) := by omega
        have HEnd := Lib.hid hend; clear hend
        go_wp2
        go_quiet (fail)
        go_wp2
        exact bodyPost_ret (v := .tuple #[u6, .string ⟨(l.drop p).toArray⟩, .int .i64 0, .int .i64 0]) (by simp [results, Try.results28, go_sem]) rfl (scanPost0_mk (r := ⟨acc, l.drop p, 0, 0⟩) (HSc.out.symm.trans (scanT_end HLd.out (by have := HEnd.out; have := HEE.out; simp; omega))) rfl rfl rfl (tokRow_of HO.out) (Ext.drewN HE.out _))
      · have hEt : E < l.length := by omega
        have hendb : ((E : Int) == (l.length : Int)) = false := by simp; omega
        clear hend
        obtain ⟨kd, m, e, hT⟩ : ∃ kd m e, tokenT (l.drop E) = (kd, m, e) := ⟨_, _, _, rfl⟩
        have hlen := tokenT_len (l := l.drop E) (by simp; omega)
        rw [hT] at hlen
        simp only [List.length_drop] at hlen
        obtain ⟨hm1, hm2⟩ := hlen
        have HM := Lib.hid hm2; clear hm2
        have HT := Lib.hid hT; clear hT
        have HDp := Lib.hid (show (l.drop p).drop n = l.drop E from by rw [List.drop_drop, HEE.out])
        have CN := Lib.hid (fun w => nextR l (E : Nat) E rfl w hEt (by omega))
        have HnE := Lib.hid (show ¬ n = (l.drop p).length from by have := HEE.out; simp; omega)
        go_wp2_with fail
        refine (CN.out _).mono ?_
        rintro e0 w1 ⟨rfl, hext1⟩
        rw [HT.out]
        by_cases he : e = 0
        rotate_left
        · have HI := Lib.hid (show itemV E (kd, m, e) = .agg #[.int .i64 0, .int .i64 0, .int .i64 e, .int .i64 ((E + m : Nat) : Int)] from by simp [itemV, he])
          rw [HI.out]
          have heb : ((e : Int) != 0) = true := by simp; omega
          have HX1 := Lib.hid (HE.out.trans hext1); clear hext1
          generalize hz : ((E + m : Nat) : Int) = z at *
          have HZ := Lib.hid hz; clear hz
          clear HI
          go_wp2
          go_quiet (fail)
          go_wp2
          exact bodyPost_ret (v := .tuple #[.slice none 0 0, .string ⟨([] : List UInt8).toArray⟩, .int .i64 z, .int .i64 e]) (by simp [results, Try.results28, go_sem]) rfl (scanPost0_mk (r := ⟨[], [], p + n + m, e⟩) (HSc.out.symm.trans (scanT_err HLd.out HnE.out (by rw [HDp.out]; exact HT.out) he)) rfl (by rw [← HZ.out]; have := HEE.out; simp; omega) rfl (tokRow_nil _) (Ext.drewN (HX1.out.alloc _) _))
        · subst he
          have HI := Lib.hid (show itemV E (kd, m, 0) = .agg #[.int .i64 m, .int .i64 kd, .int .i64 0, .int .i64 0] from by simp [itemV])
          rw [HI.out]
          have hmp : 0 < m := HM.out rfl
          have hown := own_ext HO.out hext1
          have hx1 := hext1.size
          have hsz := HE.out.size
          have HX1 := Lib.hid (HE.out.trans hext1)
          have hne : ∀ k, u6.ownBlock = some k → k < wr.heap.size := fun k hk => (HO.out.lt k hk).2
          have hneB : u6.ownBlock ≠ some w1.heap.size := fun h => by have := hne _ h; omega
          clear hext1 HI CN HM
          go_wp2
          obtain ⟨W2, hW2⟩ : ∃ W2, w1.alloc (.cells #[.int .i64 m, .int .i64 kd, .int .i64 0, .int .i64 0] 43) = W2 := ⟨_, rfl⟩
          rw [hW2]
          have hc0 : W2.cell? ⟨w1.heap.size, 0, none⟩ = some (.int .i64 m) := by rw [← hW2]; simp
          have hc1 : W2.cell? ⟨w1.heap.size, 1, none⟩ = some (.int .i64 kd) := by rw [← hW2]; simp
          have hown2 : W2.ownsRow w.heap.size 34 3 u6 acc.length (tokCells acc) := by rw [← hW2]; exact hown.alloc _
          have hBW : w1.heap.size < W2.heap.size := by rw [← hW2]; simp
          have HX2 := Lib.hid (show Ext w W2 from by rw [← hW2]; exact HX1.out.alloc _)
          obtain ⟨B, hB⟩ : ∃ B, w1.heap.size = B := ⟨_, rfl⟩
          have hwB : w.heap.size ≤ B := by omega
          rw [hB] at hc0 hc1 hBW hneB
          rw [hB]
          clear hW2 hB hown hne hx1 hsz HX1 HE HO
          have hb0 : (0 : Int) ≤ (p : Int) := by omega
          have hb1 : (p : Int) ≤ (E : Int) := by omega
          have hb2 : (E : Int) ≤ (l.length : Int) := by omega
          have hb3 : (E : Int) + m ≤ (l.length : Int) := by omega
          have hb4 : (E : Int) ≤ (E : Int) + m := by omega
          have hwr0 : IntKind.i64.wrap (E : Int) = (E : Int) := IntWalk.i64_in _ (by omega)
          have hwr : IntKind.i64.wrap ((E : Int) + m) = (E : Int) + m := IntWalk.i64_in _ (by omega)
          have hb5 : (0 : Int) ≤ (E : Int) + m := by omega
          have hb6 : ((E : Int) + m).toNat = E + m := by omega
          have hsz2 : (acc.length + 1) * 40 ≤ 140737488355328 := by omega
          have hsz3 : acc.length + 1 ≤ maxLen := by unfold maxLen; omega
          have hbs : w.heap.size ≤ W2.heap.size := by omega
          obtain ⟨i0, hi0, hz0, hz1, hz2⟩ := info_parts' tokInfo
          go_region_held3 (fun w' => w'.cell? ⟨B, 0, none⟩ = some (.int .i64 m) ∧ w'.cell? ⟨B, 1, none⟩ = some (.int .i64 kd))
            (first | go_keep | (go_split_ands; refine ⟨?_, ?_⟩ <;> (rw [hgrow.cell_far _ (by simp; omega) (Ne.symm hneB)]; simp [*])))
            ((refine step_append_lies _ (by rfl) _ _ _ (by rfl) w.heap.size 34 i0 _ 3 40 Try.underlying23 hi0 hz0 hz1 hz2 rfl (by omega) u6 acc.length (tokCells acc) (by rfl) ((hown2.alloc _).drew) ⟨W2.heap.size, 0, none⟩ 1 1 [.int .i64 kd, .string ⟨((l.drop p).take n).toArray⟩, .string ⟨((l.drop E).take m).toArray⟩] (by rfl) (by rfl) (World.news_of_block (cs := #[.int .i64 kd, .string ⟨((l.drop p).take n).toArray⟩, .string ⟨((l.drop E).take m).toArray⟩]) (t := 34) (fr := (0, 0)) (heap_alloc_new W2 _)) (by simp [Value.oneCell']) (by omega) hsz3 hsz2 (by simp; omega) (W2.heap.size + 1) (by simp) ?_; intro gg cap w3 hown3 hgrow hat hlt3))
          have hc03 : w3.cell? ⟨B, 0, none⟩ = some (.int .i64 m) := by rename_i hh; exact hh.1
          have HX := Lib.hid (((HX2.out.alloc _).drew).grown hgrow (fun k hk => (hown2.lt k hk).1))
          have HO1 := Lib.hid (show w3.ownsRow w.heap.size 34 3 (.slice (some ⟨gg, 0, none⟩) (acc.length + 1) cap) (acc ++ [Tok.mk kd ((l.drop p).take n) ((l.drop E).take m)]).length (tokCells (acc ++ [Tok.mk kd ((l.drop p).take n) ((l.drop E).take m)])) from by
            rw [tokCells_snoc, List.length_append]; exact hown3)
          clear hown3 hgrow hat hown2 hsz2 hsz3 hi0 hz0 hz1 hz2 hwr hwr0 hb6 hc0 hc1
          go_wp2
          go_roundg (l.length - (E + m))
          case measure => omega
          case rel =>
            refine ⟨E + m, F', acc ++ [Tok.mk kd ((l.drop p).take n) ((l.drop E).take m)], by omega, rfl, by go_num, by simp; omega, by omega, ?_, HO1.out, HX.out⟩
            rw [← HSc.out, scanT_tok HLd.out HnE.out (by rw [HDp.out]; exact HT.out), HDp.out, List.drop_drop, ← HEE.out]
            congr 2 <;> omega

theorem scanR (l : List UInt8) (w : World) (hl : l.length ≤ 281474976710656) : Calls Try.prog 13 #[.string ⟨l.toArray⟩] w (ScanPost l w) := by
  by_cases h4 : 4096 < l.length
  · have HS := Lib.hid (show scan l = ⟨[], [], 4096, 3⟩ from by simp [scan, h4])
    go_enter Try.func13, Try.ntmps13
    go_wp2
    exact bodyPost_ret (v := .tuple #[.slice none 0 0, .string ⟨([] : List UInt8).toArray⟩, .int .i64 4096, .int .i64 3]) (by simp [results, Try.results13, go_sem]) rfl (scanPost_mk HS.out rfl rfl rfl (tokRow_nil _) (Ext.refl _))
  · have HS := Lib.hid (show scan l = scanT (l.length + 1) l 0 [] from by simp [scan, h4])
    go_enter Try.func13, Try.ntmps13
    go_wp2_with fail
    refine (scan0R _ _ (by omega)).mono ?_
    rintro e w' ⟨v, rfl, htr, hext⟩
    obtain ⟨A, c, rfl, hc1, hc2, hrow⟩ := htr
    have HR := Lib.hid hrow; clear hrow
    have HX := Lib.hid hext; clear hext
    rw [← HS.out] at HR hc1 ⊢
    go_wp2
    exact bodyPost_ret (v := .tuple #[.slice A (scan l).toks.length c, .string ⟨(scan l).tail.toArray⟩, .int .i64 ((scan l).place : Nat), .int .i64 ((scan l).err : Nat)]) (by simp [results, Try.results13, go_sem]) rfl ⟨_, rfl, ⟨A, c, rfl, hc1, hc2, HR.out⟩, HX.out⟩
end Go.Proofs.Ytoknigfjgoaoaaa
