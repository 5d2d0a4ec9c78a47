/- Contracts of the functions that the law reaches, part 4. -/
import Derived.Test.YtiknldgpnhikhaaGreatPr3
set_option linter.unusedVariables false
set_option linter.unusedSimpArgs false
namespace Go.Proofs.YtiknldgpnhikhaaGreat
open Go.RowKit Lx
set_option maxRecDepth 100000
theorem lb : ∀ (b : Bool) (l : List UInt8) (n : Nat), (aN b l n).1 ≤ n + l.length
  | _, [], n => by simp [aN]
  | false, c :: r, n => by
    have h1 := lb false r (n + 1)
    have h2 := lb true r (n + 1)
    unfold aN
    simp only [List.length_cons]
    split
    · omega
    · split
      · omega
      · simp
  | true, c :: r, n => by
    have h1 := lb false r (n + 1)
    have h2 := lb true r (n + 1)
    unfold aN
    simp only [List.length_cons]
    split
    · omega
    · split
      · simp
      · omega
def y3 (l : List UInt8) (w : World) (Rs : Scanned) (g : Nat) (s6 s7 : Value) (wx : World) : Prop :=
  ∃ (p F : Nat) (acc : List Tok), p ≤ l.length ∧ g = l.length - p ∧ s7 = .int .i64 p ∧ acc.length ≤ p ∧ l.length - p < F ∧
    scanT F (l.drop p) p acc = Rs ∧ wx.ownsRow w.heap.size 70 3 s6 acc.length (dg acc) ∧ Ext w wx
def ScanPost0 (Rs : Scanned) (w : World) (e : Ending) (w' : World) : Prop :=
  ∃ v, e = .returned (.tuple #[v, .string ⟨Rs.tail.toArray⟩, .int .i64 (Rs.place : Nat), .int .i64 (Rs.err : Nat)]) ∧ nv w' v Rs.toks ∧ Ext w w'
theorem mc {Rs : Scanned} {w w' : World} {v : Value} {r : Scanned} {tail : List UInt8} {p e : Int} (h : Rs = r) (ht : r.tail = tail) (hp : (r.place : Int) = p) (he : (r.err : Int) = e) (hr : nv w' v r.toks) (hx : Ext w w') :
    ScanPost0 Rs w (.returned (.tuple #[v, .string ⟨tail.toArray⟩, .int .i64 p, .int .i64 e])) w' := by
  subst h; subst ht; subst hp; subst he
  exact ⟨v, rfl, hr, hx⟩
set_option maxHeartbeats 4000000 in
theorem AD (l : List UInt8) (w : World) (hl : l.length ≤ 4096) : Calls Tryz.prog 123 #[.string ⟨l.toArray⟩] w (ScanPost0 (scanT (l.length + 1) l 0 []) w) := by
  obtain ⟨Rs, hR⟩ : ∃ Rs, scanT (l.length + 1) l 0 [] = Rs := ⟨_, rfl⟩
  rw [hR]
  have H0 := Lib.hid (show scanT (l.length + 1) (l.drop 0) 0 [] = Rs from by rw [← hR]; simp)
  clear hR
  have hx := qf; have hx2 := lQ
  go_enter Tryz.func123, Tryz.ntmps123
  go_wp2_with fail
  go_loopg [6, 7] l.length (fun g s6 s7 wx => y3 l w Rs g s6 s7 wx)
  case atStart => exact ⟨0, l.length + 1, [], Nat.zero_le _, by omega, rfl, Nat.le_refl _, by omega, H0.out, World.ownsRow_nil _ _ _ _, Ext.refl _⟩
  case round =>
    obtain ⟨p, F, acc, hpl, rfl, rfl, hacc, hF, hscan, hown, hext⟩ := hrel
    have HSc := Lib.hid hscan; clear hscan
    have HO := Lib.hid hown; clear hown
    have HE := Lib.hid hext; clear hext
    obtain ⟨F', rfl⟩ : ∃ F', F = F' + 1 := ⟨F - 1, by omega⟩
    obtain ⟨n, b, hLd⟩ : ∃ n b, aN false (l.drop p) 0 = (n, b) := ⟨_, _, rfl⟩
    have hnl : p + n ≤ l.length := by have h := lb false (l.drop p) 0; rw [hLd] at h; simp at h; omega
    have HLd := Lib.hid hLd; clear hLd
    go_wp2_with fail
    refine (zc _ _ p rfl _ hpl (by omega)).mono ?_
    rintro e w' ⟨rfl, rfl⟩
    rw [HLd.out]
    cases b with
    | some q =>
      have hq : (0 : Int) ≤ ((p + q : Nat) : Int) := by omega
      have hq2 : p5 p (some q) = ((p + q : Nat) : Int) := rfl
      rw [hq2]
      generalize hz : ((p + q : Nat) : Int) = z at *
      have HZ := Lib.hid hz; clear hz hq2
      go_wp2
      exact bodyPost_ret (v := .tuple #[.slice none 0 0, .string ⟨([] : List UInt8).toArray⟩, .int .i64 z, .int .i64 1]) (by simp [results, Tryz.results123, go_sem]) rfl (mc (r := ⟨[], [], p + q, 1⟩) (HSc.out.symm.trans (wJ HLd.out)) rfl (by rw [HZ.out]) rfl (nK _) HE.out)
    | none =>
      have hq2 : p5 p none = -1 := rfl
      rw [hq2]
      clear hq2
      obtain ⟨E, hE⟩ : ∃ E, p + n = E := ⟨_, rfl⟩
      have hE1 : (p : Int) + n = (E : Nat) := by omega
      have hE2 : E - p = n := by omega
      have HEE := Lib.hid hE
      have hpE : p ≤ E := by omega
      have hEl : E ≤ l.length := by omega
      clear hE hnl
      by_cases hend : E = l.length
      · have hendb : ((E : Int) == (l.length : Int)) = true := by simp; omega
        have hb0 : (0 : Int) ≤ (p : Int) := by omega
        have hb1 : (p : Int) ≤ (l.length : Int) := by omega
        have HEnd := Lib.hid hend; clear hend
        go_wp2
        go_quiet (fail)
        go_wp2
        exact bodyPost_ret (v := .tuple #[u6, .string ⟨(l.drop p).toArray⟩, .int .i64 0, .int .i64 0]) (by simp [results, Tryz.results123, go_sem]) rfl (mc (r := ⟨acc, l.drop p, 0, 0⟩) (HSc.out.symm.trans (xL HLd.out (by have := HEnd.out; have := HEE.out; simp; omega))) rfl rfl rfl (xP HO.out) (Ext.drewN HE.out _))
      · have hEt : E < l.length := by omega
        have hendb : ((E : Int) == (l.length : Int)) = false := by simp; omega
        clear hend
        obtain ⟨kd, m, e, hT⟩ : ∃ kd m e, tokenT (l.drop E) = (kd, m, e) := ⟨_, _, _, rfl⟩
        have hlen := vZ (l := l.drop E) (by simp; omega)
        rw [hT] at hlen
        simp only [List.length_drop] at hlen
        obtain ⟨hm1, hm2⟩ := hlen
        have HM := Lib.hid hm2; clear hm2
        have HT := Lib.hid hT; clear hT
        have HDp := Lib.hid (show (l.drop p).drop n = l.drop E from by rw [List.drop_drop, HEE.out])
        have CN := Lib.hid (fun w => y6 l (E : Nat) E rfl w hEt (by omega))
        have HnE := Lib.hid (show ¬ n = (l.drop p).length from by have := HEE.out; simp; omega)
        go_wp2_with fail
        refine (CN.out _).mono ?_
        rintro e0 w1 ⟨rfl, hext1⟩
        rw [HT.out]
        by_cases he : e = 0
        rotate_left
        · have HI := Lib.hid (show jw E (kd, m, e) = .agg #[.int .i64 0, .int .i64 0, .int .i64 e, .int .i64 ((E + m : Nat) : Int)] from by simp [jw, he])
          rw [HI.out]
          have heb : ((e : Int) != 0) = true := by simp; omega
          have HX1 := Lib.hid (HE.out.trans hext1); clear hext1
          generalize hz : ((E + m : Nat) : Int) = z at *
          have HZ := Lib.hid hz; clear hz
          clear HI
          go_wp2
          go_quiet (fail)
          go_wp2
          exact bodyPost_ret (v := .tuple #[.slice none 0 0, .string ⟨([] : List UInt8).toArray⟩, .int .i64 z, .int .i64 e]) (by simp [results, Tryz.results123, go_sem]) rfl (mc (r := ⟨[], [], p + n + m, e⟩) (HSc.out.symm.trans (wQ HLd.out HnE.out (by rw [HDp.out]; exact HT.out) he)) rfl (by rw [← HZ.out]; have := HEE.out; simp; omega) rfl (nK _) (Ext.drewN (HX1.out.alloc _) _))
        · subst he
          have HI := Lib.hid (show jw E (kd, m, 0) = .agg #[.int .i64 m, .int .i64 kd, .int .i64 0, .int .i64 0] from by simp [jw])
          rw [HI.out]
          have hmp : 0 < m := HM.out rfl
          have hown := zP HO.out hext1
          have hx1 := hext1.size
          have hsz := HE.out.size
          have HX1 := Lib.hid (HE.out.trans hext1)
          have hne : ∀ k, u6.ownBlock = some k → k < wr.heap.size := fun k hk => (HO.out.lt k hk).2
          have hneB : u6.ownBlock ≠ some w1.heap.size := fun h => by have := hne _ h; omega
          clear hext1 HI CN HM
          go_wp2
          obtain ⟨W2, hW2⟩ : ∃ W2, w1.alloc (.cells #[.int .i64 m, .int .i64 kd, .int .i64 0, .int .i64 0] 124) = W2 := ⟨_, rfl⟩
          rw [hW2]
          have hc0 : W2.cell? ⟨w1.heap.size, 0, none⟩ = some (.int .i64 m) := by rw [← hW2]; simp
          have hc1 : W2.cell? ⟨w1.heap.size, 1, none⟩ = some (.int .i64 kd) := by rw [← hW2]; simp
          have hown2 : W2.ownsRow w.heap.size 70 3 u6 acc.length (dg acc) := by rw [← hW2]; exact hown.alloc _
          have hBW : w1.heap.size < W2.heap.size := by rw [← hW2]; simp
          have HX2 := Lib.hid (show Ext w W2 from by rw [← hW2]; exact HX1.out.alloc _)
          obtain ⟨B, hB⟩ : ∃ B, w1.heap.size = B := ⟨_, rfl⟩
          have hwB : w.heap.size ≤ B := by omega
          rw [hB] at hc0 hc1 hBW hneB
          rw [hB]
          clear hW2 hB hown hne hx1 hsz HX1 HE HO
          have hb0 : (0 : Int) ≤ (p : Int) := by omega
          have hb1 : (p : Int) ≤ (E : Int) := by omega
          have hb2 : (E : Int) ≤ (l.length : Int) := by omega
          have hb3 : (E : Int) + m ≤ (l.length : Int) := by omega
          have hb4 : (E : Int) ≤ (E : Int) + m := by omega
          have hwr0 : IntKind.i64.wrap (E : Int) = (E : Int) := IntWalk.i64_in _ (by omega)
          have hwr : IntKind.i64.wrap ((E : Int) + m) = (E : Int) + m := IntWalk.i64_in _ (by omega)
          have hb5 : (0 : Int) ≤ (E : Int) + m := by omega
          have hb6 : ((E : Int) + m).toNat = E + m := by omega
          have hsz2 : (acc.length + 1) * 40 ≤ 140737488355328 := by omega
          have hsz3 : acc.length + 1 ≤ maxLen := by unfold maxLen; omega
          have hbs : w.heap.size ≤ W2.heap.size := by omega
          obtain ⟨i0, hi0, hz0, hz1, hz2⟩ := uu zS
          go_region_held3 (fun w' => w'.cell? ⟨B, 0, none⟩ = some (.int .i64 m) ∧ w'.cell? ⟨B, 1, none⟩ = some (.int .i64 kd))
            (first | go_keep | (go_split_ands; refine ⟨?_, ?_⟩ <;> (rw [hgrow.cell_far _ (by simp; omega) (Ne.symm hneB)]; simp [*])))
            ((refine step_append_lies _ (by rfl) _ _ _ (by rfl) w.heap.size 70 i0 _ 3 40 Tryz.underlying63 hi0 hz0 hz1 hz2 rfl (by omega) u6 acc.length (dg acc) (by rfl) ((hown2.alloc _).drew) ⟨W2.heap.size, 0, none⟩ 1 1 [.int .i64 kd, .string ⟨((l.drop p).take n).toArray⟩, .string ⟨((l.drop E).take m).toArray⟩] (by rfl) (by rfl) (World.news_of_block (cs := #[.int .i64 kd, .string ⟨((l.drop p).take n).toArray⟩, .string ⟨((l.drop E).take m).toArray⟩]) (t := 70) (fr := (0, 0)) (heap_alloc_new W2 _)) (by simp [Value.oneCell']) (by omega) hsz3 hsz2 (by simp; omega) (W2.heap.size + 1) (by simp) ?_; intro gg cap w3 hown3 hgrow hat hlt3))
          have hc03 : w3.cell? ⟨B, 0, none⟩ = some (.int .i64 m) := by rename_i hh; exact hh.1
          have HX := Lib.hid (((HX2.out.alloc _).drew).grown hgrow (fun k hk => (hown2.lt k hk).1))
          have HO1 := Lib.hid (show w3.ownsRow w.heap.size 70 3 (.slice (some ⟨gg, 0, none⟩) (acc.length + 1) cap) (acc ++ [Tok.mk kd ((l.drop p).take n) ((l.drop E).take m)]).length (dg (acc ++ [Tok.mk kd ((l.drop p).take n) ((l.drop E).take m)])) from by
            rw [sp, List.length_append]; exact hown3)
          clear hown3 hgrow hat hown2 hsz2 hsz3 hi0 hz0 hz1 hz2 hwr hwr0 hb6 hc0 hc1
          go_wp2
          go_roundg (l.length - (E + m))
          case measure => omega
          case rel =>
            refine ⟨E + m, F', acc ++ [Tok.mk kd ((l.drop p).take n) ((l.drop E).take m)], by omega, rfl, by go_num, by simp; omega, by omega, ?_, HO1.out, HX.out⟩
            rw [← HSc.out, wK HLd.out HnE.out (by rw [HDp.out]; exact HT.out), HDp.out, List.drop_drop, ← HEE.out]
            congr 2 <;> omega
theorem BS (l : List UInt8) (w : World) (hl : l.length ≤ 281474976710656) : Calls Tryz.prog 107 #[.string ⟨l.toArray⟩] w (ScanPost l w) := by
  by_cases h4 : 4096 < l.length
  · have HS := Lib.hid (show scan l = ⟨[], [], 4096, 3⟩ from by simp [scan, h4])
    go_enter Tryz.func107, Tryz.ntmps107
    go_wp2
    exact bodyPost_ret (v := .tuple #[.slice none 0 0, .string ⟨([] : List UInt8).toArray⟩, .int .i64 4096, .int .i64 3]) (by simp [results, Tryz.results107, go_sem]) rfl (ur HS.out rfl rfl rfl (nK _) (Ext.refl _))
  · have HS := Lib.hid (show scan l = scanT (l.length + 1) l 0 [] from by simp [scan, h4])
    go_enter Tryz.func107, Tryz.ntmps107
    go_wp2_with fail
    refine (AD _ _ (by omega)).mono ?_
    rintro e w' ⟨v, rfl, htr, hext⟩
    obtain ⟨A, c, rfl, hc1, hc2, hrow⟩ := htr
    have HR := Lib.hid hrow; clear hrow
    have HX := Lib.hid hext; clear hext
    rw [← HS.out] at HR hc1 ⊢
    go_wp2
    exact bodyPost_ret (v := .tuple #[.slice A (scan l).toks.length c, .string ⟨(scan l).tail.toArray⟩, .int .i64 ((scan l).place : Nat), .int .i64 ((scan l).err : Nat)]) (by simp [results, Tryz.results107, go_sem]) rfl ⟨_, rfl, ⟨A, c, rfl, hc1, hc2, HR.out⟩, HX.out⟩
end Go.Proofs.YtiknldgpnhikhaaGreat
namespace Go.Proofs.YtiknldgpnhikhaaGreat
open Go.RowKit Lx
set_option maxRecDepth 100000
theorem pH : ∀ (l : List Tok) (k : Nat) (h : k < l.length), (dg l)[k * 3]? = some (.int .i64 l[k].kind) ∧ (dg l)[k * 3 + 1]? = some (.string ⟨l[k].lead.toArray⟩) ∧ (dg l)[k * 3 + 2]? = some (.string ⟨l[k].text.toArray⟩)
  | t :: l, 0, _ => ⟨rfl, rfl, rfl⟩
  | t :: l, k + 1, h => by
    have ih := pH l k (by simpa using h)
    have e : dg (t :: l) = [.int .i64 t.kind, .string ⟨t.lead.toArray⟩, .string ⟨t.text.toArray⟩] ++ dg l := rfl
    rw [e]
    refine ⟨?_, ?_, ?_⟩
    · rw [List.getElem?_append_right (by simp; omega)]; simpa [Nat.succ_mul] using ih.1
    · rw [List.getElem?_append_right (by simp; omega)]
      have : (k + 1) * 3 + 1 - 3 = k * 3 + 1 := by omega
      simpa [this] using ih.2.1
    · rw [List.getElem?_append_right (by simp; omega)]
      have : (k + 1) * 3 + 2 - 3 = k * 3 + 2 := by omega
      simpa [this] using ih.2.2
theorem rJ {w : World} {A : Option Addr} {l : List Tok} (h : Row w 3 A l.length (dg l)) {k : Nat} (hk : k < l.length) :
    ∃ b off, A = some ⟨b, off, none⟩ ∧ b < w.heap.size ∧ w.cell? ⟨b, off + k * 3, none⟩ = some (.int .i64 l[k].kind) ∧ w.cell? ⟨b, off + k * 3 + 1, none⟩ = some (.string ⟨l[k].lead.toArray⟩) ∧ w.cell? ⟨b, off + k * 3 + 2, none⟩ = some (.string ⟨l[k].text.toArray⟩) := by
  obtain ⟨b, off, rfl, hb, hc⟩ := h.2 (by omega)
  obtain ⟨h0, h1, h2⟩ := pH l k hk
  refine ⟨b, off, rfl, hb, ?_, ?_, ?_⟩
  · rw [hc _ (by omega), h0]
  · rw [Nat.add_assoc, hc _ (by omega), h1]
  · rw [Nat.add_assoc, hc _ (by omega), h2]
end Go.Proofs.YtiknldgpnhikhaaGreat
namespace Go.Proofs.YtiknldgpnhikhaaGreat
open Go.RowKit Lx
set_option maxRecDepth 100000
set_option maxHeartbeats 1000000 in
theorem Ai (l : List UInt8) (w : World) (hl : l.length ≤ 281474976710656) : Calls Tryz.prog 80 #[.string ⟨l.toArray⟩] w fun e w' => e = .returned (.int .i64 (bi l : Nat)) ∧ w = w' := by
  by_cases h0 : l = []
  · subst h0
    go_enter Tryz.func80, Tryz.ntmps80
    go_wp2
    go_ret
    exact ⟨rfl, rfl⟩
  · have hb1 : (l == []) = false := by simpa using h0
    have hb2 : l.isEmpty = false := by simpa using h0
    have hpos : 0 < l.length := List.length_pos_iff.2 h0
    obtain ⟨k, n, e, hT⟩ : ∃ k n e, tokenT l = (k, n, e) := ⟨_, _, _, rfl⟩
    have HT := Lib.hid hT
    have HC := Lib.hid (show bi l = if e = 0 ∧ n = l.length then k else 0 from by simp only [bi, if_neg h0, hT])
    clear hT h0
    go_enter Tryz.func80, Tryz.ntmps80
    go_wp2_with fail
    refine (AP _ _ hpos hl).mono ?_
    rintro e0 w' ⟨rfl, rfl⟩
    rw [HT.out]
    by_cases he : e = 0
    · subst he
      by_cases hn : n = l.length
      · have hnb : ((n : Int) != (l.length : Int)) = false := by simp; omega
        have HR := Lib.hid (HC.out.trans (if_pos ⟨rfl, hn⟩))
        clear hn
        go_wp2
        go_ret
        exact ⟨br (by rw [HR.out]), rfl⟩
      · have hnb : ((n : Int) != (l.length : Int)) = true := by simp; omega
        have HR := Lib.hid (HC.out.trans (if_neg (fun h => hn h.2)))
        clear hn
        go_wp2
        go_ret
        exact ⟨br (by rw [HR.out]; rfl), rfl⟩
    · have heb : ((e : Int) != 0) = true := by simp; omega
      have HR := Lib.hid (HC.out.trans (if_neg (fun h => he h.1)))
      go_wp2
      go_ret
      exact ⟨br (by rw [HR.out]; rfl), rfl⟩
theorem pf {l : List UInt8} {c : UInt8} (h0 : 0 < l.length) (hc : l[0] = c) (h : bN c = true ∨ c.toNat = 35) : tokenT l = (0, 0, 2) := by
  have hv : c.toNat = 9 ∨ c.toNat = 10 ∨ c.toNat = 13 ∨ c.toNat = 32 ∨ c.toNat = 35 := by
    rcases h with h | h
    · simp [bN] at h; omega
    · omega
  have ha : aY c = true := by
    rcases hv with h | h | h | h | h <;> simp [aY, bN, dc, h]
  have hs : signs.contains c = false := by
    have h : ∀ n : UInt8, (c == n) = (c.toNat == n.toNat) := fun n => by rw [Bool.eq_iff_iff]; simp [UInt8.toNat_inj]
    simp only [signs, List.contains_cons, List.contains_nil, Bool.or_false, h]
    rcases hv with h | h | h | h | h <;> rw [h] <;> rfl
  rw [oR h0 hc, if_neg (by simp [ha]), if_neg (by simp [bk, bZ, upperB]; omega), if_neg (by simp [bz]; omega), if_neg (by omega), if_neg (by omega), if_neg (by rw [hs]; simp)]
set_option maxHeartbeats 1000000 in
theorem tQ (l : List UInt8) (w : World) (hl : l.length ≤ 281474976710656) : Calls Tryz.prog 88 #[.string ⟨l.toArray⟩] w fun e w' => e = .returned (.int .i64 (bi l : Nat)) ∧ Ext w w' := by
  by_cases h0 : l = []
  · subst h0
    go_enter Tryz.func88, Tryz.ntmps88
    go_wp2
    go_ret
    exact ⟨rfl, Ext.refl _⟩
  · have hb1 : (l == []) = false := by simpa using h0
    have hb2 : l.isEmpty = false := by simpa using h0
    have hpos : 0 < l.length := List.length_pos_iff.2 h0
    obtain ⟨k, n, e, hT⟩ : ∃ k n e, tokenT l = (k, n, e) := ⟨_, _, _, rfl⟩
    have HT := Lib.hid hT
    have HC := Lib.hid (show bi l = if e = 0 ∧ n = l.length then k else 0 from by simp only [bi, if_neg h0, hT])
    clear hT h0
    obtain ⟨c, hc⟩ : ∃ c, ({ data := l.toArray } : ByteArray)[0]'hpos = c := ⟨_, rfl⟩
    have HC0 := Lib.hid (show l[0] = c from hc)
    cases hw : bN c
    rotate_left
    · have hz : (k, n, e) = (0, 0, 2) := HT.out.symm.trans (pf hpos HC0.out (.inl hw))
      have HR := Lib.hid (show bi l = 0 from by simp only [Prod.mk.injEq] at hz; rw [HC.out, if_neg (by omega)])
      clear hz
      go_enter Tryz.func88, Tryz.ntmps88
      go_wp2_with (first | (go_at_call 112; refine (gc _ _).mono ?_; rintro e w' ⟨rfl, rfl⟩))
      go_ret
      exact ⟨br (by rw [HR.out]; rfl), Ext.refl _⟩
    cases h35 : ((c.toNat : Int) == 35)
    rotate_left
    · have hz : (k, n, e) = (0, 0, 2) := HT.out.symm.trans (pf hpos HC0.out (.inr (cR (m := 35) h35)))
      have HR := Lib.hid (show bi l = 0 from by simp only [Prod.mk.injEq] at hz; rw [HC.out, if_neg (by omega)])
      clear hz
      go_enter Tryz.func88, Tryz.ntmps88
      go_wp2_with (first | (go_at_call 112; refine (gc _ _).mono ?_; rintro e w' ⟨rfl, rfl⟩))
      go_ret
      exact ⟨br (by rw [HR.out]; rfl), Ext.refl _⟩
    have CN := Lib.hid (fun w => y6 l 0 0 rfl w hpos hl)
    go_enter Tryz.func88, Tryz.ntmps88
    go_wp2_with (first | (go_at_call 112; refine (gc _ _).mono ?_; rintro e w' ⟨rfl, rfl⟩))
    refine (CN.out _).mono ?_
    rintro e0 w1 ⟨rfl, hext⟩
    rw [List.drop_zero, HT.out]
    have HX := Lib.hid hext; clear hext CN
    by_cases he : e = 0
    · subst he
      have HI := Lib.hid (show jw 0 (k, n, 0) = .agg #[.int .i64 n, .int .i64 k, .int .i64 0, .int .i64 0] from by simp [jw])
      rw [HI.out]
      clear HI
      by_cases hn : n = l.length
      · have hnb : ((n : Int) != (l.length : Int)) = false := by simp; omega
        have HR := Lib.hid (HC.out.trans (if_pos ⟨rfl, hn⟩))
        clear hn
        go_wp2
        go_ret
        exact ⟨br (by rw [HR.out]), HX.out.alloc _⟩
      · have hnb : ((n : Int) != (l.length : Int)) = true := by simp; omega
        have HR := Lib.hid (HC.out.trans (if_neg (fun h => hn h.2)))
        clear hn
        go_wp2
        go_ret
        exact ⟨br (by rw [HR.out]; rfl), HX.out.alloc _⟩
    · have HI := Lib.hid (show jw 0 (k, n, e) = .agg #[.int .i64 0, .int .i64 0, .int .i64 e, .int .i64 ((0 + n : Nat) : Int)] from by simp [jw, he])
      rw [HI.out]
      clear HI
      have heb : ((e : Int) != 0) = true := by simp; omega
      have HR := Lib.hid (HC.out.trans (if_neg (fun h => he h.1)))
      go_wp2
      go_ret
      exact ⟨br (by rw [HR.out]; rfl), HX.out.alloc _⟩
end Go.Proofs.YtiknldgpnhikhaaGreat
namespace Go.Proofs.YtiknldgpnhikhaaGreat
open Go.RowKit Lx Sx
theorem sum0_calls {fid : FuncId} {us : List V} {v : V} (hp1 : pureL us = true) (hp2 : v.pure = true) (h : ∀ (S : Nat → Prop) w ρ xs, LRel S w ρ us xs → Calls Tryz.prog fid xs.toArray w fun e w' => ∃ x, e = .returned x ∧ VRel S w' ρ v x ∧ Chg [] w w') : aT Tryz.prog fid us v :=
  ⟨hp1, hp2, fun S w ρ xs hr hx => (h S w ρ xs hx).mono fun e w' ⟨x, h1, h2, hc⟩ =>
    ⟨x, S, ρ, v, _, h1, rfl, hr.chg0 hc, ⟨ChgP.of0 hc, fun _ h => h, fun _ h => .inl h, fun id b hb => .inl ⟨id, hb⟩, fun id x h => by
      simp only [pQ] at h
      split at h
      · exact h
      · cases h⟩, h2⟩⟩
theorem vi {w w' : World} (h : Ext w w') : Chg [] w w' := Chg.of_ext h []
theorem zE (l : List UInt8) (hl : l.length ≤ 281474976710656) : aT Tryz.prog 80 [.str l] (.int .i64 (bi l : Nat)) :=
  sum0_calls rfl rfl fun S w ρ xs hx => by
    simp only [LRel] at hx
    obtain ⟨x, ys, rfl, h1, rfl⟩ := hx
    simp only [VRel] at h1; subst h1
    exact (Ai l w hl).mono fun e w' ⟨h1, h2⟩ => ⟨_, h1, by simp only [VRel], h2 ▸ Chg.refl _ _⟩
theorem yh (l : List UInt8) (hl : l.length ≤ 281474976710656) : aT Tryz.prog 88 [.str l] (.int .i64 (bi l : Nat)) :=
  sum0_calls rfl rfl fun S w ρ xs hx => by
    simp only [LRel] at hx
    obtain ⟨x, ys, rfl, h1, rfl⟩ := hx
    simp only [VRel] at h1; subst h1
    exact (tQ l w hl).mono fun e w' ⟨h1, h2⟩ => ⟨_, h1, by simp only [VRel], vi h2⟩
end Go.Proofs.YtiknldgpnhikhaaGreat
namespace Go.Proofs.YtiknldgpnhikhaaGreat
open Go.RowKit Lx Sx
def lsum : List (List UInt8) → Nat
  | [] => 0
  | l :: r => l.length + 1 + lsum r
mutual
def tbulk : Tree → Nat
  | .node _ s ls ks => s.length + lsum ls + kbulk ks + 1
def kbulk : List Tree → Nat
  | [] => 0
  | t :: r => tbulk t + kbulk r
end
theorem bt (t : Tree) : 0 < tbulk t := by cases t; simp only [tbulk]; omega
theorem fE : ∀ (ks : List Tree), ks.length ≤ kbulk ks
  | [] => Nat.le_refl _
  | t :: r => by have := fE r; have := bt t; simp only [kbulk, List.length_cons]; omega
theorem dJ : ∀ {ks : List Tree} {i : Nat} {t : Tree}, ks[i]? = some t → tbulk t ≤ kbulk ks
  | [], i, t, h => by simp at h
  | u :: r, 0, t, h => by simp only [List.getElem?_cons_zero, Option.some.injEq] at h; subst h; simp only [kbulk]; omega
  | u :: r, i + 1, t, h => by have := dJ (ks := r) (i := i) (by simpa using h); simp only [kbulk]; omega
theorem eb : ∀ (a b : List Tree), kbulk (a ++ b) = kbulk a + kbulk b
  | [], b => by simp [kbulk]
  | t :: r, b => by simp only [List.cons_append, kbulk, eb r b]; omega
theorem p6 : ∀ (l : List (List UInt8)), l.length ≤ lsum l
  | [] => Nat.le_refl _
  | x :: r => by have := p6 r; simp only [lsum, List.length_cons]; omega
theorem pZ : ∀ {l : List (List UInt8)} {i : Nat} {x : List UInt8}, l[i]? = some x → x.length + 1 ≤ lsum l
  | [], i, x, h => by simp at h
  | u :: r, 0, x, h => by simp only [List.getElem?_cons_zero, Option.some.injEq] at h; subst h; simp only [lsum]; omega
  | u :: r, i + 1, x, h => by have := pZ (l := r) (i := i) (by simpa using h); simp only [lsum]; omega
theorem bC (t : Tree) : tbulk t = t.text.length + lsum t.leads + kbulk t.kids + 1 := by cases t; simp [tbulk, Tree.text, Tree.leads, Tree.kids]
theorem bU {t u : Tree} {i : Nat} (h : t.kids[i]? = some u) : tbulk u < tbulk t := by
  have := dJ h; rw [bC t]; omega
theorem di (t : Tree) : t.kids.length < tbulk t := by
  have := fE t.kids; rw [bC t]; omega
theorem cf (t : Tree) : t.text.length < tbulk t := by rw [bC t]; omega
theorem r4 (t : Tree) : t.leads.length < tbulk t := by
  have := p6 t.leads; rw [bC t]; omega
theorem cr {C : Tree → Prop} (h : ∀ t : Tree, (∀ (i : Nat) (u : Tree), t.kids[i]? = some u → C u) → C t) : ∀ t, C t := fun t => by
  have : ∀ n t, tbulk t ≤ n → C t := fun n => by
    induction n with
    | zero => intro t ht; have := bt t; omega
    | succ n ih => intro t ht; exact h t fun i u hu => ih u (by have := bU hu; omega)
  exact this _ t (Nat.le_refl _)
theorem aU {α : Type} (l : List α) (i : Nat) : (∃ x, l[i]? = some x ∧ i < l.length) ∨ (¬ i < l.length) := by
  by_cases h : i < l.length
  · exact .inl ⟨l[i], by simp [h], h⟩
  · exact .inr h
theorem bQ {α : Type} {l : List α} {i : Nat} {x : α} (h : l[i]? = some x) : l.drop i = x :: l.drop (i + 1) := by
  obtain ⟨hl, rfl⟩ := List.getElem?_eq_some_iff.1 h
  exact List.drop_eq_getElem_cons hl
end Go.Proofs.YtiknldgpnhikhaaGreat
namespace Go.Proofs.YtiknldgpnhikhaaGreat
open Go.RowKit Lx Sx
set_option maxHeartbeats 1000000
def f0 (n : Int) (least leads list : Nat) (most : Int) : Int := if 0 ≤ most ∧ most < n then -1 else if n < least then -1 else if most < 0 ∧ (list : Int) < n then leads + (n - list - 1) else leads
def cH (k n : Int) : Int := if k = 1 then (if n < 0 then -1 else 3) else if k = 2 then f0 n 2 6 2 (-1) else if k = 16 then f0 n 0 3 0 (-1) else if k = 18 then f0 n 1 2 0 (-1) else if k = 3 then f0 n 1 3 0 1 else if k = 4 then f0 n 1 2 0 1 else if k = 8 then f0 n 1 2 0 1 else if k = 22 then f0 n 1 2 0 1 else if k = 17 then f0 n 1 0 0 1 else if k = 19 then f0 n 3 3 0 3 else if k = 20 then f0 n 2 4 0 2 else if k = 21 then f0 n 2 1 0 2 else if k = 5 ∨ k = 6 ∨ k = 7 ∨ k = 9 ∨ k = 10 ∨ k = 11 ∨ k = 12 ∨ k = 13 ∨ k = 14 ∨ k = 15 then f0 n 0 1 0 0 else -1
theorem mS (a b c : Int) : d4 a b c (if a < b then -1 else c) := pD 0 _ _ _ _ ⟨fun h => by rw [if_pos h], fun h => by rw [if_neg h]⟩
theorem Au (a b c : Int) : bT a b c (if a = b then c else -1) := oF 0 _ _ _ _ ⟨fun h => by rw [if_pos h], fun h => by rw [if_neg h]⟩
theorem AM (m : Nat) {n : Int} (h0 : 0 ≤ n) (h1 : n ≤ 1000000000) (a b c : Nat) (z : Int) (hb : b ≤ 10) (hc : c ≤ 2) (hz : ¬ (0 ≤ z ∧ z < n)) : hV (m + 1) n a b c z (f0 n a b c z) := by
  refine pT m _ _ _ _ _ _ ⟨fun h => ⟨fun h' => ⟨by omega, by omega, by omega, _, mS _ _ _, ?_⟩, fun h' => ⟨_, mS _ _ _, ?_⟩⟩, fun h => ⟨_, mS _ _ _, ?_⟩⟩
  · simp only [f0, if_neg hz, h, h', true_and, if_true]
  · simp only [f0, if_neg hz, h, h', true_and, if_false]
  · simp only [f0, if_neg hz, h, false_and, if_false]
theorem Bb (m : Nat) {n : Int} (h0 : 0 ≤ n) (h1 : n ≤ 1000000000) (a b c : Nat) (z : Int) (hb : b ≤ 10) (hc : c ≤ 2) : aJ (m + 2) n a b c z (f0 n a b c z) := by
  refine qi (m + 1) _ _ _ _ _ _ ⟨fun h => ⟨fun h' => ?_, fun h' => AM m h0 h1 _ _ _ _ hb hc (by omega)⟩, fun h => AM m h0 h1 _ _ _ _ hb hc (by omega)⟩
  simp [f0, h, h']
theorem Ab {k n : Int} (h0 : 0 ≤ n) (h1 : n ≤ 1000000000) : lq k n (cH k n) := by
  have l0 : ∀ {r : Int} (a b c : Nat) (z : Int), b ≤ 10 → c ≤ 2 → r = f0 n a b c z → aJ 3 n a b c z r := fun a b c z hb hc e => by rw [e]; exact Bb 1 h0 h1 a b c z hb hc
  have l0' : ∀ {r : Int} (a b c : Nat) (z : Int), b ≤ 10 → c ≤ 2 → r = f0 n a b c z → aJ 4 n a b c z r := fun a b c z hb hc e => by rw [e]; exact Bb 2 h0 h1 a b c z hb hc
  refine qK 4 _ _ _ ?_
  repeat' first | (refine ⟨_, mS _ _ _, ?_⟩) | (refine And.intro (fun _ => ?_) (fun _ => ?_)) | (refine pW 3 _ _ _ _ ?_)
  all_goals first | (refine l0' _ _ _ _ (by decide) (by decide) ?_) | (refine l0 _ _ _ _ (by decide) (by decide) ?_) | skip
  all_goals simp_all [cH]
theorem nQ {k n : Int} (h0 : 0 ≤ n) (h1 : n ≤ 1000000000) : dS k n (cH k n) := by
  refine oo 2 _ _ _ ?_
  repeat' first | (refine ⟨_, Au _ _ _, ?_⟩) | (refine And.intro (fun _ => ?_) (fun _ => ?_)) | (refine nJ 1 _ _ _ _ ?_) | (refine nH 0 _ _ _ _ ?_) | (refine And.intro (by omega) ?_)
  all_goals simp_all [cH]
  all_goals (try unfold f0)
  all_goals (repeat' split)
  all_goals omega
def qz (x : List UInt8) : Bool := x == [43] || x == [45] || x == [42] || x == [60] || x == [61, 61]
def iJ (k : Int) (x : List UInt8) : Bool := if k = 1 ∨ k = 3 then (bi x : Int) == 2 else if k = 2 ∨ k = 4 ∨ k = 12 ∨ k = 20 then (bi x : Int) == 1 else if k = 9 then (bi x : Int) == 2 || (bi x : Int) == 4 else if k = 16 then (bi x : Int) == 1 || (bi x : Int) == 3 else if k = 10 then (bi x : Int) == 5 else if k = 11 then (bi x : Int) == 6 else if k = 21 then qz x else x == []
theorem wc (x : List UInt8) : iS x (qz x) := by
  refine oQ 0 _ _ ?_
  repeat' (refine And.intro (fun _ => ?_) (fun _ => ?_))
  all_goals simp_all [qz]
theorem uy (x : List UInt8) : e7 x (qz x) := by
  refine lZ 0 _ _ ?_
  repeat' (refine And.intro (fun _ => ?_) (fun _ => ?_))
  all_goals simp_all [qz]
theorem x9 (k : Int) (x : List UInt8) (hx : x.length ≤ 281474976710656) : j9 k x (iJ k x) := by
  refine qr 2 _ _ _ ?_
  refine ⟨_, zE x hx, ?_⟩
  repeat' first | (refine ⟨_, wc _, ?_⟩) | (refine And.intro (fun _ => ?_) (fun _ => ?_)) | (refine pE 1 _ _ _ _ _ ?_) | (refine pG 0 _ _ _ _ _ ?_)
  all_goals simp_all [iJ]
theorem xv (k : Int) (x : List UInt8) (hx : x.length ≤ 281474976710656) : fW k x (iJ k x) := by
  refine mD 2 _ _ _ ?_
  refine ⟨_, yh x hx, ?_⟩
  repeat' first | (refine ⟨_, uy _, ?_⟩) | (refine And.intro (fun _ => ?_) (fun _ => ?_)) | (refine mf 1 _ _ _ _ _ ?_) | (refine my 0 _ _ _ _ _ ?_)
  all_goals simp_all [iJ]
def fk (k : Int) : Bool := decide (5 ≤ k ∧ k ≤ 9)
def jV (k : Int) : Bool := decide (10 ≤ k ∧ k ≤ 22 ∧ k ≠ 17)
def pw (k : Int) : Bool := jV k && decide (k ≠ 19 ∧ k ≠ 20 ∧ k ≠ 21)
theorem yN (k : Int) : hO k (fk k) := qb 0 _ _ ⟨fun h => by simp [fk, h], fun h => by simp [fk, h]⟩
theorem o7 (k : Int) : dB k (fk k) := nm 0 _ _ ⟨fun h => by simp [fk, h], fun h => by simp [fk, h]⟩
theorem pA (a b : Int) : (a != b) = decide (a ≠ b) := by by_cases h : a = b <;> simp [h]
theorem tr (k : Int) : dr k (jV k) := nb 0 _ _ ⟨fun h => ⟨fun h' => by simp [jV, h, h', pA], fun h' => by simp [jV, h, h']⟩, fun h => by simp [jV, h]⟩
theorem r7 (k : Int) : dD k (jV k) := nG 0 _ _ ⟨fun h => ⟨fun h' => by simp [jV, h, h', pA], fun h' => by simp [jV, h, h']⟩, fun h => by simp [jV, h]⟩
theorem y4 (k : Int) : kc k (pw k) := by
  refine qq 0 _ _ ⟨_, tr k, ?_⟩
  repeat' (refine And.intro (fun _ => ?_) (fun _ => ?_))
  all_goals simp_all [pw, pA]
theorem oU (k : Int) : eU k (pw k) := by
  refine nw 0 _ _ ⟨_, r7 k, ?_⟩
  repeat' (refine And.intro (fun _ => ?_) (fun _ => ?_))
  all_goals simp_all [pw, pA]
def hZ (k n : Int) (i : Int) (kk : Int) : Bool := if k = 1 then kk == 2 || kk == 3 else if k = 2 then (if i = n - 1 then jV kk else if i = n - 2 then fk kk else kk == 4) else if k = 3 ∨ k = 4 ∨ k = 8 then fk kk else if k = 16 then kk == 17 else if k = 21 then pw kk || (decide (i = 0) && kk == 21) else jV kk
theorem zN {t u : Tree} {i : Nat} (hu : t.kids[i]? = some u) : lj t i (hZ t.kind t.kids.length i u.kind) := by
  refine qM 1 _ _ _ ⟨i, rfl, u, hu, ?_⟩
  repeat' first | (refine ⟨_, tr _, ?_⟩) | (refine ⟨_, yN _, ?_⟩) | (refine ⟨_, y4 _, ?_⟩) | (refine And.intro (fun _ => ?_) (fun _ => ?_)) | (refine qo 0 _ _ _ _ _ ?_)
  all_goals simp_all [hZ]
theorem BT (t : Tree) (i : Nat) (kk : Int) : iT t i kk (hZ t.kind t.kids.length i kk) := by
  refine oX 1 _ _ _ _ ?_
  repeat' first | (refine ⟨_, r7 _, ?_⟩) | (refine ⟨_, o7 _, ?_⟩) | (refine ⟨_, oU _, ?_⟩) | (refine And.intro (fun _ => ?_) (fun _ => ?_)) | (refine oJ 0 _ _ _ _ _ ?_)
  all_goals simp_all [hZ]
mutual
def shapeK : Tree → Bool
  | .node k s _ ks => decide (0 ≤ cH k ks.length) && iJ k s && shapeKs k ks.length 0 ks
def shapeKs (k n : Int) : Nat → List Tree → Bool
  | _, [] => true
  | i, t :: r => hZ k n i t.kind && shapeK t && shapeKs k n (i + 1) r
end
theorem dI (t : Tree) : shapeK t = (decide (0 ≤ cH t.kind t.kids.length) && iJ t.kind t.text && shapeKs t.kind t.kids.length 0 t.kids) := by cases t; simp only [shapeK]; rfl
theorem mC : ∀ t : Tree, tbulk t ≤ 1000000000 → en t (shapeK t) := cr fun t ih hb => by
  have hk := di t
  have ht := cf t
  have loop : ∀ m i, t.kids.length - i ≤ m → (0 ≤ cH t.kind t.kids.length ∧ iJ t.kind t.text = true) → gI (m + 1) t i (shapeKs t.kind t.kids.length i (t.kids.drop i)) := fun m => by
    induction m with
    | zero =>
      intro i hi hw
      refine lX 0 _ _ _ ⟨fun h => by omega, fun h => ?_⟩
      rw [List.drop_of_length_le (by omega), shapeKs]
    | succ m ihm =>
      intro i hi hw
      refine lX (m + 1) _ _ _ ⟨fun h => ?_, fun h => ?_⟩
      · obtain ⟨u, hu, _⟩ | h' := aU t.kids i
        · rw [bQ hu, shapeKs]
          have hbu := bU hu
          refine ⟨u, hu, _, zN hu, fun h1 => by simp [h1], fun h1 => ⟨_, ih i u hu (by omega), fun h2 => by simp [h1, h2], fun h2 => ⟨by omega, ?_⟩⟩⟩
          simp only [h1, h2, Bool.true_and]
          exact ihm (i + 1) (by omega) hw
        · exact absurd h h'
      · rw [List.drop_of_length_le (by omega), shapeKs]
  rw [dI]
  refine pV (t.kids.length + 1) _ _ ⟨_, Ab (by omega) (by omega), fun h => ?_, fun h => ⟨_, x9 _ _ (by omega), fun h1 => by simp [h1], fun h1 => ?_⟩⟩
  · rw [decide_eq_false (by omega)]; rfl
  · rw [decide_eq_true (by omega), h1]
    exact loop _ 0 (by omega) ⟨by omega, h1⟩
theorem lC : ∀ t : Tree, tbulk t ≤ 1000000000 → ch t (shapeK t) := cr fun t ih hb => by
  have hk := di t
  have ht := cf t
  have loop : ∀ m i, t.kids.length - i ≤ m → ek (m + 1) t i (shapeKs t.kind t.kids.length i (t.kids.drop i)) := fun m => by
    induction m with
    | zero =>
      intro i hi
      refine i5 0 _ _ _ ⟨fun h => by omega, fun h => ?_⟩
      rw [List.drop_of_length_le (by omega), shapeKs]
    | succ m ihm =>
      intro i hi
      refine i5 (m + 1) _ _ _ ⟨fun h => ?_, fun h => ?_⟩
      · obtain ⟨u, hu, _⟩ | h' := aU t.kids i
        · rw [bQ hu, shapeKs]
          have hbu := bU hu
          refine ⟨u, hu, _, BT _ _ _, fun h1 => by simp [h1], fun h1 => ⟨u, hu, _, ih i u hu (by omega), fun h2 => by simp [h1, h2], fun h2 => ?_⟩⟩
          simp only [h1, h2, Bool.true_and]
          exact ihm (i + 1) (by omega)
        · exact absurd h h'
      · rw [List.drop_of_length_le (by omega), shapeKs]
  rw [dI]
  refine nq (t.kids.length + 1) _ _ ⟨_, nQ (by omega) (by omega), fun h => ?_, fun h => ⟨_, xv _ _ (by omega), fun h1 => by simp [h1], fun h1 => ?_⟩⟩
  · rw [decide_eq_false (by omega)]; rfl
  · rw [decide_eq_true (by omega), h1]
    exact loop _ 0 (by omega)
end Go.Proofs.YtiknldgpnhikhaaGreat
namespace Go.Proofs.YtiknldgpnhikhaaGreat
open Go.RowKit
set_option maxRecDepth 100000
set_option maxHeartbeats 1000000 in
theorem vl (s : ByteArray) (c : Int) (w : World) : Calls Tryz.prog 118 #[.string s, .int .u8 c] w fun e w' => e = .returned (.int .i64 (Lib.indexByte s.data.toList c.toNat.toUInt8)) ∧ w = w' := by
  go_enter Tryz.func118, Tryz.ntmps118
  go_wp2
  rw [run_callFunc_extern Tryz.func132 (by kernel_rfl) (by kernel_rfl) (by kernel_rfl) (e := Extern.BytealgIndexByte.indexByte) (by kernel_rfl), Lib.run_indexByteString]
  simp only [Result.andThen]
  rw [Oper.upon_value]
  go_wp2
  go_ret
  exact ⟨rfl, rfl⟩
theorem wk (s : ByteArray) (c : Int) (w : World) : Calls Tryz.prog 97 #[.string s, .int .u8 c] w fun e w' => e = .returned (.int .i64 (Lib.indexByte s.data.toList c.toNat.toUInt8)) ∧ w = w' := by
  go_enter Tryz.func97, Tryz.ntmps97
  go_wp2_with (go_at_call 118; refine (vl _ _ _).mono ?_; rintro e w' ⟨rfl, rfl⟩)
  go_ret
  exact ⟨rfl, rfl⟩
end Go.Proofs.YtiknldgpnhikhaaGreat
namespace Go.Proofs.YtiknldgpnhikhaaGreat
open Go.RowKit Lx Sx
set_option maxHeartbeats 1000000
def bw (s : List UInt8) : List Tree → Nat → Int
  | [], _ => -1
  | t :: r, i => if t.text = s then (i : Int) else bw s r (i + 1)
theorem mq (s : List UInt8) : ∀ (l : List Tree) (i : Nat), bw s l i = -1 ∨ ∃ k t, bw s l i = ((i + k : Nat) : Int) ∧ l[k]? = some t ∧ t.text = s ∧ ∀ j u, j < k → l[j]? = some u → u.text ≠ s
  | [], i => .inl rfl
  | t :: r, i => by
    simp only [bw]
    split
    · rename_i h
      exact .inr ⟨0, t, rfl, rfl, h, fun j u hj _ => by omega⟩
    · rename_i h
      rcases mq s r (i + 1) with h1 | ⟨k, u, h1, h2, h3, h4⟩
      · exact .inl h1
      · refine .inr ⟨k + 1, u, by rw [h1]; congr 1; omega, by simpa using h2, h3, fun j x hj hx => ?_⟩
        cases j with
        | zero => simp at hx; subst hx; exact h
        | succ j => exact h4 j x (by omega) (by simpa using hx)
theorem yd (t : Tree) (s : List UInt8) : kY t s (t.text == s) := qQ 0 _ _ _ rfl
theorem uw (l : List Tree) (s : List UInt8) (hl : l.length ≤ 1000000000) : iz l s (bw s l 0) := by
  have loop : ∀ m i, l.length - i ≤ m → fv (m + 1) l s i (bw s (l.drop i) i) := fun m => by
    induction m with
    | zero =>
      intro i hi
      refine kI 0 _ _ _ _ ⟨fun h => by omega, fun h => ?_⟩
      rw [List.drop_of_length_le (by omega), bw]
    | succ m ihm =>
      intro i hi
      refine kI (m + 1) _ _ _ _ ⟨fun h => ?_, fun h => ?_⟩
      · obtain ⟨u, hu, _⟩ | h' := aU l i
        · rw [bQ hu, bw]
          refine ⟨u, hu, _, yd u s, fun h1 => ?_, fun h1 => ⟨by omega, ?_⟩⟩
          · rw [if_pos (by simpa using h1)]
          · rw [if_neg (by simpa using h1)]; exact ihm (i + 1) (by omega)
        · exact absurd h h'
      · rw [List.drop_of_length_le (by omega), bw]
  exact oN _ _ _ _ (loop l.length 0 (by omega))
theorem uZ (l : List Tree) (s : List UInt8) (hl : l.length ≤ 1000000000) : kq l s (bw s l 0) := st 0 _ _ _ ⟨_, uw l s hl, rfl⟩
def cn : List UInt8 → Nat → Int
  | [], _ => -1
  | c :: r, i => if c = 46 then (i : Int) else cn r (i + 1)
theorem ol : ∀ (l : List UInt8) (i : Nat), cn l i = -1 ∨ ∃ k, cn l i = ((i + k : Nat) : Int) ∧ k < l.length
  | [], i => .inl rfl
  | c :: r, i => by
    simp only [cn]
    split
    · exact .inr ⟨0, rfl, by simp⟩
    · rcases ol r (i + 1) with h1 | ⟨k, h1, h2⟩
      · exact .inl h1
      · exact .inr ⟨k + 1, by rw [h1]; congr 1; omega, by simp; omega⟩
theorem zi (c : UInt8) : ∀ (l : List UInt8), -1 ≤ Lib.indexByte l c
  | [] => by simp [Lib.indexByte]
  | b :: r => by
    have := zi c r
    simp only [Lib.indexByte]
    split
    · omega
    · split <;> omega
theorem oE : ∀ (l : List UInt8) (i : Nat), cn l i = if Lib.indexByte l 46 = -1 then -1 else Lib.indexByte l 46 + (i : Int)
  | [], i => by simp [cn, Lib.indexByte]
  | c :: r, i => by
    have ih := oE r (i + 1)
    have := zi 46 r
    simp only [cn, Lib.indexByte, ih]
    by_cases h : c = 46
    · simp [h]
    · have h' : (c == 46) = false := by simpa using h
      simp only [if_neg h, h']
      by_cases h2 : Lib.indexByte r 46 = -1
      · simp [h2]
      · have h3 : (Lib.indexByte r 46 == -1) = false := by simpa using h2
        simp only [if_neg h2, h3, Bool.false_eq_true, if_false]
        rw [if_neg (by omega)]; omega
theorem ul (l : List UInt8) : fc l 46 (cn l 0) := sum0_calls rfl rfl fun S w ρ xs hx => by
  simp only [LRel] at hx
  obtain ⟨x, ys, rfl, h1, y, zs, rfl, h2, rfl⟩ := hx
  simp only [VRel] at h1 h2; subst h1 h2
  refine (vl _ _ w).mono fun e w' ⟨h1, h2⟩ => ⟨_, h1, ?_, h2 ▸ Chg.refl _ _⟩
  simp only [VRel]
  have e : cn l 0 = Lib.indexByte l 46 := by
    rw [oE]; split
    · rename_i h; rw [h]
    · simp
  rw [e]; rfl
theorem zM (l : List UInt8) : de l (cn l 0) := by
  refine jc 1 _ _ ⟨fun h => ?_, fun h => iV 0 _ _ ?_⟩
  · subst h; rfl
  · exact ⟨_, ul l, rfl⟩
theorem A3 (l : List UInt8) (hl : l.length ≤ 1000000000) : iW l (if 0 ≤ cn l 0 then l.take (cn l 0).toNat else l) (if 0 ≤ cn l 0 then l.drop ((cn l 0).toNat + 1) else []) (decide (0 ≤ cn l 0)) := by
  refine ph 0 _ _ _ _ ⟨_, _, _, ?_, rfl, rfl, rfl⟩
  refine jT 0 _ _ _ _ ⟨_, zM l, fun h => ?_, fun h => ?_⟩
  · rcases ol l 0 with h1 | ⟨k, h1, h2⟩
    · rw [h1] at h; omega
    · rw [h1]
      exact ⟨k, by simp, by omega, by omega, k + 1, by simp, by omega, by simp, by simp, by simp⟩
  · simp [h]
def inK (p : List Tree) (m : Int) (w : List UInt8) : Int × Int × Bool := if m < 0 then (0, 0, false) else match p[m.toNat]? with
  | none => (0, 0, false)
  | some t => if bw w t.kids 0 < 0 then (0, 0, false) else (m, bw w t.kids 0, true)
def ba (p : List Tree) (m : Int) (w : List UInt8) : Int × Int × Bool := if 0 ≤ cn w 0 then inK p (bw (w.take (cn w 0).toNat) p 0) (w.drop ((cn w 0).toNat + 1)) else inK p m w
theorem uQ {p : List Tree} {m : Int} {w : List UInt8} (hm : m < p.length) (hp : kbulk p ≤ 1000000000) : iH 1 p m w (inK p m w).1 (inK p m w).2.1 (inK p m w).2.2 := by
  refine qA 0 _ _ _ _ _ _ ⟨fun h => by simp [inK, h], fun h => ?_⟩
  obtain ⟨t, ht, _⟩ | h' := aU p m.toNat
  · have := dJ ht
    have := di t
    refine ⟨m.toNat, by omega, t, ht, _, uZ _ _ (by omega), fun h1 => ?_, fun h1 => ?_⟩
    · simp [inK, h, ht, h1]
    · simp [inK, h, ht, h1]
  · omega
theorem tk {p : List Tree} {m : Int} {w : List UInt8} (h0 : 0 ≤ m) (hm : m < p.length) (hp : kbulk p ≤ 1000000000) (hw : w.length ≤ 1000000000) : jt p m w (ba p m w).1 (ba p m w).2.1 (ba p m w).2.2 := by
  have hpl := fE p
  refine rh 1 _ _ _ _ _ _ ⟨fun h => by omega, fun h => ⟨fun h => by omega, fun h => ⟨_, _, _, A3 w hw, fun h1 => ?_, fun h1 => ?_⟩⟩⟩
  · have h1 : 0 ≤ cn w 0 := by simpa using h1
    simp only [if_pos h1, ba]
    refine ⟨_, uZ _ _ (by omega), ?_⟩
    refine uQ ?_ hp
    rcases mq (w.take (cn w 0).toNat) p 0 with h2 | ⟨k, t, h2, h3, _⟩
    · rw [h2]; omega
    · have := (List.getElem?_eq_some_iff.1 h3).1
      rw [h2]; omega
  · have h1 : ¬ 0 ≤ cn w 0 := by simpa using h1
    simp only [ba, if_neg h1]
    exact uQ hm hp
theorem y8 (l : List UInt8) (hl : l.length ≤ 1000000000) : iR l (cn l 0) := by
  have loop : ∀ m i, l.length - i ≤ m → fQ (m + 1) l i (cn (l.drop i) i) := fun m => by
    induction m with
    | zero =>
      intro i hi
      refine kK 0 _ _ _ ⟨fun h => by omega, fun h => ?_⟩
      rw [List.drop_of_length_le (by omega), cn]
    | succ m ihm =>
      intro i hi
      refine kK (m + 1) _ _ _ ⟨fun h => ?_, fun h => ?_⟩
      · obtain ⟨u, hu, _⟩ | h' := aU l i
        · rw [bQ hu, cn]
          refine ⟨u, hu, fun h1 => ?_, fun h1 => ⟨by omega, ?_⟩⟩
          · rw [if_pos (UInt8.toNat_inj.1 (by show u.toNat = 46; omega))]
          · rw [if_neg (fun e => h1 (by subst e; rfl))]; exact ihm (i + 1) (by omega)
        · exact absurd h h'
      · rw [List.drop_of_length_le (by omega), cn]
  exact o5 _ _ _ (loop l.length 0 (by omega))
theorem zJ {p : List Tree} {m k : Nat} {t : Tree} {w : List UInt8} (ht : p[k]? = some t) : ∀ i, t.kids.length - i ≤ m → cW (m + 1) p i (k : Int) w (if bw w (t.kids.drop i) i < 0 then 0 else (k : Int)) (if bw w (t.kids.drop i) i < 0 then 0 else bw w (t.kids.drop i) i) (decide (¬ bw w (t.kids.drop i) i < 0)) := by
  induction m with
  | zero =>
    intro i hi
    refine kB 0 _ _ _ _ _ _ _ ⟨k, rfl, t, ht, fun h => by omega, fun h => ?_⟩
    rw [List.drop_of_length_le (by omega), bw]; simp
  | succ m ihm =>
    intro i hi
    refine kB (m + 1) _ _ _ _ _ _ _ ⟨k, rfl, t, ht, fun h => ?_, fun h => ?_⟩
    · obtain ⟨u, hu, _⟩ | h' := aU t.kids i
      · rw [bQ hu, bw]
        refine ⟨k, rfl, t, ht, u, hu, fun h1 => ?_, fun h1 => ?_⟩
        · have h2 : ¬ ((i : Int) < 0) := by omega
          simp only [if_pos h1, if_neg h2]; simp [h2]
        · simp only [if_neg h1]; exact ihm (i + 1) (by omega)
      · exact absurd h h'
    · rw [List.drop_of_length_le (by omega), bw]; simp
theorem A4 {p : List Tree} {m : Int} {w : List UInt8} (h0 : 0 ≤ m) (hm : m < p.length) (hp : kbulk p ≤ 1000000000) (hw : w.length ≤ 1000000000) : iu p m w (ba p m w).1 (ba p m w).2.1 (ba p m w).2.2 := by
  have hpl := fE p
  have one : ∀ (k : Nat) (x : List UInt8) t, p[k]? = some t → ∃ M, ∀ m', M ≤ m' → cW m' p 0 (k : Int) x (inK p k x).1 (inK p k x).2.1 (inK p k x).2.2 := fun k x t ht => by
    refine ⟨t.kids.length + 1, fun m' hm' => ?_⟩
    obtain ⟨q, rfl⟩ : ∃ q, m' = q + 1 := ⟨m' - 1, by omega⟩
    have := zJ (w := x) (m := q) ht 0 (by omega)
    have e : inK p k x = (if bw x (t.kids.drop 0) 0 < 0 then 0 else (k : Int), if bw x (t.kids.drop 0) 0 < 0 then 0 else bw x (t.kids.drop 0) 0, decide (¬ bw x (t.kids.drop 0) 0 < 0)) := by
      simp only [inK, show ¬ ((k : Int) < 0) by omega, if_false, Int.toNat_natCast, ht, List.drop_zero]
      split <;> simp_all
    rw [e]; exact this
  by_cases hd : 0 ≤ cn w 0
  · rcases ol w 0 with h1 | ⟨k, h1, h2⟩
    · rw [h1] at hd; omega
    have hk : (cn w 0).toNat = k := by rw [h1]; simp
    simp only [ba, if_pos hd, hk]
    -- the module
    have loop : ∀ n i, p.length - i ≤ n → i ≤ p.length → ∃ M, ∀ m', M ≤ m' → dR m' p w (cn w 0) i (inK p (bw (w.take k) (p.drop i) i) (w.drop (k + 1))).1 (inK p (bw (w.take k) (p.drop i) i) (w.drop (k + 1))).2.1 (inK p (bw (w.take k) (p.drop i) i) (w.drop (k + 1))).2.2 := fun n => by
      have last : ∀ i, i = p.length → ∃ M, ∀ m', M ≤ m' → dR m' p w (cn w 0) i (inK p (bw (w.take k) (p.drop i) i) (w.drop (k + 1))).1 (inK p (bw (w.take k) (p.drop i) i) (w.drop (k + 1))).2.1 (inK p (bw (w.take k) (p.drop i) i) (w.drop (k + 1))).2.2 := fun i hi => by
        refine ⟨2, fun m' hm' => ?_⟩
        obtain ⟨q, rfl⟩ : ∃ q, m' = q + 2 := ⟨m' - 2, by omega⟩
        refine gw (q + 1) _ _ _ _ _ _ _ ⟨fun h => by omega, fun _ => kC q _ _ _ _ _ _ _ ⟨fun _ => ?_, fun h => absurd hi h⟩⟩
        rw [List.drop_of_length_le (by omega), bw]; simp [inK]
      induction n with
      | zero => intro i hi hle; exact last i (by omega)
      | succ n ih =>
        intro i hi hle
        obtain ⟨u, hu, hlt⟩ | h' := aU p i
        · by_cases ht : u.text = w.take k
          · obtain ⟨M, hM⟩ := one i (w.drop (k + 1)) u hu
            refine ⟨M + 2, fun m' hm' => ?_⟩
            obtain ⟨q, rfl⟩ : ∃ q, m' = q + 2 := ⟨m' - 2, by omega⟩
            rw [bQ hu, bw, if_pos ht]
            refine gw (q + 1) _ _ _ _ _ _ _ ⟨fun _ => ⟨u, hu, k, by rw [h1]; simp, by omega, fun h => absurd ht h, fun _ => ?_⟩, fun h => absurd hlt h⟩
            refine kC q _ _ _ _ _ _ _ ⟨fun h => by omega, fun _ => ⟨by rw [h1]; omega, k + 1, by rw [h1]; omega, by omega, hM q (by omega)⟩⟩
          · obtain ⟨M, hM⟩ := ih (i + 1) (by omega) (by omega)
            refine ⟨M + 1, fun m' hm' => ?_⟩
            obtain ⟨q, rfl⟩ : ∃ q, m' = q + 1 := ⟨m' - 1, by omega⟩
            rw [bQ hu, bw, if_neg ht]
            exact gw q _ _ _ _ _ _ _ ⟨fun _ => ⟨u, hu, k, by rw [h1]; simp, by omega, fun _ => hM q (by omega), fun h => absurd h ht⟩, fun h => absurd hlt h⟩
        · exact last i (by omega)
    obtain ⟨M, hM⟩ := loop p.length 0 (by omega) (by omega)
    exact kR M _ _ _ _ _ _ ⟨_, y8 w hw, fun _ => hM M (Nat.le_refl _), fun h => absurd hd h⟩
  · simp only [ba, if_neg hd]
    obtain ⟨t, ht, _⟩ | h' := aU p m.toNat
    · obtain ⟨M, hM⟩ := one m.toNat w t ht
      have := hM M (Nat.le_refl _)
      rw [show ((m.toNat : Nat) : Int) = m by omega] at this
      exact kR M _ _ _ _ _ _ ⟨_, y8 w hw, fun h => absurd h hd, fun _ => this⟩
    · omega
end Go.Proofs.YtiknldgpnhikhaaGreat
namespace Go.Proofs.YtiknldgpnhikhaaGreat
open Go.RowKit Lx Sx
set_option maxHeartbeats 1000000
mutual
def nodK : Tree → List Int → List (List Int × Tree)
  | .node k s ls ks, q => (q, .node k s ls ks) :: nodKs ks q 0
def nodKs : List Tree → List Int → Nat → List (List Int × Tree)
  | [], _, _ => []
  | t :: r, q, i => nodK t (q ++ [(i : Int)]) ++ nodKs r q (i + 1)
end
theorem jL (t : Tree) (q : List Int) : nodK t q = (q, t) :: nodKs t.kids q 0 := by cases t; simp only [nodK]; rfl
mutual
theorem nodK_len : ∀ (t : Tree) (q : List Int), (nodK t q).length ≤ tbulk t
  | .node k s ls ks, q => by have := nodKs_len ks q 0; simp only [nodK, tbulk, List.length_cons]; omega
theorem nodKs_len : ∀ (l : List Tree) (q : List Int) (i : Nat), (nodKs l q i).length ≤ kbulk l
  | [], _, _ => by simp [nodKs, kbulk]
  | t :: r, q, i => by have := nodK_len t (q ++ [(i : Int)]); have := nodKs_len r q (i + 1); simp only [nodKs, kbulk, List.length_append]; omega
end
def atK : Tree → List Int → Option Tree
  | t, [] => some t
  | t, i :: r => if i < 0 then none else match t.kids[i.toNat]? with
    | none => none
    | some u => atK u r
theorem vb : ∀ (t : Tree) (q r : List Int), atK t (q ++ r) = (atK t q).bind fun u => atK u r
  | t, [], r => rfl
  | t, i :: q, r => by
    simp only [List.cons_append, atK]
    split
    · rfl
    · split
      · rfl
      · rename_i u hu; exact vb u q r
theorem zA {t u : Tree} {i : Nat} (h : t.kids[i]? = some u) : atK t [(i : Int)] = some u := by
  simp [atK, h, show ¬ ((i : Int) < 0) by omega]
mutual
theorem nodK_at (root : Tree) : ∀ (t : Tree) (q : List Int), atK root q = some t → ∀ x ∈ nodK t q, atK root x.1 = some x.2
  | .node k s ls ks, q, h, x, hx => by
    simp only [nodK, List.mem_cons] at hx
    rcases hx with rfl | hx
    · exact h
    · exact nodKs_at root (.node k s ls ks) q h ks 0 rfl x hx
theorem nodKs_at (root t : Tree) (q : List Int) (h : atK root q = some t) : ∀ (l : List Tree) (i : Nat), t.kids.drop i = l → ∀ x ∈ nodKs l q i, atK root x.1 = some x.2
  | [], _, _, x, hx => by simp [nodKs] at hx
  | u :: r, i, hd, x, hx => by
    simp only [nodKs, List.mem_append] at hx
    have hu : t.kids[i]? = some u := by
      have := congrArg (·[0]?) hd
      simpa using this
    rcases hx with hx | hx
    · exact nodK_at root u (q ++ [(i : Int)]) (by rw [vb, h]; exact zA hu) x hx
    · exact nodKs_at root t q h r (i + 1) (by rw [← List.tail_drop, hd]; rfl) x hx
end
mutual
theorem nodK_bnd : ∀ (t : Tree) (q : List Int), ∀ x ∈ nodK t q, x.1.length + tbulk x.2 ≤ q.length + tbulk t
  | .node k s ls ks, q, x, hx => by
    simp only [nodK, List.mem_cons] at hx
    rcases hx with rfl | hx
    · exact Nat.le_refl _
    · have := nodKs_bnd ks q 0 x hx; simp only [tbulk]; omega
theorem nodKs_bnd : ∀ (l : List Tree) (q : List Int) (i : Nat), ∀ x ∈ nodKs l q i, x.1.length + tbulk x.2 ≤ q.length + kbulk l + 1
  | [], _, _, x, hx => by simp [nodKs] at hx
  | t :: r, q, i, x, hx => by
    simp only [nodKs, List.mem_append] at hx
    rcases hx with hx | hx
    · have := nodK_bnd t (q ++ [(i : Int)]) x hx; simp only [kbulk, List.length_append, List.length_singleton] at *; omega
    · have := nodKs_bnd r q (i + 1) x hx; simp only [kbulk]; omega
end
theorem yA (l : List Int) (hl : l.length ≤ 1000000000) : jy l l := pF 0 _ _ fun b hb => ⟨fun h => (List.length_eq_zero_iff.1 (hb h)).symm, fun _ => ⟨hl, rfl⟩⟩
theorem pN (l : List (List UInt8)) : fB l l true := by
  have loop : ∀ m i, l.length - i ≤ m → dz (m + 1) l l i true := fun m => by
    induction m with
    | zero => intro i hi; exact ic 0 _ _ _ _ ⟨fun h => by omega, fun h => rfl⟩
    | succ m ihm =>
      intro i hi
      refine ic (m + 1) _ _ _ _ ⟨fun h => ?_, fun h => rfl⟩
      obtain ⟨u, hu, _⟩ | h' := aU l i
      · exact ⟨u, hu, u, hu, fun h => absurd rfl h, fun _ => ihm (i + 1) (by omega)⟩
      · exact absurd h h'
  exact mg (l.length + 1) _ _ _ ⟨fun h => absurd rfl h, fun _ => loop l.length 0 (by omega)⟩
end Go.Proofs.YtiknldgpnhikhaaGreat
namespace Go.Proofs.YtiknldgpnhikhaaGreat
open Go.RowKit Lx Sx
set_option maxHeartbeats 1000000
def lp (u : Tree) : Bool := u.kind == 16 || u.kind == 9
def tgK (p : List Tree) (m : Int) (q : List Int) (u : Tree) : GTarget := ⟨⟨m, q⟩, (ba p m u.text).1, (ba p m u.text).2.1, !(ba p m u.text).2.2⟩
def gP (p : List Tree) (m : Int) : List (List Int × Tree) → List GTarget
  | [] => []
  | x :: r => (if lp x.2 then [tgK p m x.1 x.2] else []) ++ gP p m r
theorem sI (p : List Tree) (m : Int) : ∀ a b, gP p m (a ++ b) = gP p m a ++ gP p m b
  | [], b => rfl
  | x :: r, b => by simp only [List.cons_append, gP, sI p m r b, List.append_assoc]
theorem n9 (p : List Tree) (m : Int) : ∀ a, (gP p m a).length ≤ a.length
  | [] => Nat.le_refl _
  | x :: r => by have := n9 p m r; simp only [gP, List.length_append, List.length_cons]; split <;> simp <;> omega
theorem zp {p : List Tree} {M : Int} (h0 : 0 ≤ M) (hM : M < p.length) (hp : kbulk p ≤ 1000000000) : ∀ (t : Tree) (q : List Int) (fd : List GTarget), q.length + tbulk t ≤ 1000000000 → fd.length + tbulk t ≤ 1000000000 → d7 p M q fd t p M q (fd ++ gP p M (nodK t q)) := cr fun t ih q fd hq hf => by
  have hk := di t
  have ht := cf t
  have hb := bC t
  have loop : ∀ k i fd, t.kids.length - i ≤ k → fd.length + kbulk (t.kids.drop i) ≤ 1000000000 → cN (k + 1) t fd p M q i p M q (fd ++ gP p M (nodKs (t.kids.drop i) q i)) := fun k => by
    induction k with
    | zero =>
      intro i fd hi hf
      refine iE 0 _ _ _ _ _ _ _ _ _ _ ⟨fun h => by omega, fun h => ⟨rfl, rfl, rfl, ?_⟩⟩
      rw [List.drop_of_length_le (by omega)]; simp [nodKs, gP]
    | succ k ihk =>
      intro i fd hi hf
      refine iE (k + 1) _ _ _ _ _ _ _ _ _ _ ⟨fun h => ?_, fun h => ⟨rfl, rfl, rfl, ?_⟩⟩
      · obtain ⟨u, hu, _⟩ | h' := aU t.kids i
        · have hd := bQ hu
          rw [hd, kbulk] at hf
          have hbu := bU hu
          have hl := nodK_len u (q ++ [(i : Int)])
          have hl2 := n9 p M (nodK u (q ++ [(i : Int)]))
          refine ⟨u, hu, by simp; omega, _, _, _, _, ih i u hu (q ++ [(i : Int)]) fd (by simp; omega) (by omega), q.length, by simp, by simp, by omega, ?_⟩
          have := ihk (i + 1) (fd ++ gP p M (nodK u (q ++ [(i : Int)]))) (by omega) (by simp; omega)
          rw [hd, nodKs, sI, ← List.append_assoc]
          simpa using this
        · exact absurd h h'
      · rw [List.drop_of_length_le (by omega)]; simp [nodKs, gP]
  have key : ∀ b, b = lp t → dL (t.kids.length + 3) p M q fd t b p M q (fd ++ gP p M (nodK t q)) := fun b hbb => by
    rw [jL, gP]
    refine mm (t.kids.length + 2) _ _ _ _ _ _ _ _ _ _ ⟨fun h => ?_, fun h => ?_⟩
    · rw [if_pos (by rw [← hbb]; exact h)]
      refine ⟨_, _, _, tk h0 hM hp (by omega), _, yA q (by omega), mo (t.kids.length + 1) _ _ _ _ _ _ _ _ _ _ _ _ _ ⟨by simp; omega, ?_⟩⟩
      have := loop t.kids.length 0 (fd ++ [tgK p M q t]) (by omega) (by simp; omega)
      rw [← List.append_assoc]
      exact this
    · rw [if_neg (by rw [← hbb, h]; simp)]
      have := loop (t.kids.length + 1) 0 fd (by omega) (by simp; omega)
      simpa using this
  refine mG (t.kids.length + 3) _ _ _ _ _ _ _ _ _ ⟨fun h => key _ (by simp [lp, h]), fun h => key _ (by simp [lp, h])⟩
def bF : List Tree → Bool
  | [] => true
  | t :: r => t.kind == 1 && shapeK t && bF r
theorem rF (p : List Tree) (hp : kbulk p ≤ 1000000000) : iG p (bF p) := by
  have hl := fE p
  have loop : ∀ m i, p.length - i ≤ m → hJ (m + 1) p i (bF (p.drop i)) := fun m => by
    induction m with
    | zero =>
      intro i hi
      refine mw 0 _ _ _ ⟨fun h => by omega, fun h => ?_⟩
      rw [List.drop_of_length_le (by omega), bF]
    | succ m ihm =>
      intro i hi
      refine mw (m + 1) _ _ _ ⟨fun h => ?_, fun h => ?_⟩
      · obtain ⟨u, hu, _⟩ | h' := aU p i
        · rw [bQ hu, bF]
          have := dJ hu
          refine ⟨u, hu, fun h1 => by simp [h1], fun h1 => ⟨_, mC u (by omega), fun h2 => by simp [h1, h2], fun h2 => ⟨by omega, ?_⟩⟩⟩
          simp only [h1, h2, beq_self_eq_true, Bool.true_and]
          exact ihm (i + 1) (by omega)
        · exact absurd h h'
      · rw [List.drop_of_length_le (by omega), bF]
  exact qY _ _ _ (loop p.length 0 (by omega))
theorem nO (p : List Tree) (hp : kbulk p ≤ 1000000000) : eu p (bF p) := by
  have hl := fE p
  have loop : ∀ m i, p.length - i ≤ m → d6 (m + 1) p i (bF (p.drop i)) := fun m => by
    induction m with
    | zero =>
      intro i hi
      refine iL 0 _ _ _ ⟨fun h => by omega, fun h => ?_⟩
      rw [List.drop_of_length_le (by omega), bF]
    | succ m ihm =>
      intro i hi
      refine iL (m + 1) _ _ _ ⟨fun h => ?_, fun h => ?_⟩
      · obtain ⟨u, hu, _⟩ | h' := aU p i
        · rw [bQ hu, bF]
          have := dJ hu
          refine ⟨u, hu, fun h1 => by simp [h1], fun h1 => ⟨u, hu, _, lC u (by omega), fun h2 => by simp [h1, h2], fun h2 => ?_⟩⟩
          simp only [h1, h2, beq_self_eq_true, Bool.true_and]
          exact ihm (i + 1) (by omega)
        · exact absurd h h'
      · rw [List.drop_of_length_le (by omega), bF]
  exact na _ _ _ (loop p.length 0 (by omega))
def j6 (p : List Tree) : Nat → List Tree → List GTarget
  | _, [] => []
  | i, t :: r => gP p i (nodK t []) ++ j6 p (i + 1) r
theorem rI (p : List Tree) : ∀ (i : Nat) (l : List Tree), (j6 p i l).length ≤ kbulk l
  | _, [] => Nat.le_refl _
  | i, t :: r => by
    have := rI p (i + 1) r
    have := n9 p i (nodK t [])
    have := nodK_len t []
    simp only [j6, kbulk, List.length_append]; omega
def df (p : List Tree) : List GTarget := if bF p then j6 p 0 p else []
theorem xf (p : List Tree) (hp : kbulk p ≤ 100000000) : k9 p (df p) := by
  have hl := fE p
  have loop : ∀ m i z fd, p.length - i ≤ m → fd.length + kbulk (p.drop i) ≤ 1000000000 → ig (m + 1) p p z [] fd i (fd ++ j6 p i (p.drop i)) := fun m => by
    induction m with
    | zero =>
      intro i z fd hi hf
      refine mB 0 _ _ _ _ _ _ _ ⟨fun h => by omega, fun h => ?_⟩
      rw [List.drop_of_length_le (by omega)]; simp [j6]
    | succ m ihm =>
      intro i z fd hi hf
      refine mB (m + 1) _ _ _ _ _ _ _ ⟨fun h => ?_, fun h => ?_⟩
      · obtain ⟨u, hu, _⟩ | h' := aU p i
        · have := dJ hu
          have hd := bQ hu
          rw [hd, kbulk] at hf
          have := n9 p i (nodK u [])
          have := nodK_len u []
          refine ⟨u, hu, _, _, _, _, zp (p := p) (M := (i : Int)) (by omega) (by omega) (by omega) u [] fd (by simp; omega) (by omega), by omega, ?_⟩
          rw [hd, j6, ← List.append_assoc]
          exact ihm (i + 1) _ _ (by omega) (by simp; omega)
        · exact absurd h h'
      · rw [List.drop_of_length_le (by omega)]; simp [j6]
  refine qT (p.length + 1) _ _ ⟨_, rF p (by omega), fun h => by simp [df, h], fun h => ?_⟩
  have := loop p.length 0 0 [] (by omega) (by simp; omega)
  simpa [df, h] using this
end Go.Proofs.YtiknldgpnhikhaaGreat
namespace Go.Proofs.YtiknldgpnhikhaaGreat
open Go.RowKit Lx Sx
set_option maxRecDepth 100000
theorem qG {p : List Tree} {M : Int} {w : List UInt8} (h : (inK p M w).2.2 = true) : ∃ (i d : Nat) (t u : Tree), M = (i : Int) ∧ (inK p M w).1 = (i : Int) ∧ (inK p M w).2.1 = (d : Int) ∧ p[i]? = some t ∧ t.kids[d]? = some u ∧ u.text = w ∧ ∀ j v, j < d → t.kids[j]? = some v → v.text ≠ w := by
  unfold inK at h ⊢
  by_cases hM : M < 0
  · rw [if_pos hM] at h; cases h
  · rw [if_neg hM] at h ⊢
    cases ht : p[M.toNat]? with
    | none => rw [ht] at h; cases h
    | some t =>
      rw [ht] at h
      simp only at h ⊢
      rcases mq w t.kids 0 with e | ⟨k, u, e1, e2, e3, e4⟩
      · simp [e] at h
      · have hn : ¬ bw w t.kids 0 < 0 := by omega
        rw [if_neg hn]
        exact ⟨M.toNat, k, t, u, by omega, by simp only []; omega, by simp only []; omega, ht, e2, e3, e4⟩
theorem ya {p : List Tree} {M : Int} {w : List UInt8} (h : (ba p M w).2.2 = true) : ∃ (i d : Nat) (t u : Tree), (ba p M w).1 = (i : Int) ∧ (ba p M w).2.1 = (d : Int) ∧ p[i]? = some t ∧ t.kids[d]? = some u := by
  unfold ba at h ⊢
  split at h
  · rename_i hd
    rw [if_pos hd]
    obtain ⟨i, d, t, u, _, a1, a2, a3, a4, _⟩ := qG h
    exact ⟨i, d, t, u, a1, a2, a3, a4⟩
  · rename_i hd
    rw [if_neg hd]
    obtain ⟨i, d, t, u, _, a1, a2, a3, a4, _⟩ := qG h
    exact ⟨i, d, t, u, a1, a2, a3, a4⟩
theorem rT {w : List UInt8} {k : Nat} (h : bi w = k) (hk : 0 < k ∧ k < 5) : (bx w).2.1 = w.length ∧ (bx w).1 = k := by
  unfold bi at h
  split at h
  · omega
  · split at h
    · rename_i hc
      have e : tokenT w = bx w := by
        unfold tokenT at h ⊢
        simp only [] at h ⊢
        repeat' split at h
        all_goals simp_all
        all_goals omega
      rw [e] at hc h
      exact ⟨hc.2, h⟩
    · omega
theorem za {w : List UInt8} {k : Nat} (h : bi w = k) (hk : k = 1 ∨ k = 2) : spanN aW w = w.length ∧ (k = 1 ↔ bZ (w.getD 0 0) = true) := by
  obtain ⟨h1, h2⟩ := rT h (by omega)
  unfold bx at h1 h2
  split at h1
  · rename_i hc
    rw [if_pos hc] at h2
    unfold dd at h2
    repeat' split at h2
    all_goals simp only at h2
    all_goals omega
  · rename_i hc
    rw [if_neg hc] at h2
    unfold bv at h1 h2
    split at h2
    · simp only at h2; omega
    · rename_i a1
      rw [if_neg a1] at h1
      split at h2
      · simp only at h2; omega
      · rename_i a2
        rw [if_neg a2] at h1
        split at h2
        · rename_i a3
          rw [if_pos a3] at h1
          simp only at h1 h2
          exact ⟨h1, fun _ => a3, fun _ => h2.symm⟩
        · rename_i a3
          rw [if_neg a3] at h1
          simp only at h1 h2
          exact ⟨h1, fun h => by omega, fun h => absurd h a3⟩
theorem zj {w : List UInt8} {k : Nat} (h : bi w = k) (hk : k = 3 ∨ k = 4) : spanN aW w < w.length ∧ w.getD (spanN aW w) 0 = 46 ∧ (k = 3 ↔ bZ (w.getD (spanN aW w + 1) 0) = true) := by
  obtain ⟨h1, h2⟩ := rT h (by omega)
  unfold bx at h1 h2
  split at h1
  · rename_i hc
    rw [if_pos hc] at h2
    have hc' := hc
    simp only [cu, Bool.and_eq_true, decide_eq_true_eq, beq_iff_eq] at hc'
    refine ⟨by omega, ?_, ?_⟩
    · have := hc'.1.2
      exact UInt8.toNat_inj.1 (by rw [this]; rfl)
    · unfold dd at h2
      repeat' split at h2
      all_goals simp only at h2
      all_goals first
        | omega
        | (rename_i a3; exact ⟨fun _ => a3, fun _ => h2.symm⟩)
        | (rename_i a3; exact ⟨fun h => by omega, fun h => absurd h a3⟩)
  · rename_i hc
    rw [if_neg hc] at h2
    unfold bv at h2
    repeat' split at h2
    all_goals simp only at h2
    all_goals omega
theorem ra (c : UInt8) (r : List UInt8) : spanN aW (c :: r) = if aW c = true then spanN aW r + 1 else 0 := by
  unfold spanN; rw [List.takeWhile_cons]; split <;> simp
theorem sS : ∀ (w : List UInt8) (i : Nat), spanN aW w = w.length → cn w i = -1
  | [], i, h => rfl
  | c :: r, i, h => by
    rw [ra] at h
    split at h
    · rename_i hc
      have : c ≠ 46 := fun e => by subst e; revert hc; decide
      rw [cn, if_neg this]
      exact sS r (i + 1) (by simpa using h)
    · simp at h
theorem xn : ∀ (w : List UInt8) (i : Nat), spanN aW w < w.length → w.getD (spanN aW w) 0 = 46 → cn w i = ((i + spanN aW w : Nat) : Int)
  | [], i, h, _ => by simp at h
  | c :: r, i, h, h2 => by
    rw [ra] at h h2 ⊢
    split at h
    · rename_i hc
      rw [if_pos hc] at h2 ⊢
      have : c ≠ 46 := fun e => by subst e; revert hc; decide
      rw [cn, if_neg this, xn r (i + 1) (by simpa using h) (by simpa using h2)]
      congr 1; omega
    · rename_i hc
      rw [if_neg hc] at h2 ⊢
      have : c = 46 := by simpa using h2
      rw [cn, if_pos this]; rfl
theorem l6 {k n : Int} : ∀ {l : List Tree} {i j : Nat} {u : Tree}, shapeKs k n i l = true → l[j]? = some u → hZ k n ((i + j : Nat) : Int) u.kind = true ∧ shapeK u = true
  | [], i, j, u, _, h => by simp at h
  | t :: r, i, 0, u, h, hj => by
    simp only [shapeKs, Bool.and_eq_true] at h
    simp only [List.getElem?_cons_zero, Option.some.injEq] at hj
    subst hj
    exact ⟨by simpa using h.1.1, h.1.2⟩
  | t :: r, i, j + 1, u, h, hj => by
    simp only [shapeKs, Bool.and_eq_true] at h
    have := l6 (i := i + 1) (j := j) h.2 (by simpa using hj)
    exact ⟨by rw [show i + (j + 1) = i + 1 + j by omega]; exact this.1, this.2⟩
theorem jI : ∀ {p : List Tree} {i : Nat} {t : Tree}, bF p = true → p[i]? = some t → t.kind = 1 ∧ shapeK t = true
  | [], i, t, _, h => by simp at h
  | v :: r, 0, t, h, hi => by
    simp only [bF, Bool.and_eq_true, beq_iff_eq] at h
    simp only [List.getElem?_cons_zero, Option.some.injEq] at hi
    subst hi; exact h.1
  | v :: r, i + 1, t, h, hi => by
    simp only [bF, Bool.and_eq_true] at h
    exact jI h.2 (by simpa using hi)
end Go.Proofs.YtiknldgpnhikhaaGreat
namespace Go.Proofs.YtiknldgpnhikhaaGreat
open Go.RowKit Lx Sx
set_option maxRecDepth 100000
mutual
def leafK : Tree → Tree
  | .node k s ls ks => if k = 8 then leafH (.node k s ls ks) ks else .node k s ls ks
def leafH (d : Tree) : List Tree → Tree
  | [] => d
  | t :: _ => leafK t
end
mutual
def lisK : Tree → Nat
  | .node k s ls ks => if k = 8 then lisH ks + 1 else 0
def lisH : List Tree → Nat
  | [] => 0
  | t :: _ => lisK t
end
def aL : Nat → Tree → Tree
  | 0, t => t
  | n + 1, t => .node 8 [] [] [aL n t]
mutual
def bareK : Tree → Tree
  | .node k s _ ks => .node k s [] (baresK ks)
def baresK : List Tree → List Tree
  | [] => []
  | t :: r => bareK t :: baresK r
end
theorem l8 {t u : Tree} {r : List Tree} (h8 : t.kind = 8) (hk : t.kids = u :: r) : leafK t = leafK u ∧ lisK t = lisK u + 1 := by
  cases t
  simp only [Tree.kind, Tree.kids] at h8 hk
  subst h8 hk
  constructor
  · rw [leafK, if_pos rfl, leafH]
  · rw [lisK, if_pos rfl, lisH]
theorem l7 {t : Tree} (h : t.kind ≠ 8) : leafK t = t ∧ lisK t = 0 := by
  cases t
  simp only [Tree.kind] at h
  constructor
  · rw [leafK, if_neg h]
  · rw [lisK, if_neg h]
theorem p8 (t : Tree) : bareK t = .node t.kind t.text [] (baresK t.kids) := by cases t; simp only [bareK]; rfl
def tyK (t : Tree) : Prop := shapeK t = true ∧ fk t.kind = true
theorem nt {t : Tree} (h : tyK t) : (t.kind = 8 ∧ t.text = [] ∧ ∃ u, t.kids = [u] ∧ tyK u) ∨ (t.kind ≠ 8 ∧ t.kids = [] ∧ (t.kind ≠ 9 → t.text = [])) := by
  obtain ⟨hs, hk⟩ := h
  rw [dI] at hs
  simp only [Bool.and_eq_true, decide_eq_true_eq] at hs
  have hk' : 5 ≤ t.kind ∧ t.kind ≤ 9 := by simpa [fk] using hk
  by_cases h8 : t.kind = 8
  · refine .inl ⟨h8, ?_, ?_⟩
    · have := hs.1.2; rw [h8] at this; simpa [iJ] using this
    · have hl := hs.1.1
      have e : cH t.kind t.kids.length = f0 t.kids.length 1 2 0 1 := by rw [h8]; rfl
      rw [e] at hl
      have hn : t.kids.length = 1 := by
        unfold f0 at hl
        split at hl
        · omega
        · split at hl
          · omega
          · omega
      obtain ⟨u, hu⟩ : ∃ u, t.kids = [u] := by
        match hkk : t.kids, hn with
        | [u], _ => exact ⟨u, rfl⟩
      refine ⟨u, hu, ?_⟩
      have hss := hs.2
      rw [hu] at hss
      simp only [shapeKs, Bool.and_eq_true] at hss
      refine ⟨hss.1.2, ?_⟩
      have := hss.1.1
      rw [h8] at this
      simpa [hZ] using this
  · refine .inr ⟨h8, ?_, fun h9 => ?_⟩
    · have hl := hs.1.1
      have e : cH t.kind t.kids.length = f0 t.kids.length 0 1 0 0 := by
        have : t.kind = 5 ∨ t.kind = 6 ∨ t.kind = 7 ∨ t.kind = 9 := by omega
        rcases this with e | e | e | e <;> rw [e] <;> rfl
      rw [e] at hl
      have : t.kids.length = 0 := by
        unfold f0 at hl
        split at hl
        · omega
        · omega
      exact List.length_eq_zero_iff.1 this
    · have : t.kind = 5 ∨ t.kind = 6 ∨ t.kind = 7 := by omega
      have hw := hs.1.2
      rcases this with e | e | e <;> (rw [e] at hw; simpa [iJ] using hw)
theorem k0 : ∀ t, tyK t → tyK (leafK t) ∧ (leafK t).kind ≠ 8 ∧ bareK t = aL (lisK t) (.node (leafK t).kind (leafK t).text [] []) := cr fun t ih h => by
  rcases nt h with ⟨h8, hx, u, hu, hty⟩ | ⟨h8, hk, _⟩
  · obtain ⟨e1, e2⟩ := l8 h8 hu
    obtain ⟨g1, g2, g3⟩ := ih 0 u (by rw [hu]; rfl) hty
    rw [e1, e2]
    refine ⟨g1, g2, ?_⟩
    rw [p8, h8, hx, hu, aL]
    simp only [baresK, g3]
  · obtain ⟨e1, e2⟩ := l7 h8
    rw [e1, e2]
    refine ⟨h, h8, ?_⟩
    rw [p8, hk, aL, baresK]
theorem ku : ∀ t, tbulk (leafK t) ≤ tbulk t ∧ lisK t ≤ tbulk t := cr fun t ih => by
  by_cases h8 : t.kind = 8
  · cases hk : t.kids with
    | nil =>
      have hp := bt t
      cases t
      simp only [Tree.kind, Tree.kids] at h8 hk
      subst h8 hk
      rw [leafK, if_pos rfl, leafH, lisK, if_pos rfl, lisH]
      exact ⟨Nat.le_refl _, hp⟩
    | cons u r =>
      obtain ⟨e1, e2⟩ := l8 h8 hk
      have h0 : t.kids[0]? = some u := by rw [hk]; rfl
      obtain ⟨g1, g2⟩ := ih 0 u h0
      have := bU h0
      rw [e1, e2]
      omega
  · obtain ⟨e1, e2⟩ := l7 h8
    rw [e1, e2]
    exact ⟨Nat.le_refl _, Nat.zero_le _⟩
theorem pP {t u : Tree} {d : Nat} (ht : t.kind = 1) (hs : shapeK t = true) (hu : t.kids[d]? = some u) : (u.kind = 2 ∧ bi u.text = 1) ∨ (u.kind = 3 ∧ bi u.text = 2) := by
  rw [dI] at hs
  simp only [Bool.and_eq_true] at hs
  obtain ⟨h1, h2⟩ := l6 hs.2 hu
  rw [ht] at h1
  simp [hZ] at h1
  rw [dI] at h2
  simp only [Bool.and_eq_true] at h2
  have h3 := h2.1.2
  rcases h1 with e | e
  · rw [e] at h3
    simp [iJ] at h3
    exact .inl ⟨e, by omega⟩
  · rw [e] at h3
    simp [iJ] at h3
    exact .inr ⟨e, by omega⟩
theorem zq {w : List UInt8} {k : Nat} (h : bi w = k) (hk : k = 3 ∨ k = 4) : cn w 0 = ((spanN aW w : Nat) : Int) := by
  obtain ⟨h1, h2, _⟩ := zj h hk
  have := xn w 0 h1 h2
  simpa using this
theorem oq {p : List Tree} {m : Int} {u : Tree} (hp : bF p = true) (h9 : u.kind = 9) (hu : shapeK u = true) (h : (ba p m u.text).2.2 = true) : ∃ (i d : Nat) (t a b : Tree), (ba p m u.text).1 = (i : Int) ∧ (ba p m u.text).2.1 = (d : Int) ∧ p[i]? = some t ∧ t.kids[d]? = some a ∧ a.kind = 3 ∧ a.kids = [b] ∧ tyK b := by
  have hw : bi u.text = 2 ∨ bi u.text = 4 := by
    rw [dI, h9] at hu
    simp only [Bool.and_eq_true] at hu
    have := hu.1.2
    simp only [iJ] at this
    simp at this
    omega
  have fin : ∀ (i d : Nat) (t a : Tree), p[i]? = some t → t.kids[d]? = some a → ¬ a.kind = 2 → a.kind = 3 ∧ ∃ b, a.kids = [b] ∧ tyK b := fun i d t a ht ha hn => by
    obtain ⟨t1, t2⟩ := jI hp ht
    rcases pP t1 t2 ha with ⟨k2, _⟩ | ⟨k3, _⟩
    · exact absurd k2 hn
    · refine ⟨k3, ?_⟩
      rw [dI] at t2
      simp only [Bool.and_eq_true] at t2
      obtain ⟨_, g2⟩ := l6 t2.2 ha
      rw [dI, k3] at g2
      simp only [Bool.and_eq_true, decide_eq_true_eq] at g2
      have hl := g2.1.1
      have e : cH 3 a.kids.length = f0 a.kids.length 1 3 0 1 := rfl
      rw [e] at hl
      have hn : a.kids.length = 1 := by
        unfold f0 at hl
        split at hl
        · omega
        · split at hl
          · omega
          · omega
      match hkk : a.kids, hn with
      | [b], _ =>
        have hss := g2.2
        rw [hkk] at hss
        simp only [shapeKs, Bool.and_eq_true] at hss
        exact ⟨b, rfl, hss.1.2, by have := hss.1.1; simpa [hZ] using this⟩
  unfold ba at h ⊢
  rcases hw with hw | hw
  · have hd : cn u.text 0 = -1 := sS _ _ (za hw (.inr rfl)).1
    rw [if_neg (by omega)] at h ⊢
    obtain ⟨i, d, t, a, _, a1, a2, a3, a4, a5, _⟩ := qG h
    obtain ⟨t1, t2⟩ := jI hp a3
    obtain ⟨f1, b, f2, f3⟩ := fin i d t a a3 a4 fun k2 => by
      rcases pP t1 t2 a4 with ⟨_, k⟩ | ⟨k, _⟩
      · rw [a5, hw] at k; cases k
      · omega
    exact ⟨i, d, t, a, b, a1, a2, a3, a4, f1, f2, f3⟩
  · have hd := zq hw (.inr rfl)
    rw [if_pos (by omega)] at h ⊢
    obtain ⟨i, d, t, a, _, a1, a2, a3, a4, a5, _⟩ := qG h
    obtain ⟨t1, t2⟩ := jI hp a3
    obtain ⟨f1, b, f2, f3⟩ := fin i d t a a3 a4 fun k2 => by
      rcases pP t1 t2 a4 with ⟨_, k⟩ | ⟨k, _⟩
      · have g := (za k (.inl rfl)).2.1 rfl
        have g3 := (zj hw (.inr rfl)).2.2
        rw [a5, hd, Int.toNat_natCast] at g
        have e : (u.text.drop (spanN aW u.text + 1)).getD 0 0 = u.text.getD (spanN aW u.text + 1) 0 := by
          simp [List.getD_eq_getElem?_getD, List.getElem?_drop]
        rw [e] at g
        have := g3.2 g
        cases this
      · omega
    exact ⟨i, d, t, a, b, a1, a2, a3, a4, f1, f2, f3⟩
end Go.Proofs.YtiknldgpnhikhaaGreat
namespace Go.Proofs.YtiknldgpnhikhaaGreat
open Go.RowKit Lx Sx
set_option maxRecDepth 100000
def lw : Tree := .node 0 [] [] []
def j0 (p : List Tree) (i d : Int) : Tree := match p[i.toNat]? with
  | none => lw
  | some t => match t.kids[d.toNat]? with
    | none => lw
    | some a => match a.kids with
      | [] => lw
      | b :: _ => b
def eZ (p : List Tree) : Nat → List (Int × Int) → Nat → Int → Tree → Tree × Int
  | 0, _, _, _, _ => (lw, 0)
  | f + 1, seen, n, m, u =>
    if u.kind = 9 then
      if (ba p m u.text).2.2 = false then (lw, 7)
      else if ((ba p m u.text).1, (ba p m u.text).2.1) ∈ seen then (lw, 19)
      else eZ p f (((ba p m u.text).1, (ba p m u.text).2.1) :: seen) (n + lisK (j0 p (ba p m u.text).1 (ba p m u.text).2.1)) (ba p m u.text).1 (leafK (j0 p (ba p m u.text).1 (ba p m u.text).2.1))
    else (aL n (.node u.kind [] [] []), 0)
theorem sk {α : Type} [BEq α] [LawfulBEq α] : ∀ (l m : List α), l.Nodup → (∀ x ∈ l, x ∈ m) → l.length ≤ m.length
  | [], m, _, _ => Nat.zero_le _
  | x :: l, m, hn, hs => by
    obtain ⟨h1, h2⟩ := List.nodup_cons.1 hn
    have hx : x ∈ m := hs x (by simp)
    have ih := sk l (m.erase x) h2 fun y hy => by
      have hne : y ≠ x := fun e => h1 (e ▸ hy)
      exact (List.mem_erase_of_ne hne).2 (hs y (by simp [hy]))
    rw [List.length_erase_of_mem hx] at ih
    have := List.length_pos_of_mem hx
    simp only [List.length_cons]; omega
def pi (i : Nat) (l : List Tree) : List (Int × Int) := (List.range l.length).map fun (d : Nat) => ((i : Int), (d : Int))
def l4 : Nat → List Tree → List (Int × Int)
  | _, [] => []
  | i, t :: r => pi i t.kids ++ l4 (i + 1) r
theorem rK : ∀ (i : Nat) (p : List Tree), (l4 i p).length ≤ kbulk p
  | _, [] => Nat.le_refl _
  | i, t :: r => by
    have := rK (i + 1) r
    have := di t
    simp only [l4, List.length_append, pi, List.length_map, List.length_range, kbulk]; omega
theorem rU : ∀ {j : Nat} {p : List Tree} {i d : Nat} {t a : Tree}, p[i]? = some t → t.kids[d]? = some a → (((j + i : Nat) : Int), (d : Int)) ∈ l4 j p
  | j, [], i, d, t, a, h, _ => by simp at h
  | j, u :: r, 0, d, t, a, h, ha => by
    simp only [List.getElem?_cons_zero, Option.some.injEq] at h
    subst h
    have := (List.getElem?_eq_some_iff.1 ha).1
    simp only [l4, List.mem_append, pi, List.mem_map, List.mem_range]
    exact .inl ⟨d, this, rfl⟩
  | j, u :: r, i + 1, d, t, a, h, ha => by
    have := rU (j := j + 1) (p := r) (i := i) (by simpa using h) ha
    simp only [l4, List.mem_append]
    rw [show j + (i + 1) = j + 1 + i by omega]
    exact .inr this
theorem nr {p : List Tree} {i d : Nat} {t a b : Tree} (h1 : p[i]? = some t) (h2 : t.kids[d]? = some a) (h3 : a.kids = [b]) : j0 p i d = b := by
  unfold j0
  rw [Int.toNat_natCast, h1]
  simp only [Int.toNat_natCast, h2, h3]
def kv (p : List Tree) (l : List (Int × Int)) : Prop := l.Nodup ∧ ∀ x ∈ l, x ∈ l4 0 p
theorem mA {p : List Tree} {l : List (Int × Int)} (h : kv p l) : l.length ≤ kbulk p := Nat.le_trans (sk _ _ h.1 h.2) (rK 0 p)
end Go.Proofs.YtiknldgpnhikhaaGreat
namespace Go.Proofs.YtiknldgpnhikhaaGreat
open Go.RowKit Lx Sx
section
variable {P : Program} {T : Tab} {K : Ctx} {Q : Exit → Act → World → Prop} {s : List EI} {n : Nat} {F F1 : Fm} {H : Hp} {all : Array Oper} {L : List Nat} {m fuel : Nat} {listed : Array Bool}
theorem Cb {t e : TypeId} {x : Operand} {id sz j o' : Nat} {els : List V} {v0 v : V} {td : TD} {d : Option Tmp} {ty : TypeId} {ps : String} {af : Array Edge} {g : Option (Nat × Bool)} (i : Nat) (hi : all[i]? = some ⟨d, .load t x, ty, ps, af, g⟩)
    (hc : (!Nat.beq i m && pq .any all m i && !(listed.getD m false) && Region.free .any all listed i && (Region.ready .any all listed).contains i && L.contains id) = true) (hw : bp F all g = some true) (hT : TabOk P T) (ht : T.ty t = some td) (hx : aK F x = some (.el id sz j o')) (ho : H.get id = .row e sz els) (hj : els[j]? = some v0) (hv : kG td v0.cells o' = some v)
    (h1 : F.puto d (some v) _root_.id = F1) (k : Go P K Q (.drw all L m fuel (listed.setIfInBounds i true)) s n F1 H) : Go P K Q (.drw all L m (fuel + 1) listed) s n F H := by
  rw [Fm.puto_eq] at h1; subst h1
  simp only [Bool.and_eq_true, Bool.not_eq_true'] at hc
  obtain ⟨⟨⟨⟨⟨c1, c2⟩, c3⟩, c4⟩, c5⟩, c6⟩ := hc
  have he : iD T H.get F H.nx (.load t x) = some (some v, .nop) := by
    have hb : Nat.beq sz sz = true := Nat.beq_refl sz
    unfold iD
    simp only [hx, ht, ho, hb, jm, hj, hv]
  exact v1 (o := ⟨d, .load t x, ty, ps, af, g⟩) (id := id) hT c1 c2 c3 hi c4 c5 hw (by show lB F (.load t x) = some id; unfold lB; simp only [hx]) c6 he k
end
end Go.Proofs.YtiknldgpnhikhaaGreat
namespace Go.Proofs.YtiknldgpnhikhaaGreat
open Go.RowKit Lx Sx
section
variable {α β : Type} [DecidableEq α]
def mlook (a : α) : List (α × β) → Option β
  | [] => none
  | p :: r => if p.1 = a then some p.2 else mlook a r
def mput (a : α) (b : β) : List (α × β) → List (α × β)
  | [] => [(a, b)]
  | p :: r => if p.1 = a then (a, b) :: r else p :: mput a b r
theorem j7 (a c : α) (b : β) : ∀ l : List (α × β), mlook c (mput a b l) = if c = a then some b else mlook c l
  | [] => by
    simp only [mput, mlook]
    by_cases h : c = a
    · rw [if_pos h, if_pos h.symm]
    · rw [if_neg h, if_neg (fun e => h e.symm)]
  | p :: r => by
    simp only [mput]
    split
    · rename_i hp
      simp only [mlook]
      by_cases h : c = a
      · rw [if_pos h, if_pos h.symm]
      · rw [if_neg h, if_neg (fun e => h e.symm), if_neg (fun e => h (by rw [← e, hp]))]
    · rename_i hp
      simp only [mlook, j7 a c b r]
      by_cases h : p.1 = c
      · rw [if_pos h, if_pos h, if_neg (fun e => hp (by rw [h, e]))]
      · rw [if_neg h, if_neg h]
def ko (a : α) : List (α × β) → List MapEntry → Nat → Option (Nat × Value)
  | p :: r, e :: es, i => if p.1 = a then some (i, e.val) else ko a r es (i + 1)
  | _, _, _ => none
end
structure KeyT (P : Program) (kt : TypeId) (α : Type) [DecidableEq α] (enc : α → V) where
  val : α → Value
  rel : ∀ a S w ρ x, VRel S w ρ (enc a) x ↔ x = val a
  chk : ∀ w em a, (Instr.checkKey em 10000 kt (val a)).run P w = .ok () w
  fnd : ∀ w a (β : Type) (l : List (α × β)) (es : List MapEntry), es.map (·.key) = l.map (fun p => val p.1) → (Instr.findKey kt (val a) es).run P w = .ok (ko a l es 0) w
  stay : ∀ w a, (Instr.keyThatStays (val a) (val a)).run P w = .ok (val a) w
section
variable {P : Program} {α β : Type} [DecidableEq α] {enc : α → V} {kt : TypeId}
theorem oV (val : α → Value) (a : α) : ∀ (l : List (α × β)) (es : List MapEntry) (i : Nat), es.map (·.key) = l.map (fun p => val p.1) →
    (ko a l es i = none ∧ mlook a l = none ∧ ∀ b, mput a b l = l ++ [(a, b)]) ∨ ∃ j e d, ko a l es i = some (i + j, e.val) ∧ es[j]? = some e ∧ e.key = val a ∧ l[j]? = some (a, d) ∧ mlook a l = some d ∧ ∀ b, mput a b l = l.set j (a, b)
  | [], [], i, h => .inl ⟨rfl, rfl, fun b => rfl⟩
  | [], e :: es, i, h => by simp at h
  | p :: r, [], i, h => by simp at h
  | p :: r, e :: es, i, h => by
    simp only [List.map_cons, List.cons.injEq] at h
    by_cases hp : p.1 = a
    · refine .inr ⟨0, e, p.2, by simp only [ko, if_pos hp]; rfl, rfl, by rw [h.1, hp], by rw [← hp]; rfl, by simp only [mlook, if_pos hp], fun b => by simp only [mput, if_pos hp]; rfl⟩
    · rcases oV val a r es (i + 1) h.2 with ⟨h1, h2, h3⟩ | ⟨j, e', d, h1, h2, h3, h4, h5, h6⟩
      · exact .inl ⟨by simp only [ko, if_neg hp, h1], by simp only [mlook, if_neg hp, h2], fun b => by simp only [mput, if_neg hp, h3 b]; rfl⟩
      · exact .inr ⟨j + 1, e', d, by simp only [ko, if_neg hp, h1, show i + 1 + j = i + (j + 1) by omega], by simpa using h2, h3, by simpa using h4, by simp only [mlook, if_neg hp, h5], fun b => by simp only [mput, if_neg hp, h6 b]; rfl⟩
theorem pe {val : α → Value} {w : World} (hs : ∀ a b, (Op.equal kt (val a) (val b)).run P w = .ok (decide (b = a)) w) (a : α) : ∀ (l : List (α × β)) (es : List MapEntry) (i : Nat), es.map (·.key) = l.map (fun p => val p.1) → (Instr.findAsking kt (val a) es i).run P w = .ok (ko a l es i) w
  | [], [], i, h => by simp [Instr.findAsking, ko]
  | [], e :: es, i, h => by simp at h
  | p :: r, [], i, h => by simp at h
  | p :: r, e :: es, i, h => by
    simp only [List.map_cons, List.cons.injEq] at h
    unfold Instr.findAsking
    by_cases hp : p.1 = a
    · simp [h.1, hs, hp, ko]
    · have := pe hs a r es (i + 1) h.2
      simp [h.1, hs, hp, ko, this]
theorem sa {w : World} {f0 f1 : Field} {a b c d : Value} {x y : Bool} (ht : P.underlying kt = some (.struct #[f0, f1])) (hs : P.stoodInHeld kt = false) (n0 : (f0.name != "_") = true) (n1 : (f1.name != "_") = true) (o0 : f0.offset = 0) (o1 : f1.offset = 1) (p0 : P.plainKey f0.type = true) (p1 : P.plainKey f1.type = true)
    (h0 : (Op.equalIn 9999 f0.type a c).run P w = .ok x w) (h1 : (Op.equalIn 9999 f1.type b d).run P w = .ok y w) : (Op.equal kt (.agg #[a, b]) (.agg #[c, d])).run P w = .ok (x && y) w := by
  have hf : P.fieldsOf kt = #[f0, f1] := by simp [Program.fieldsOf, ht]
  show (Op.equalIn (9999 + 1) kt (.agg #[a, b]) (.agg #[c, d])).run P w = _
  rw [run_equalIn_struct w 9999 kt _ _ (by rw [ht, hf]) hs, hf]
  have q0 := run_part_plain w p0 (xs := #[a, b]) (off := f0.offset) (v := a) (by rw [o0]; rfl)
  have q1 := run_part_plain w p0 (xs := #[c, d]) (off := f0.offset) (v := c) (by rw [o0]; rfl)
  have q2 := run_part_plain w p1 (xs := #[a, b]) (off := f1.offset) (v := b) (by rw [o1]; rfl)
  have q3 := run_part_plain w p1 (xs := #[c, d]) (off := f1.offset) (v := d) (by rw [o1]; rfl)
  have m0 : f0.name ≠ "_" := by simpa using n0
  have m1 : f1.name ≠ "_" := by simpa using n1
  cases x <;> cases y <;> simp [Op.eqFields, m0, m1, q0, q1, q2, q3, h0, h1, Result.andThen]
theorem zy {w : World} {f0 f1 : Field} {a b : Value} {em : Bool} (ht : P.underlying kt = some (.struct #[f0, f1])) (n0 : (f0.name != "_") = true) (n1 : (f1.name != "_") = true) (o0 : f0.offset = 0) (o1 : f1.offset = 1) (p0 : P.plainKey f0.type = true) (p1 : P.plainKey f1.type = true)
    (h0 : (Instr.checkKey em 9999 f0.type a).run P w = .ok () w) (h1 : (Instr.checkKey em 9999 f1.type b).run P w = .ok () w) : (Instr.checkKey em 10000 kt (.agg #[a, b])).run P w = .ok () w := by
  show (Instr.checkKey em (9999 + 1) kt (.agg #[a, b])).run P w = _
  have q0 := run_part_plain w p0 (xs := #[a, b]) (off := f0.offset) (v := a) (by rw [o0]; rfl)
  have q2 := run_part_plain w p1 (xs := #[a, b]) (off := f1.offset) (v := b) (by rw [o1]; rfl)
  have m0 : f0.name ≠ "_" := by simpa using n0
  have m1 : f1.name ≠ "_" := by simpa using n1
  unfold Instr.checkKey
  simp only [Sem.run_bind, run_underlying ht, Result.andThen_ok]
  rw [← Array.forIn_toList]
  simp [m0, m1, q0, q2, h0, h1, Result.andThen]
def BL {γ : Type} [DecidableEq γ] {f0 f1 : Field} (g0 g1 : γ → Int) (hg : ∀ x y, g0 x = g0 y → g1 x = g1 y → x = y) (ht : P.underlying kt = some (.struct #[f0, f1])) (hs : P.stoodInHeld kt = false) (n0 : (f0.name != "_") = true) (n1 : (f1.name != "_") = true) (o0 : f0.offset = 0) (o1 : f1.offset = 1) (u0 : P.underlying f0.type = some (.int .i64)) (u1 : P.underlying f1.type = some (.int .i64)) : KeyT P kt γ (fun x => .agg [.int .i64 (g0 x), .int .i64 (g1 x)]) where
  val x := .agg #[.int .i64 (g0 x), .int .i64 (g1 x)]
  rel a S w ρ x := by
    simp only [VRel, LRel]
    constructor
    · rintro ⟨xs, rfl, _, _, rfl, rfl, _, _, rfl, rfl, rfl⟩; rfl
    · rintro rfl; exact ⟨_, rfl, _, _, rfl, rfl, _, _, rfl, rfl, rfl⟩
  chk w em a := zy ht n0 n1 o0 o1 (by simp [Program.plainKey, u0]) (by simp [Program.plainKey, u1])
    (by show (Instr.checkKey em (9998 + 1) f0.type _).run P w = _; unfold Instr.checkKey; simp [run_underlying u0])
    (by show (Instr.checkKey em (9998 + 1) f1.type _).run P w = _; unfold Instr.checkKey; simp [run_underlying u1])
  fnd w a β l es h := by
    rw [run_findKey_eq w (by simp [ht])]
    refine pe (val := fun x => Value.agg #[.int .i64 (g0 x), .int .i64 (g1 x)]) (fun x y => ?_) a l es 0 h
    rw [sa ht hs n0 n1 o0 o1 (by simp [Program.plainKey, u0]) (by simp [Program.plainKey, u1]) (run_equalIn_int w 9998 _ _ _ _ _ u0) (run_equalIn_int w 9998 _ _ _ _ _ u1)]
    congr 1
    by_cases e : y = x
    · subst e; simp
    · have : ¬ (g0 x = g0 y ∧ g1 x = g1 y) := fun h' => e (hg _ _ h'.1 h'.2).symm
      rw [decide_eq_false e]
      simpa using fun h0 h1 => this ⟨h0, h1⟩
  stay w a := by
    have : ∀ z : Int, Instr.sameBits 9999 (.int .i64 z) (.int .i64 z) = true := fun z => by unfold Instr.sameBits; simp
    have h2 : Instr.sameBits 10000 (.agg #[.int .i64 (g0 a), .int .i64 (g1 a)]) (.agg #[.int .i64 (g0 a), .int .i64 (g1 a)]) = true := by
      show Instr.sameBits (9999 + 1) _ _ = true
      unfold Instr.sameBits; simp [this]
    simp [Instr.keyThatStays, h2]
variable {S : Nat → Prop} {w w' : World} {ρ ρ' : Nat → Option Value} {h h' : Nat → Ob} {a : Act} {n : Nat} {ty : TypeId}
theorem ta {t : TypeId} : Runs P a ty (.makeMap t none) w (.value (.map (some w.heap.size))) (w.alloc (.map #[] 0)) := fun _ _ _ _ => by
  simp only [execOp, Option.map_none]
  simp [run_makeMap]
theorem e_mkMap {t kt et : TypeId} {nid : Nat} (hr : HRel S w ρ h) (hf : h nid = .free) : Does P S w ρ h a ty (.makeMap t none) (some (.sl nid)) (ci h nid (.mp kt et [] [])) (fun _ => False) := by
  have hc : Chg [] w (w.alloc (.map #[] 0)) := Chg.alloc w _
  refine ⟨_, _, dx ρ nid (.map (some w.heap.size)), ta, eff_new hr hf hc ⟨w.heap.size, #[], 0, bb _ _ _, heap_alloc_new w _, by simp [LRel], by simp [LRel]⟩ (fun b hb => ?_), _, rfl, ?_⟩
  · simp only [own] at hb
    rw [bb] at hb
    simp only [Option.some.injEq, Value.map.injEq] at hb
    omega
  · simp only [VRel]; exact ⟨bb _ _ _, rfl⟩
def wl (c : Bool) (o : Option β) (encV : β → V) (zv : V) : V := match o with
  | some d => match c with | true => .tup [encV d, .bool true] | false => encV d
  | none => match c with | true => .tup [zv, .bool false] | false => zv
theorem zm {id : Nat} {ks vs : List V} {et : TypeId} (hr : HRel S w ρ h) (ho : h id = .mp kt et ks vs) : ∃ b es clock, ρ id = some (.map (some b)) ∧ w.heap[b]? = some (.map es clock) ∧ LRel S w ρ0 ks (es.toList.map (·.key)) ∧ LRel S w ρ0 vs (es.toList.map (·.val)) := by
  have := hr.ob id
  rw [ho] at this
  exact this
theorem ql (D : KeyT P kt α enc) {f : β → α} : ∀ {l : List β} {xs : List Value}, LRel S w ρ0 (l.map fun p => enc (f p)) xs → xs = l.map fun p => D.val (f p)
  | [], xs, h => by simp only [List.map_nil, LRel] at h; simp [h]
  | p :: r, xs, h => by
    simp only [List.map_cons, LRel] at h
    obtain ⟨x, ys, rfl, h1, h2⟩ := h
    rw [(D.rel _ _ _ _ _).1 h1, ql D h2]; rfl
theorem sU {f : β → V} : ∀ {l : List β} {xs : List Value} {j : Nat} {x : Value} {d : β}, LRel S w ρ0 (l.map f) xs → xs[j]? = some x → l[j]? = some d → VRel S w ρ0 (f d) x
  | [], xs, j, x, d, h, _, hd => by simp at hd
  | p :: r, xs, 0, x, d, h, hx, hd => by
    simp only [List.map_cons, LRel] at h
    obtain ⟨y, ys, rfl, h1, h2⟩ := h
    simp only [List.getElem?_cons_zero, Option.some.injEq] at hx hd
    subst hx hd; exact h1
  | p :: r, xs, j + 1, x, d, h, hx, hd => by
    simp only [List.map_cons, LRel] at h
    obtain ⟨y, ys, rfl, h1, h2⟩ := h
    exact sU h2 (by simpa using hx) (by simpa using hd)
theorem vh (D : KeyT P kt α enc) {encV : β → V} {t et : TypeId} {x y : Operand} {id : Nat} {k : α} {l : List (α × β)} {c : Bool} {zv : V} {z : Value} (hr : HRel S w ρ h) (fr : Fr a n (fA a)) (hx : Opd S w ρ a x (.sl id)) (hy : Opd S w ρ a y (enc k)) (ho : h id = .mp kt et (l.map fun p => enc p.1) (l.map fun p => encV p.2)) (ht : P.underlying t = some (.map kt et)) (hz : (zeroValue et).run P w = .ok z w) (hzv : VRel S w ρ zv z) :
    Does P S w ρ h a ty (.lookup t x y c) (some (wl c (mlook k l) encV zv)) h (fun _ => False) := by
  obtain ⟨u, k1, k2⟩ := hx
  obtain ⟨q, k3, k4⟩ := hy
  simp only [VRel] at k2
  obtain ⟨b, es, ck, h1, h2, h3, h4⟩ := zm hr ho
  rw [k2.1] at h1; cases h1
  rw [D.rel] at k4; subst k4
  have hks := ql D h3
  have hfd := D.fnd w k β l es.toList hks
  have key : ∀ v, (Instr.lookup t (.map (some b)) (D.val k) c).run P w = .ok v w → Runs P a ty (.lookup t x y c) w (.value v) w := fun v hv _ _ _ _ => by
    simp only [execOp, fr.eval k1, fr.eval k3]
    simp [hv]
  rcases oV D.val k l es.toList 0 hks with ⟨g1, g2, _⟩ | ⟨j, e, d, g1, g2, g3, g4, g5, _⟩
  · rw [g1] at hfd
    refine ⟨_, w, ρ, key (if c then .tuple #[z, .bool false] else z) ?_, Eff.refl hr, _, rfl, ?_⟩
    · simp [Instr.lookup, run_underlying ht, MapKept.run_getObj_map h2, D.chk, hfd, hz, Result.andThen]
    · rw [g2]
      cases c with
      | true => simp only [wl, if_true, VRel]; exact ⟨[z, .bool false], rfl, z, _, rfl, hzv, _, _, rfl, rfl, rfl⟩
      | false => exact hzv
  · rw [g1] at hfd
    have hv : VRel S w ρ (encV d) e.val := (sU (f := fun p : α × β => encV p.2) h4 (by rw [List.getElem?_map, g2]; rfl) g4).up up0
    refine ⟨_, w, ρ, key (if c then .tuple #[e.val, .bool true] else e.val) ?_, Eff.refl hr, _, rfl, ?_⟩
    · simp [Instr.lookup, run_underlying ht, MapKept.run_getObj_map h2, D.chk, hfd, Result.andThen]
    · rw [g5]
      cases c with
      | true => simp only [wl, if_true, VRel]; exact ⟨[e.val, .bool true], rfl, e.val, _, rfl, hv, _, _, rfl, rfl, rfl⟩
      | false => exact hv
theorem Av (D : KeyT P kt α enc) {encV : β → V} {t et : TypeId} {x y z : Operand} {id : Nat} {k : α} {d : β} {l : List (α × β)} (hr : HRel S w ρ h) (fr : Fr a n (fA a)) (hx : Opd S w ρ a x (.sl id)) (hy : Opd S w ρ a y (enc k)) (hz : Opd S w ρ a z (encV d)) (hp : (encV d).pure = true) (ho : h id = .mp kt et (l.map fun p => enc p.1) (l.map fun p => encV p.2)) (ht : P.underlying t = some (.map kt et)) :
    Does P S w ρ h a ty (.mapUpdate t x y z) none (ci h id (.mp kt et ((mput k d l).map fun p => enc p.1) ((mput k d l).map fun p => encV p.2))) (· = id) := by
  obtain ⟨u, k1, k2⟩ := hx
  obtain ⟨q, k3, k4⟩ := hy
  obtain ⟨v, k5, k6⟩ := hz
  simp only [VRel] at k2
  obtain ⟨b, es, ck, h1, h2, h3, h4⟩ := zm hr ho
  rw [k2.1] at h1; cases h1
  rw [D.rel] at k4; subst k4
  have hks := ql D h3
  have hfd := D.fnd w k β l es.toList hks
  have hlt : b < w.heap.size := by
    rcases Nat.lt_or_ge b w.heap.size with h5 | h5
    · exact h5
    · rw [Array.getElem?_eq_none h5] at h2; cases h2
  have key : ∀ w', (Instr.mapUpdate t (.map (some b)) (D.val k) v).run P w = .ok () w' → Runs P a ty (.mapUpdate t x y z) w .skip w' := fun w' hv _ _ _ _ => by
    simp only [execOp, fr.eval k1, fr.eval k3, fr.eval k5]
    simp [hv]
  have hX : ∀ c, c ∈ [b] → own ρ id (h id) c := fun c hc => by simp only [List.mem_singleton] at hc; subst hc; rw [ho]; exact k2.1
  have hc : ∀ o, Chg [b] w { w with heap := w.heap.setIfInBounds b o } := fun o => ⟨rfl, rfl, rfl, by simp, fun c hc hcb => by
    simp only [List.mem_singleton] at hcb
    simp only [Array.getElem?_setIfInBounds]
    rw [if_neg (fun e => hcb e.symm)]⟩
  have hob : ∀ o, ({ w with heap := w.heap.setIfInBounds b o } : World).heap[b]? = some o := fun o => by simp [Array.getElem?_setIfInBounds, hlt]
  have up : ∀ o, Up S S w { w with heap := w.heap.setIfInBounds b o } ρ0 ρ0 := fun o => ⟨fun _ h => h, fun c hc' hcl => (hc o).block c hcl (fun hcb => by simp only [List.mem_singleton] at hcb; subst hcb; exact hr.sep id c (hX c (by simp)) hc'), fun _ _ h => h⟩
  have hown : ∀ ks vs c, own ρ id (.mp kt et ks vs) c → own ρ id (h id) c := fun ks vs c hb => by rw [ho]; exact hb
  have hv0 : VRel S w ρ0 (encV d) v := k6.pure hp
  rcases oV D.val k l es.toList 0 hks with ⟨g1, _, g3⟩ | ⟨j, e, d', g1, g2, g3, g4, _, g6⟩
  · rw [g1] at hfd
    refine ⟨_, _, ρ, key { w with heap := w.heap.setIfInBounds b (.map (es.push ⟨D.val k, v, ck⟩) (ck + 1)) } ?_, pu hr (hc _) hX ⟨b, _, _, k2.1, hob _, ?_, ?_⟩ (hown _ _), rfl⟩
    · simp [Instr.mapUpdate, run_underlying ht, MapKept.run_getObj_map h2, D.chk, hfd, MapKept.run_setObj_map _ h2, Result.andThen]
    · rw [g3]
      simp only [List.map_append, List.map_cons, List.map_nil, Array.toList_push]
      exact (LRel.up (up _) h3).append ⟨_, _, rfl, (D.rel _ _ _ _ _).2 rfl, rfl⟩
    · rw [g3]
      simp only [List.map_append, List.map_cons, List.map_nil, Array.toList_push]
      exact (LRel.up (up _) h4).append ⟨_, _, rfl, VRel.up (up _) hv0, rfl⟩
  · rw [g1, Nat.zero_add] at hfd
    have hj : es[j]? = some e := by simpa using g2
    have hlist : (es.modify j (fun e' => { e' with key := D.val k, val := v })).toList = es.toList.set j { e with key := D.val k, val := v } := by rw [Array.toList_modify, ChangeMaps.modify_eq_set _ _ _ _ g2]
    refine ⟨_, _, ρ, key { w with heap := w.heap.setIfInBounds b (.map (es.modify j (fun e' => { e' with key := D.val k, val := v })) ck) } ?_, pu hr (hc _) hX ⟨b, _, _, k2.1, hob _, ?_, ?_⟩ (hown _ _), rfl⟩
    · simp [Instr.mapUpdate, run_underlying ht, MapKept.run_getObj_map h2, D.chk, hfd, hj, g3, D.stay, MapKept.run_setObj_map _ h2, Result.andThen]
    · rw [g6, hlist]
      simp only [List.map_set]
      exact (LRel.up (up _) h3).set ((D.rel _ _ _ _ _).2 rfl)
    · rw [g6, hlist]
      simp only [List.map_set]
      exact (LRel.up (up _) h4).set (VRel.up (up _) hv0)
end
end Go.Proofs.YtiknldgpnhikhaaGreat
namespace Go.Proofs.YtiknldgpnhikhaaGreat
open Go.RowKit Lx Sx
section
variable {P : Program} {T : Tab} {K : Ctx} {Q : Exit → Act → World → Prop} {p : EP} {s : List EI} {n : Nat} {F F1 : Fm} {H H1 : Hp} {α β : Type} [DecidableEq α] {enc : α → V} {kt : TypeId}
theorem dMM {t : TypeId} {ty : TypeId} (kt et : TypeId) : ∀ S w ρ a, HRel S w ρ H.get → FRel S w ρ a n F → Does P S w ρ H.get a ty (.makeMap t none) (some (.sl H.nx)) ((ED.new (.mp kt et [] [])).app H.get H.nx) (ED.new (.mp kt et [] [])).tch := fun S w ρ a hr hF =>
  e_mkMap hr H.get_free
theorem sP (D : KeyT P kt α enc) {encV : β → V} {t et : TypeId} {x y : Operand} {id : Nat} {k : α} {l : List (α × β)} {c : Bool} {zv v : V} {z : Value} {ty : TypeId} (hq : mlook k l = none) (ht : P.underlying t = some (.map kt et)) (hz : ∀ w, (zeroValue et).run P w = .ok z w) (hzv : zEq z zv = true) (hx : aK F x = some (.sl id)) (hy : aK F y = some (enc k)) (ho : H.get id = .mp kt et (l.map fun p => enc p.1) (l.map fun p => encV p.2)) (hv : (match c with | true => V.tup [zv, .bool false] | false => zv) = v) :
    ∀ S w ρ a, HRel S w ρ H.get → FRel S w ρ a n F → Does P S w ρ H.get a ty (.lookup t x y c) (some v) (ED.nop.app H.get H.nx) ED.nop.tch := fun S w ρ a hr hF => by
  have := vh (ty := ty) (c := c) (zv := zv) D hr hF.fr (al hF hx) (al hF hy) ho ht (hz w) (tn hzv)
  rw [hq] at this
  subst hv
  exact this
theorem sD (D : KeyT P kt α enc) {encV : β → V} {t et : TypeId} {x y : Operand} {id : Nat} {k : α} {l : List (α × β)} {c : Bool} {v : V} {z : Value} {ty : TypeId} {d : β} {zv : V} (hq : mlook k l = some d) (ht : P.underlying t = some (.map kt et)) (hz : ∀ w, (zeroValue et).run P w = .ok z w) (hzv : zEq z zv = true) (hx : aK F x = some (.sl id)) (hy : aK F y = some (enc k)) (ho : H.get id = .mp kt et (l.map fun p => enc p.1) (l.map fun p => encV p.2)) (hv : (match c with | true => V.tup [encV d, .bool true] | false => encV d) = v) :
    ∀ S w ρ a, HRel S w ρ H.get → FRel S w ρ a n F → Does P S w ρ H.get a ty (.lookup t x y c) (some v) (ED.nop.app H.get H.nx) ED.nop.tch := fun S w ρ a hr hF => by
  have := vh (ty := ty) (c := c) (zv := zv) D hr hF.fr (al hF hx) (al hF hy) ho ht (hz w) (tn hzv)
  rw [hq] at this
  subst hv
  exact this
theorem ym (D : KeyT P kt α enc) {encV : β → V} {t et : TypeId} {x y z : Operand} {id : Nat} {k : α} {d : β} {l : List (α × β)} {v : V} {ty : TypeId} {ks vs : List V} (ht : P.underlying t = some (.map kt et)) (hx : aK F x = some (.sl id)) (hy : aK F y = some (enc k)) (hz : aK F z = some v) (hv : v = encV d) (hp : v.pure = true) (ho : H.get id = .mp kt et (l.map fun p => enc p.1) (l.map fun p => encV p.2)) (hk : ((mput k d l).map fun p => enc p.1) = ks) (hvs : ((mput k d l).map fun p => encV p.2) = vs) :
    ∀ S w ρ a, HRel S w ρ H.get → FRel S w ρ a n F → Does P S w ρ H.get a ty (.mapUpdate t x y z) none ((ED.set id (.mp kt et ks vs)).app H.get H.nx) (ED.set id (.mp kt et ks vs)).tch := fun S w ρ a hr hF => by
  subst hv hk hvs
  exact Av D hr hF.fr (al hF hx) (al hF hy) (al hF hz) hp ho ht
theorem okM {kt et : TypeId} {ks vs : List V} {id : Nat} {o' : Ob} (ho : H.get id = .mp kt et ks vs) : (ED.set id o').ok H.get := by exact ⟨by rw [ho]; simp, by rw [ho]; simp⟩
theorem gHM {kt et : TypeId} {ks vs : List V} (id : Nat) (ks' vs' : List V) (ho : H.get id = .mp kt et ks vs) (h1 : ks = ks') (h2 : vs = vs') (h3 : H.ap (.set id (.mp kt et ks' vs')) _root_.id = H1) (k : Go P K Q p s n F H1) : Go P K Q p s n F H := by
  subst h1 h2
  rw [Hp.ap_eq] at h3; subst h3
  have hg : (H.app (.set id (.mp kt et ks vs))).get = H.get := by
    rw [Hp.get_app (by exact ⟨by rw [ho]; simp, by rw [ho]; simp⟩)]
    exact tl ho
  intro S w ρ a hr hi hF
  exact k S w ρ a (by rw [id_eq, hg]; exact hr) (by rw [id_eq, hg]; exact hi) hF
theorem A1 {a b c d : Int} (h : (a == b && c == d) = true) : a = b ∧ c = d := by simpa using h
theorem Bg {a b c d : Int} (h : (a == b && c == d) = false) : ¬ (a = b ∧ c = d) := fun ⟨e1, e2⟩ => by subst e1 e2; simp at h
theorem Cp {neg : Bool} {f0 f1 : Field} {t u ty : TypeId} {x y : Operand} {a0 a1 b0 b1 : V} {x0 x1 y0 y1 : Value} {r0 r1 : Bool} (ht : P.underlying t = some (.struct #[f0, f1])) (hs : P.stoodInHeld t = false) (hm : P.eqGuardType P.depth t = false) (n0 : (f0.name != "_") = true) (n1 : (f1.name != "_") = true) (o0 : f0.offset = 0) (o1 : f1.offset = 1) (p0 : P.plainKey f0.type = true) (p1 : P.plainKey f1.type = true)
    (hx : aK F x = some (.agg [a0, a1])) (hy : aK F y = some (.agg [b0, b1])) (q0 : ∀ S w ρ z, VRel S w ρ a0 z → z = x0) (q1 : ∀ S w ρ z, VRel S w ρ a1 z → z = x1) (q2 : ∀ S w ρ z, VRel S w ρ b0 z → z = y0) (q3 : ∀ S w ρ z, VRel S w ρ b1 z → z = y1)
    (h0 : ∀ w, (Op.equalIn 9999 f0.type x0 y0).run P w = .ok r0 w) (h1 : ∀ w, (Op.equalIn 9999 f1.type x1 y1).run P w = .ok r1 w) :
    ∀ S w ρ a, HRel S w ρ H.get → FRel S w ρ a n F → Yld P S w ρ a ty (.binOp (if neg then .neq else .eql) t x y u) (.bool (if neg then !(r0 && r1) else (r0 && r1))) := fun S w ρ a hr hF => by
  obtain ⟨v, k1, k2⟩ := al hF hx
  obtain ⟨v', k3, k4⟩ := al hF hy
  simp only [VRel, LRel] at k2 k4
  obtain ⟨xs, rfl, z0, _, rfl, m0, z1, _, rfl, m1, rfl⟩ := k2
  obtain ⟨ys, rfl, z2, _, rfl, m2, z3, _, rfl, m3, rfl⟩ := k4
  rw [q0 _ _ _ _ m0, q1 _ _ _ _ m1] at k1
  rw [q2 _ _ _ _ m2, q3 _ _ _ _ m3] at k3
  refine ⟨.bool (if neg then !(r0 && r1) else (r0 && r1)), by simp only [VRel], fun w' _ _ _ _ _ => ?_⟩
  have he := fun w => sa (w := w) ht hs n0 n1 o0 o1 p0 p1 (h0 w) (h1 w)
  have he' : ∀ w, (Op.equalIn 10000 t (.agg #[x0, x1]) (.agg #[y0, y1])).run P w = .ok (r0 && r1) w := he
  simp only [execOp, hF.fr.eval k1, hF.fr.eval k3]
  cases neg
  · simp [run_eqGuard_agg _ _ _ _ _ _ _ hm, run_eql_struct, he', Result.andThen]
  · simp [run_eqGuard_agg _ _ _ _ _ _ _ hm, run_neq_struct, he', Result.andThen]
theorem qI {k : IntKind} {z : Int} : ∀ S w ρ x, VRel S w ρ (.int k z) x → x = Value.int k z := fun S w ρ x h => by simpa only [VRel] using h
theorem eI {t : TypeId} {a b : Int} (h : P.underlying t = some (.int .i64)) : ∀ w, (Op.equalIn 9999 t (.int .i64 a) (.int .i64 b)).run P w = .ok (a == b) w := fun w => run_equalIn_int w 9998 t _ _ a b h
theorem vG {w : World} {t e : TypeId} {a b c d : Int} (hu : P.underlying t = some (.array 2 e)) (ue : P.underlying e = some (.int .i64)) (hc : P.cellsOf e = 1) (hi : (P.info? e).isSome = true) : (Op.equalIn 10000 t (.agg #[.int .i64 a, .int .i64 b]) (.agg #[.int .i64 c, .int .i64 d])).run P w = .ok (a == c && b == d) w := by
  obtain ⟨i, hi⟩ := Option.isSome_iff_exists.1 hi
  show (Op.equalIn (9999 + 1) t _ _).run P w = _
  rw [run_equalIn_array w 9999 _ _ hu hi]
  have pk : P.plainKey e = true := by simp [Program.plainKey, ue]
  have q0 := run_part_plain w pk (xs := #[Value.int .i64 a, .int .i64 b]) (off := 0) (v := .int .i64 a) rfl
  have q1 := run_part_plain w pk (xs := #[Value.int .i64 c, .int .i64 d]) (off := 0) (v := .int .i64 c) rfl
  have q2 := run_part_plain w pk (xs := #[Value.int .i64 a, .int .i64 b]) (off := 1) (v := .int .i64 b) rfl
  have q3 := run_part_plain w pk (xs := #[Value.int .i64 c, .int .i64 d]) (off := 1) (v := .int .i64 d) rfl
  have e0 : ∀ x y : Int, (Op.equalIn 9999 e (.int .i64 x) (.int .i64 y)).run P w = .ok (x == y) w := fun x y => run_equalIn_int w 9998 e _ _ x y ue
  have hr : List.range 2 = [0, 1] := rfl
  rw [hr, hc]
  cases h1 : (a == c) <;> cases h2 : (b == d) <;> simp [Op.eqItems, q0, q1, q2, q3, e0, h1, h2, Result.andThen]
theorem B8 {neg : Bool} {t e u ty : TypeId} {x y : Operand} {a b c d : Int} (hu : P.underlying t = some (.array 2 e)) (ue : P.underlying e = some (.int .i64)) (hc : P.cellsOf e = 1) (hi : (P.info? e).isSome = true) (hm : P.eqGuardType P.depth t = false) (hx : aK F x = some (.agg [.int .i64 a, .int .i64 b])) (hy : aK F y = some (.agg [.int .i64 c, .int .i64 d])) :
    ∀ S w ρ a', HRel S w ρ H.get → FRel S w ρ a' n F → Yld P S w ρ a' ty (.binOp (if neg then .neq else .eql) t x y u) (.bool (if neg then !(a == c && b == d) else (a == c && b == d))) := fun S w ρ a' hr hF => by
  obtain ⟨v, k1, k2⟩ := al hF hx
  obtain ⟨v', k3, k4⟩ := al hF hy
  simp only [VRel, LRel] at k2 k4
  obtain ⟨xs, rfl, z0, _, rfl, rfl, z1, _, rfl, rfl, rfl⟩ := k2
  obtain ⟨ys, rfl, z2, _, rfl, rfl, z3, _, rfl, rfl, rfl⟩ := k4
  refine ⟨.bool (if neg then !(a == c && b == d) else (a == c && b == d)), by simp only [VRel], fun w' _ _ _ _ _ => ?_⟩
  have he' : ∀ w, (Op.equalIn 10000 t (.agg #[.int .i64 a, .int .i64 b]) (.agg #[.int .i64 c, .int .i64 d])).run P w = .ok (a == c && b == d) w := fun w => vG hu ue hc hi
  simp only [execOp, hF.fr.eval k1, hF.fr.eval k3]
  cases neg
  · simp [run_eqGuard_agg _ _ _ _ _ _ _ hm, run_eql_struct, he', Result.andThen]
  · simp [run_eqGuard_agg _ _ _ _ _ _ _ hm, run_neq_struct, he', Result.andThen]
section
variable {t e u ty : TypeId} {x : Operand}
end
end
end Go.Proofs.YtiknldgpnhikhaaGreat
namespace Go.Proofs.YtiknldgpnhikhaaGreat
open Go.RowKit Lx Sx
section
variable {P : Program} {T : Tab} {n : Nat} {F : Fm} {H : Hp}
theorem yMn {ty : TypeId} : ∀ S w ρ a, HRel S w ρ H.get → FRel S w ρ a n F → Yld P S w ρ a ty (.assign (.const (.map none))) (.raw (.map none)) := fun S w ρ a hr hF =>
  ⟨.map none, by simp only [VRel]; exact ⟨trivial, rfl⟩, fun w' _ _ _ _ _ => by simp only [execOp, hF.fr.eval (x := .const (.map none)) rfl]; rfl⟩
end
end Go.Proofs.YtiknldgpnhikhaaGreat
namespace Go.Proofs.YtiknldgpnhikhaaGreat
open Go.RowKit Lx Sx
set_option maxRecDepth 100000
set_option maxHeartbeats 4000000
structure GTypesAlias where
  module : Int
  def_ : Int
abbrev GTypesAlias.c (x : GTypesAlias) : List V := [.int .i64 x.module, .int .i64 x.def_]
abbrev GTypesAlias.w (x : GTypesAlias) : V := .agg x.c
def cb : KeyT Tryz.prog 47 (Int × Int) (fun x => V.agg [(V.int .i64 x.1), (V.int .i64 x.2)]) := BL (fun x => x.1) (fun x => x.2) (fun x y h1 h2 => Prod.ext h1 h2) Tryz.underlying47 (by kernel_rfl) (by decide) (by decide) rfl rfl Tryz.underlying3 Tryz.underlying3
def jv (p0 : Tree) (r0 : Tree) (r1 : Int) : Prop := aT Tryz.prog 30 [.agg (aj p0)] (.tup [.agg (aj r0), .int .i64 r1])
def ie (p0 : (List Tree)) (r0 : Bool) : Prop := aT Tryz.prog 24 [.row 4 (kidsV p0)] (.bool r0)
def hI (p0 : (List Tree)) (r0 : (List ((Int × Int) × GTypesAlias))) : Prop := d0 [] Tryz.prog 25 [.row 4 (kidsV p0)] ⟨0, []⟩ (fun u G => u = .sl 0 ∧ G = ⟨1, [(0, .mp 47 47 (List.map (fun p => (fun x => V.agg [(V.int .i64 x.1), (V.int .i64 x.2)]) p.1) r0) (List.map (fun p => GTypesAlias.w p.2) r0))]⟩)
def dp (p0 : (List Tree)) (p1 : Int) (p2 : Tree) (r0 : Tree) (r1 : Int) : Prop := aT Tryz.prog 12 [.row 4 (kidsV p0), .int .i64 p1, .agg (aj p2)] (.tup [.agg (aj r0), .int .i64 r1])
def fe (p0 : (List Tree)) (p1 : Int) (p2 : Int) (r0 : Bool) : Prop := aT Tryz.prog 9 [.row 4 (kidsV p0), .int .i64 p1, .int .i64 p2] (.bool r0)
def js (p0 : (List Tree)) (p1 : Int) (p2 : Tree) (p3 : Int) (p4 : Tree) (r0 : Bool) : Prop := aT Tryz.prog 16 [.row 4 (kidsV p0), .int .i64 p1, .agg (aj p2), .int .i64 p3, .agg (aj p4)] (.bool r0)
def i4 (p0 : Tree) (p1 : Tree) (r0 : Bool) : Prop := aT Tryz.prog 37 [.agg (aj p0), .agg (aj p1)] (.bool r0)
def ld (p0 : (List (List UInt8))) (p1 : (List (List UInt8))) (r0 : Bool) : Prop := aT Tryz.prog 61 [.row 1 (List.map V.str p0), .row 1 (List.map V.str p1)] (.bool r0)
def iF (m : Nat) (t1v1 : Tree) (i1v2 : Nat) (r0 : Tree) (r1 : Int) : Prop := ∀ (K : Ctx) (j1 : Nat), au K [] → m ≤ j1 → Go Tryz.prog K (bodyPost Tryz.prog Tryz.f30 (SP K (fun u _ => u = .tup [.agg (aj r0), .int .i64 r1]))) (.code (cL (cK (cA (cB (cB (ae Tryz.f30))))))) [.loop (cL (cK (cA (cB (cB (ae Tryz.f30)))))) j1, .blk 0, .seq (cB (cB (cB (ae Tryz.f30))))] 16 (mkF 16 0 [(1, .ptr 0 0), (2, .ptr 1 0), (4, .int .i64 ((i1v2 : Nat) : Int))]) ⟨2, [(1, .var 29 [.int .i64 0, .str [], .nils, .nils]), (0, .var 29 (aj t1v1))]⟩
theorem rv (m : Nat) (p0 : Tree) (r0 : Tree) (r1 : Int) (h : iF m p0 0 r0 r1) : jv p0 r0 r1 := by
 refine ⟨rfl, rfl, ?_⟩
 refine ak 16 [] Tryz.func30 rfl rfl rfl (aC rfl) fun K hK => ?_
 refine gR 14 rfl ?_
 refine go_loop m ?_
 exact gJ (h K _ hK (by omega)) [0, 1] [] rfl hK ⟨⟨_, rfl, .rfl⟩, ⟨_, rfl, .rfl⟩, ⟨_, rfl, .rfl⟩, trivial⟩ ⟨⟨_, rfl, ⟨rfl, ah.rfl⟩⟩, ⟨⟨_, rfl, ⟨rfl, ah.rfl⟩⟩, trivial⟩⟩ rfl
theorem mT (m : Nat) (t1v1 : Tree) (i1v2 : Nat) (r0 : Tree) (r1 : Int) (h : ((t1v1.kind = 8) → ∃ (t1_1 : Tree), t1v1.kids[0]? = some t1_1 ∧ i1v2 + 1 ≤ 9223372036854775807 ∧ iF m t1_1 (i1v2 + 1) r0 r1) ∧ ((t1v1.kind ≠ 8) → t1v1 = r0 ∧ ((i1v2 : Nat) : Int) = r1)) : iF (m + 1) t1v1 i1v2 r0 r1 := by
 intro K j1 hK hj1
 obtain ⟨j1, rfl⟩ : ∃ j, j1 = j + 1 := ⟨j1 - 1, by omega⟩
 refine gR 8 rfl ?_
 refine gB 7 rfl rfl rfl (fun hd => ?_) (fun hd => ?_)
 replace hd := (eq_of_beq hd)
 replace h := h.1 hd
 refine gR 8 rfl ?_
 obtain ⟨t1_1, hxt1_1, h⟩ := h
 refine gY (aP (an hxt1_1) aa rfl rfl rfl rfl) rfl rfl ?_
 refine gR 6 rfl ?_
 obtain ⟨hb, h⟩ := h
 refine gR 1 rfl ?_
 refine gV 13 (.int .i64 ((i1v2 + 1 : Nat) : Int)) rfl (ar (by omega) (by omega)) rfl ?_
 refine gR 3 rfl ?_
 refine aq ?_
 exact gJ (h K _ hK (by omega)) [0, 1] [] rfl hK ⟨⟨_, rfl, .rfl⟩, ⟨_, rfl, .rfl⟩, ⟨_, rfl, .rfl⟩, trivial⟩ ⟨⟨_, rfl, ⟨rfl, ah.rfl⟩⟩, ⟨⟨_, rfl, ⟨rfl, ah.rfl⟩⟩, trivial⟩⟩ rfl
 replace hd := (ne_of_beq_false hd)
 replace h := h.2 hd
 refine gR 3 rfl ?_
 refine av ?_
 refine gR 11 rfl ?_
 obtain ⟨rfl, rfl⟩ := h
 refine ab (F' := (mkF 16 0 [(2, .ptr 0 0), (3, .int .i64 ((i1v2 : Nat) : Int))])) (H' := ⟨1, [(0, .var 29 [.int .i64 t1v1.kind, .str t1v1.text, .row 1 (List.map V.str t1v1.leads), .row 4 (kidsV t1v1.kids)])]⟩) [1] [] rfl hK ⟨⟨_, rfl, .rfl⟩, ⟨_, rfl, .rfl⟩, trivial⟩ ⟨⟨_, rfl, ⟨rfl, ah.rfl⟩⟩, trivial⟩ rfl ?_
 exact ac aa (rs := [.cell 2 29, .tmp 3]) rfl rfl rfl
def gz (m : Nat) (p0 : (List Tree)) (i1v1 : Nat) (r0 : Bool) : Prop := ∀ (K : Ctx) (j1 : Nat), au K [] → m ≤ j1 → Go Tryz.prog K (bodyPost Tryz.prog Tryz.f24 (SP K (fun u _ => u = .bool r0))) (.code (cL (cK (cB (cA (cB (ae Tryz.f24))))))) [.loop (cL (cK (cB (cA (cB (ae Tryz.f24)))))) j1, .blk 0, .seq (cB (cB (ae Tryz.f24)))] 20 (mkF 20 0 [(5, .row 4 (kidsV p0)), (6, .int .i64 ((p0.length : Nat) : Int)), (7, .int .i64 ((i1v1 : Nat) : Int))]) ⟨0, []⟩
theorem qj (m : Nat) (p0 : (List Tree)) (r0 : Bool) (h : gz m p0 0 r0) : ie p0 r0 := by
 refine ⟨rfl, rfl, ?_⟩
 refine ak 20 [] Tryz.func24 rfl rfl rfl (aC rfl) fun K hK => ?_
 refine gR 10 rfl ?_
 refine gV 6 (.int .i64 ((p0.length : Nat) : Int)) rfl (be (aH _)) rfl ?_
 refine gLB 5 rfl (aH _) fun hl5 => ?_
 refine gR 4 rfl ?_
 refine go_loop m ?_
 exact gJ (h K _ hK (by omega)) [] [] rfl hK ⟨⟨_, rfl, .rfl⟩, ⟨_, rfl, .rfl⟩, ⟨_, rfl, .rfl⟩, trivial⟩ trivial rfl
theorem lU (m : Nat) (p0 : (List Tree)) (i1v1 : Nat) (r0 : Bool) (h : ((i1v1 < p0.length) → ∃ (t1_1 : Tree), p0[i1v1]? = some t1_1 ∧ ((t1_1.kind ≠ 1) → false = r0) ∧ ((t1_1.kind = 1) → ∃ (b1_2 : Bool), en t1_1 b1_2 ∧ ((b1_2 = false) → false = r0) ∧ ((b1_2 = true) → i1v1 + 1 ≤ 9223372036854775807 ∧ gz m p0 (i1v1 + 1) r0))) ∧ ((¬ i1v1 < p0.length) → true = r0)) : gz (m + 1) p0 i1v1 r0 := by
 intro K j1 hK hj1
 obtain ⟨j1, rfl⟩ : ∃ j, j1 = j + 1 := ⟨j1 - 1, by omega⟩
 refine gR 6 rfl ?_
 refine gB 8 rfl rfl rfl (fun hd => ?_) (fun hd => ?_)
 replace hd := (cO hd)
 replace h := h.1 hd
 refine gR 7 rfl ?_
 obtain ⟨t1_1, hxt1_1, h⟩ := h
 refine gY (aP (an hxt1_1) aa rfl rfl rfl rfl) rfl rfl ?_
 refine gR 11 rfl ?_
 refine gB 14 rfl rfl rfl (fun hd => ?_) (fun hd => ?_)
 refine gT 13 rfl hd rfl ?_
 replace hd := (fb hd)
 replace h := h.1 hd
 refine gR 15 rfl ?_
 refine aF ?_
 refine gR 2 rfl ?_
 subst h
 refine ab (F' := (mkF 20 0 [(2, .bool false)])) (H' := ⟨0, []⟩) [] [] rfl hK ⟨⟨_, rfl, .rfl⟩, trivial⟩ trivial rfl ?_
 exact ac aa (rs := [.tmp 2]) rfl rfl rfl
 refine gF 13 rfl hd rfl ?_
 replace hd := (dC hd)
 replace h := h.2 hd
 refine gR 1 rfl ?_
 obtain ⟨b1_2, hs6, h⟩ := h
 refine gC0 hs6 (by kernel_rfl) rfl rfl .rfl rfl ?_
 refine gR 4 rfl ?_
 refine gB 18 rfl rfl rfl (fun hd => ?_) (fun hd => ?_)
 replace hd := (bP hd)
 replace h := h.1 hd
 refine gR 9 rfl ?_
 refine aF ?_
 refine gR 2 rfl ?_
 subst h
 refine ab (F' := (mkF 20 0 [(2, .bool false)])) (H' := ⟨0, []⟩) [] [] rfl hK ⟨⟨_, rfl, .rfl⟩, trivial⟩ trivial rfl ?_
 exact ac aa (rs := [.tmp 2]) rfl rfl rfl
 replace hd := (bO hd)
 replace h := h.2 hd
 refine gR 5 rfl ?_
 obtain ⟨hb, h⟩ := h
 refine gR 1 rfl ?_
 refine gV 19 (.int .i64 ((i1v1 + 1 : Nat) : Int)) rfl (ar (by omega) (by omega)) rfl ?_
 refine gR 2 rfl ?_
 refine aq ?_
 exact gJ (h K _ hK (by omega)) [] [] rfl hK ⟨⟨_, rfl, .rfl⟩, ⟨_, rfl, .rfl⟩, ⟨_, rfl, .rfl⟩, trivial⟩ trivial rfl
 replace hd := (cP hd)
 replace h := h.2 hd
 refine gR 3 rfl ?_
 refine av ?_
 refine gR 8 rfl ?_
 subst h
 refine ab (F' := (mkF 20 0 [(2, .bool true)])) (H' := ⟨0, []⟩) [] [] rfl hK ⟨⟨_, rfl, .rfl⟩, trivial⟩ trivial rfl ?_
 exact ac aa (rs := [.tmp 2]) rfl rfl rfl
def dY (m : Nat) (p0 : (List Tree)) (r0_1 : (List GTarget)) (l1v1 : (List ((Int × Int) × GTypesAlias))) (i1v2 : Nat) (r0 : (List ((Int × Int) × GTypesAlias))) : Prop := ∀ (K : Ctx) (j1 : Nat), au K [] → m ≤ j1 → Go Tryz.prog K (bodyPost Tryz.prog Tryz.f25 (SP K (fun u G => u = .sl 0 ∧ G = ⟨1, [(0, .mp 47 47 (List.map (fun p => (fun x => V.agg [(V.int .i64 x.1), (V.int .i64 x.2)]) p.1) r0) (List.map (fun p => GTypesAlias.w p.2) r0))]⟩))) (.code (cL (cK (cB (cA (cB (cB (ae Tryz.f25)))))))) [.loop (cL (cK (cB (cA (cB (cB (ae Tryz.f25))))))) j1, .blk 0, .seq (cB (cB (cB (ae Tryz.f25))))] 50 (mkF 50 0 [(0, .row 4 (kidsV p0)), (3, .sl 0), (9, .row 5 (List.map GTarget.w r0_1)), (10, .int .i64 ((r0_1.length : Nat) : Int)), (11, .int .i64 ((i1v2 : Nat) : Int))]) ⟨1, [(0, .mp 47 47 (List.map (fun p => (fun x => V.agg [(V.int .i64 x.1), (V.int .i64 x.2)]) p.1) l1v1) (List.map (fun p => GTypesAlias.w p.2) l1v1))]⟩
theorem p9 (m : Nat) (p0 : (List Tree)) (r0 : (List ((Int × Int) × GTypesAlias))) (h : ∃ (r0_1 : (List GTarget)), k9 p0 r0_1 ∧ dY m p0 r0_1 ([] : (List ((Int × Int) × GTypesAlias))) 0 r0) : hI p0 r0 := by
 refine ak 50 [] Tryz.func25 rfl rfl rfl (aC rfl) fun K hK => ?_
 refine gR 2 rfl ?_
 refine gY (yMn) rfl rfl ?_
 refine gR 4 rfl ?_
 refine gDo (.new (.mp 47 47 [] [])) (dMM 47 47) trivial rfl rfl rfl ?_
 refine gHM 0 (List.map (fun p => (fun x => V.agg [(V.int .i64 x.1), (V.int .i64 x.2)]) p.1) ([] : (List ((Int × Int) × GTypesAlias)))) (List.map (fun p => GTypesAlias.w p.2) ([] : (List ((Int × Int) × GTypesAlias)))) rfl rfl rfl rfl ?_
 refine gR 7 rfl ?_
 obtain ⟨r0_1, hs5, h⟩ := h
 refine gC0 hs5 (by kernel_rfl) rfl rfl .rfl rfl ?_
 refine gR 1 rfl ?_
 refine gV 10 (.int .i64 ((r0_1.length : Nat) : Int)) rfl (be (aV GTarget.w _)) rfl ?_
 refine gLB 9 rfl (aV GTarget.w _) fun hl6 => ?_
 refine gR 4 rfl ?_
 refine go_loop m ?_
 exact gJ (h K _ hK (by omega)) [0] [] rfl hK ⟨⟨_, rfl, .rfl⟩, ⟨_, rfl, .rfl⟩, ⟨_, rfl, .rfl⟩, ⟨_, rfl, .rfl⟩, ⟨_, rfl, .rfl⟩, trivial⟩ ⟨⟨_, rfl, ⟨rfl, rfl, rfl, rfl⟩⟩, trivial⟩ rfl
theorem lW (m : Nat) (p0 : (List Tree)) (r0_1 : (List GTarget)) (l1v1 : (List ((Int × Int) × GTypesAlias))) (i1v2 : Nat) (r0 : (List ((Int × Int) × GTypesAlias))) (h : ((i1v2 < r0_1.length) → ∃ (x1_1 : GTarget), r0_1[i1v2]? = some x1_1 ∧ ∃ (n1_2 : Int), x1_1.Use.Path[0]? = some n1_2 ∧ ((x1_1.Free = false) → ∃ (k1_3 : Nat), x1_1.Use.Module = ((k1_3 : Nat) : Int) ∧ ∃ (t1_4 : Tree), p0[k1_3]? = some t1_4 ∧ ∃ (k1_5 : Nat), n1_2 = ((k1_5 : Nat) : Int) ∧ ∃ (t1_6 : Tree), t1_4.kids[k1_5]? = some t1_6 ∧ ((t1_6.kind = 3) → i1v2 + 1 ≤ 9223372036854775807 ∧ dY m p0 r0_1 (mput (x1_1.Use.Module, n1_2) (GTypesAlias.mk x1_1.Module x1_1.Def) l1v1) (i1v2 + 1) r0) ∧ ((t1_6.kind ≠ 3) → i1v2 + 1 ≤ 9223372036854775807 ∧ dY m p0 r0_1 l1v1 (i1v2 + 1) r0)) ∧ ((x1_1.Free = true) → i1v2 + 1 ≤ 9223372036854775807 ∧ dY m p0 r0_1 l1v1 (i1v2 + 1) r0)) ∧ ((¬ i1v2 < r0_1.length) → l1v1 = r0)) : dY (m + 1) p0 r0_1 l1v1 i1v2 r0 := by
 intro K j1 hK hj1
 obtain ⟨j1, rfl⟩ : ∃ j, j1 = j + 1 := ⟨j1 - 1, by omega⟩
 refine gR 6 rfl ?_
 refine gB 12 rfl rfl rfl (fun hd => ?_) (fun hd => ?_)
 replace hd := (cO hd)
 replace h := h.1 hd
 refine gR 7 rfl ?_
 obtain ⟨x1_1, hxx1_1, h⟩ := h
 refine gY (aP (mapget (f := GTarget.w) hxx1_1) aa rfl rfl rfl rfl) rfl rfl ?_
 refine gR 10 rfl ?_
 obtain ⟨n1_2, hxn1_2, h⟩ := h
 refine gY (aP (mapget (f := (V.int .i64)) hxn1_2) aa rfl rfl rfl rfl) rfl rfl ?_
 refine gR 10 rfl ?_
 refine gB 23 rfl rfl rfl (fun hd => ?_) (fun hd => ?_)
 refine gT 22 rfl hd rfl ?_
 replace hd := (bP hd)
 replace h := h.1 hd
 refine gR 4 rfl ?_
 obtain ⟨k1_3, ek1_3, h⟩ := h
 refine gV 27 (.int .i64 ((k1_3 : Nat) : Int)) rfl (dw ek1_3) rfl ?_
 obtain ⟨t1_4, hxt1_4, h⟩ := h
 refine gY (aP (an hxt1_4) aa rfl rfl rfl rfl) rfl rfl ?_
 refine gR 3 rfl ?_
 obtain ⟨k1_5, ek1_5, h⟩ := h
 refine gV 31 (.int .i64 ((k1_5 : Nat) : Int)) rfl (dw ek1_5) rfl ?_
 obtain ⟨t1_6, hxt1_6, h⟩ := h
 refine gY (aP (an hxt1_6) aa rfl rfl rfl rfl) rfl rfl ?_
 refine gR 6 rfl ?_
 refine gB 36 rfl rfl rfl (fun hd => ?_) (fun hd => ?_)
 replace hd := (eq_of_beq hd)
 replace h := h.1 hd
 refine gR 13 rfl ?_
 refine gDo (.set 0 (.mp 47 47 (List.map (fun p => (fun x => V.agg [(V.int .i64 x.1), (V.int .i64 x.2)]) p.1) (mput (x1_1.Use.Module, n1_2) (GTypesAlias.mk x1_1.Module x1_1.Def) l1v1)) (List.map (fun p => GTypesAlias.w p.2) (mput (x1_1.Use.Module, n1_2) (GTypesAlias.mk x1_1.Module x1_1.Def) l1v1)))) (ym cb (encV := GTypesAlias.w) (k := (x1_1.Use.Module, n1_2)) (d := (GTypesAlias.mk x1_1.Module x1_1.Def)) (l := l1v1) Tryz.underlying48 rfl rfl rfl rfl rfl rfl rfl rfl) (okM rfl) rfl rfl rfl ?_
 refine gR 4 rfl ?_
 obtain ⟨hb, h⟩ := h
 refine gR 1 rfl ?_
 refine gV 48 (.int .i64 ((i1v2 + 1 : Nat) : Int)) rfl (ar (by omega) (by omega)) rfl ?_
 refine gR 2 rfl ?_
 refine aq ?_
 exact gJ (h K _ hK (by omega)) [0] [] rfl hK ⟨⟨_, rfl, .rfl⟩, ⟨_, rfl, .rfl⟩, ⟨_, rfl, .rfl⟩, ⟨_, rfl, .rfl⟩, ⟨_, rfl, .rfl⟩, trivial⟩ ⟨⟨_, rfl, ⟨rfl, rfl, rfl, rfl⟩⟩, trivial⟩ rfl
 replace hd := (ne_of_beq_false hd)
 replace h := h.2 hd
 refine gR 5 rfl ?_
 obtain ⟨hb, h⟩ := h
 refine gR 1 rfl ?_
 refine gV 48 (.int .i64 ((i1v2 + 1 : Nat) : Int)) rfl (ar (by omega) (by omega)) rfl ?_
 refine gR 2 rfl ?_
 refine aq ?_
 exact gJ (h K _ hK (by omega)) [0] [] rfl hK ⟨⟨_, rfl, .rfl⟩, ⟨_, rfl, .rfl⟩, ⟨_, rfl, .rfl⟩, ⟨_, rfl, .rfl⟩, ⟨_, rfl, .rfl⟩, trivial⟩ ⟨⟨_, rfl, ⟨rfl, rfl, rfl, rfl⟩⟩, trivial⟩ rfl
 refine gF 22 rfl hd rfl ?_
 replace hd := (bO hd)
 replace h := h.2 hd
 refine gR 20 rfl ?_
 obtain ⟨hb, h⟩ := h
 refine gR 1 rfl ?_
 refine gV 48 (.int .i64 ((i1v2 + 1 : Nat) : Int)) rfl (ar (by omega) (by omega)) rfl ?_
 refine gR 2 rfl ?_
 refine aq ?_
 exact gJ (h K _ hK (by omega)) [0] [] rfl hK ⟨⟨_, rfl, .rfl⟩, ⟨_, rfl, .rfl⟩, ⟨_, rfl, .rfl⟩, ⟨_, rfl, .rfl⟩, ⟨_, rfl, .rfl⟩, trivial⟩ ⟨⟨_, rfl, ⟨rfl, rfl, rfl, rfl⟩⟩, trivial⟩ rfl
 replace hd := (cP hd)
 replace h := h.2 hd
 refine gR 3 rfl ?_
 refine av ?_
 refine gR 9 rfl ?_
 subst h
 refine ab (F' := (mkF 50 0 [(2, .sl 0)])) (H' := ⟨1, [(0, .mp 47 47 (List.map (fun p => (fun x => V.agg [(V.int .i64 x.1), (V.int .i64 x.2)]) p.1) l1v1) (List.map (fun p => GTypesAlias.w p.2) l1v1))]⟩) [0] [] rfl hK ⟨⟨_, rfl, .rfl⟩, trivial⟩ ⟨⟨_, rfl, ⟨rfl, rfl, rfl, rfl⟩⟩, trivial⟩ rfl ?_
 exact aB [] aa (rs := [.tmp 2]) rfl rfl ⟨rfl, rfl⟩
def cS (m : Nat) (p0 : (List Tree)) (r0_8 : (List ((Int × Int) × GTypesAlias))) (t1v1 : Tree) (z1v2 : Int) (b1v3 : Bool) (z1v4 : Int) (z1v5 : Int) (l1v6 : (List ((Int × Int) × Bool))) (r0 : Tree) (r1 : Int) : Prop := ∀ (K : Ctx) (j1 : Nat), au K [] → m ≤ j1 → Go Tryz.prog K (bodyPost Tryz.prog Tryz.f12 (SP K (fun u _ => u = .tup [.agg (aj r0), .int .i64 r1]))) (.code (cL (cK (cB (cB (cB (cB (cT (cB (cA (cB (cB (cB (cB (ae Tryz.f12))))))))))))))) [.loop (cL (cK (cB (cB (cB (cB (cT (cB (cA (cB (cB (cB (cB (ae Tryz.f12)))))))))))))) j1, .blk 0, .seq (cB (cB (cB (cB (cB (ae Tryz.f12))))))] 118 (mkF 118 0 [(0, .row 4 (kidsV p0)), (6, .ptr 0 0), (8, .ptr 1 0), (9, .int .i64 z1v2), (12, .bool b1v3), (13, .ptr 2 0), (14, .sl 3), (15, .sl 4)]) ⟨5, [(4, .mp 47 4 (List.map (fun p => (fun x => V.agg [(V.int .i64 x.1), (V.int .i64 x.2)]) p.1) l1v6) (List.map (fun p => V.bool p.2) l1v6)), (3, .mp 47 47 (List.map (fun p => (fun x => V.agg [(V.int .i64 x.1), (V.int .i64 x.2)]) p.1) r0_8) (List.map (fun p => GTypesAlias.w p.2) r0_8)), (2, .var 47 [.int .i64 z1v4, .int .i64 z1v5]), (1, .var 29 (aj t1v1)), (0, .var 29 [.int .i64 0, .str [], .nils, .nils])]⟩
def fP (m : Nat) (z2v1 : Int) (l2v2 : (List Tree)) (i2v3 : Nat) (z2v4 : Int) (r0 : Tree) (r1 : Int) : Prop := ∀ (K : Ctx) (j1 : Nat), au K [] → m ≤ j1 → Go Tryz.prog K (bodyPost Tryz.prog Tryz.f12 (SP K (fun u _ => u = .tup [.agg (aj r0), .int .i64 r1]))) (.code (cL (cK (cB (cA (cB (cB (cB (cB (cB (cB (ae Tryz.f12)))))))))))) [.loop (cL (cK (cB (cA (cB (cB (cB (cB (cB (cB (ae Tryz.f12))))))))))) j1, .blk 2, .seq (cB (cB (cB (cB (cB (cB (cB (ae Tryz.f12))))))))] 118 (mkF 118 0 [(6, .ptr 0 0), (17, .ptr 1 0), (110, .int .i64 z2v4), (111, .int .i64 ((i2v3 : Nat) : Int))]) ⟨3, [(2, .row 29 4 (kidsV l2v2)), (1, .var 29 [.int .i64 z2v1, .str [], .nils, .sl 2]), (0, .var 29 [.int .i64 0, .str [], .nils, .nils])]⟩
def hU (m : Nat) (p0 : (List Tree)) (r0_8 : (List ((Int × Int) × GTypesAlias))) (t3v1 : Tree) (z3v2 : Int) (z3v3 : Int) (z3v4 : Int) (l3v5 : (List ((Int × Int) × Bool))) (r0 : Tree) (r1 : Int) : Prop := ∀ (K : Ctx) (j1 : Nat), au K [] → m ≤ j1 → Go Tryz.prog K (bodyPost Tryz.prog Tryz.f12 (SP K (fun u _ => u = .tup [.agg (aj r0), .int .i64 r1]))) (.code (cB (cB (cK (cB (cL (cK (cB (cB (cB (cB (cT (cB (cA (cB (cB (cB (cB (ae Tryz.f12))))))))))))))))))) [.blk 1, .loop (cL (cK (cB (cB (cB (cB (cT (cB (cA (cB (cB (cB (cB (ae Tryz.f12)))))))))))))) j1, .blk 0, .seq (cB (cB (cB (cB (cB (ae Tryz.f12))))))] 118 (mkF 118 0 [(0, .row 4 (kidsV p0)), (6, .ptr 0 0), (8, .ptr 1 0), (9, .int .i64 z3v2), (13, .ptr 2 0), (14, .sl 3), (15, .sl 4)]) ⟨5, [(4, .mp 47 4 (List.map (fun p => (fun x => V.agg [(V.int .i64 x.1), (V.int .i64 x.2)]) p.1) l3v5) (List.map (fun p => V.bool p.2) l3v5)), (3, .mp 47 47 (List.map (fun p => (fun x => V.agg [(V.int .i64 x.1), (V.int .i64 x.2)]) p.1) r0_8) (List.map (fun p => GTypesAlias.w p.2) r0_8)), (2, .var 47 [.int .i64 z3v3, .int .i64 z3v4]), (1, .var 29 (aj t3v1)), (0, .var 29 [.int .i64 0, .str [], .nils, .nils])]⟩
theorem kE (m : Nat) (p0 : (List Tree)) (p1 : Int) (p2 : Tree) (r0 : Tree) (r1 : Int) (h : ∃ (b0_1 : Bool), ie p0 b0_1 ∧ ((b0_1 = false) → (Tree.node 0 [] [] []) = r0 ∧ 5 = r1) ∧ ((b0_1 = true) → ((p1 < 0) → (Tree.node 0 [] [] []) = r0 ∧ 5 = r1) ∧ ((¬ p1 < 0) → ((((p0.length : Nat) : Int) ≤ p1) → (Tree.node 0 [] [] []) = r0 ∧ 5 = r1) ∧ ((¬ ((p0.length : Nat) : Int) ≤ p1) → ((p2.kind < 5) → (Tree.node 0 [] [] []) = r0 ∧ 5 = r1) ∧ ((¬ p2.kind < 5) → ((9 < p2.kind) → (Tree.node 0 [] [] []) = r0 ∧ 5 = r1) ∧ ((¬ 9 < p2.kind) → ∃ (b0_2 : Bool), en p2 b0_2 ∧ ((b0_2 = false) → (Tree.node 0 [] [] []) = r0 ∧ 5 = r1) ∧ ((b0_2 = true) → ∃ (t0_3 : Tree), ∃ (n0_4 : Int), jv p2 t0_3 n0_4 ∧ ((t0_3.kind = 9) → ∃ (n0_5 : Int), ∃ (n0_6 : Int), ∃ (b0_7 : Bool), lP p0 p1 t0_3.text n0_5 n0_6 b0_7 ∧ ∃ (r0_8 : (List ((Int × Int) × GTypesAlias))), hI p0 r0_8 ∧ cS m p0 r0_8 t0_3 n0_4 b0_7 n0_5 n0_6 ([] : (List ((Int × Int) × Bool))) r0 r1) ∧ ((t0_3.kind ≠ 9) → fP m t0_3.kind ([] : List Tree) 0 n0_4 r0 r1)))))))) : dp p0 p1 p2 r0 r1 := by
 refine ⟨rfl, rfl, ?_⟩
 refine ak 118 [] Tryz.func12 rfl rfl rfl (aC rfl) fun K hK => ?_
 refine gR 3 rfl ?_
 refine gFP 0 rfl rfl rfl rfl ?_
 refine gR 8 rfl ?_
 obtain ⟨b0_1, hs37, h⟩ := h
 refine gC0 hs37 (by kernel_rfl) rfl rfl .rfl rfl ?_
 refine gR 2 rfl ?_
 refine gB 21 rfl rfl rfl (fun hd => ?_) (fun hd => ?_)
 refine gT 20 rfl hd rfl ?_
 replace hd := (bP hd)
 replace h := h.1 hd
 refine gR 21 rfl ?_
 obtain ⟨rfl, rfl⟩ := h
 refine ab (F' := (mkF 118 0 [(6, .ptr 0 0), (7, .int .i64 5)])) (H' := ⟨1, [(0, .var 29 [.int .i64 ((Tree.node 0 [] [] []).kind), .str ((Tree.node 0 [] [] []).text), .row 1 (List.map V.str ((Tree.node 0 [] [] []).leads)), .row 4 (kidsV ((Tree.node 0 [] [] []).kids))])]⟩) [1] [] rfl hK ⟨⟨_, rfl, .rfl⟩, ⟨_, rfl, .rfl⟩, trivial⟩ ⟨⟨_, rfl, ⟨rfl, (.cons .rfl (.cons .rfl (.cons (.nil 1) (.cons (.nil 4) .nil))))⟩⟩, trivial⟩ rfl ?_
 exact ac aa (rs := [.cell 6 29, .tmp 7]) rfl rfl rfl
 refine gF 20 rfl hd rfl ?_
 replace hd := (bO hd)
 replace h := h.2 hd
 refine gR 4 rfl ?_
 refine gB 25 rfl rfl rfl (fun hd => ?_) (fun hd => ?_)
 refine gT 24 rfl hd rfl ?_
 replace hd := (of_decide_eq_true hd)
 replace h := h.1 hd
 refine gR 17 rfl ?_
 obtain ⟨rfl, rfl⟩ := h
 refine ab (F' := (mkF 118 0 [(6, .ptr 0 0), (7, .int .i64 5)])) (H' := ⟨1, [(0, .var 29 [.int .i64 ((Tree.node 0 [] [] []).kind), .str ((Tree.node 0 [] [] []).text), .row 1 (List.map V.str ((Tree.node 0 [] [] []).leads)), .row 4 (kidsV ((Tree.node 0 [] [] []).kids))])]⟩) [1] [] rfl hK ⟨⟨_, rfl, .rfl⟩, ⟨_, rfl, .rfl⟩, trivial⟩ ⟨⟨_, rfl, ⟨rfl, (.cons .rfl (.cons .rfl (.cons (.nil 1) (.cons (.nil 4) .nil))))⟩⟩, trivial⟩ rfl ?_
 exact ac aa (rs := [.cell 6 29, .tmp 7]) rfl rfl rfl
 refine gF 24 rfl hd rfl ?_
 replace hd := (of_decide_eq_false hd)
 replace h := h.2 hd
 refine gR 3 rfl ?_
 refine gV 28 (.int .i64 ((p0.length : Nat) : Int)) rfl (be (aH _)) rfl ?_
 refine gLB 27 rfl (aH _) fun hl38 => ?_
 refine gR 4 rfl ?_
 refine gB 30 rfl rfl rfl (fun hd => ?_) (fun hd => ?_)
 replace hd := (of_decide_eq_true hd)
 replace h := h.1 hd
 refine gR 10 rfl ?_
 obtain ⟨rfl, rfl⟩ := h
 refine ab (F' := (mkF 118 0 [(6, .ptr 0 0), (7, .int .i64 5)])) (H' := ⟨1, [(0, .var 29 [.int .i64 ((Tree.node 0 [] [] []).kind), .str ((Tree.node 0 [] [] []).text), .row 1 (List.map V.str ((Tree.node 0 [] [] []).leads)), .row 4 (kidsV ((Tree.node 0 [] [] []).kids))])]⟩) [1] [] rfl hK ⟨⟨_, rfl, .rfl⟩, ⟨_, rfl, .rfl⟩, trivial⟩ ⟨⟨_, rfl, ⟨rfl, (.cons .rfl (.cons .rfl (.cons (.nil 1) (.cons (.nil 4) .nil))))⟩⟩, trivial⟩ rfl ?_
 exact ac aa (rs := [.cell 6 29, .tmp 7]) rfl rfl rfl
 replace hd := (of_decide_eq_false hd)
 replace h := h.2 hd
 refine gR 10 rfl ?_
 refine gB 35 rfl rfl rfl (fun hd => ?_) (fun hd => ?_)
 refine gT 34 rfl hd rfl ?_
 replace hd := (of_decide_eq_true hd)
 replace h := h.1 hd
 refine gR 21 rfl ?_
 obtain ⟨rfl, rfl⟩ := h
 refine ab (F' := (mkF 118 0 [(6, .ptr 0 0), (7, .int .i64 5)])) (H' := ⟨1, [(0, .var 29 [.int .i64 ((Tree.node 0 [] [] []).kind), .str ((Tree.node 0 [] [] []).text), .row 1 (List.map V.str ((Tree.node 0 [] [] []).leads)), .row 4 (kidsV ((Tree.node 0 [] [] []).kids))])]⟩) [1] [] rfl hK ⟨⟨_, rfl, .rfl⟩, ⟨_, rfl, .rfl⟩, trivial⟩ ⟨⟨_, rfl, ⟨rfl, (.cons .rfl (.cons .rfl (.cons (.nil 1) (.cons (.nil 4) .nil))))⟩⟩, trivial⟩ rfl ?_
 exact ac aa (rs := [.cell 6 29, .tmp 7]) rfl rfl rfl
 refine gF 34 rfl hd rfl ?_
 replace hd := (of_decide_eq_false hd)
 replace h := h.2 hd
 refine gR 5 rfl ?_
 refine gB 40 rfl rfl rfl (fun hd => ?_) (fun hd => ?_)
 refine gT 39 rfl hd rfl ?_
 replace hd := (of_decide_eq_true hd)
 replace h := h.1 hd
 refine gR 16 rfl ?_
 obtain ⟨rfl, rfl⟩ := h
 refine ab (F' := (mkF 118 0 [(6, .ptr 0 0), (7, .int .i64 5)])) (H' := ⟨1, [(0, .var 29 [.int .i64 ((Tree.node 0 [] [] []).kind), .str ((Tree.node 0 [] [] []).text), .row 1 (List.map V.str ((Tree.node 0 [] [] []).leads)), .row 4 (kidsV ((Tree.node 0 [] [] []).kids))])]⟩) [1] [] rfl hK ⟨⟨_, rfl, .rfl⟩, ⟨_, rfl, .rfl⟩, trivial⟩ ⟨⟨_, rfl, ⟨rfl, (.cons .rfl (.cons .rfl (.cons (.nil 1) (.cons (.nil 4) .nil))))⟩⟩, trivial⟩ rfl ?_
 exact ac aa (rs := [.cell 6 29, .tmp 7]) rfl rfl rfl
 refine gF 39 rfl hd rfl ?_
 replace hd := (of_decide_eq_false hd)
 replace h := h.2 hd
 refine gR 1 rfl ?_
 obtain ⟨b0_2, hs39, h⟩ := h
 refine gC0 hs39 (by kernel_rfl) rfl rfl .rfl rfl ?_
 refine gR 4 rfl ?_
 refine gB 44 rfl rfl rfl (fun hd => ?_) (fun hd => ?_)
 replace hd := (bP hd)
 replace h := h.1 hd
 refine gR 10 rfl ?_
 obtain ⟨rfl, rfl⟩ := h
 refine ab (F' := (mkF 118 0 [(6, .ptr 0 0), (7, .int .i64 5)])) (H' := ⟨1, [(0, .var 29 [.int .i64 ((Tree.node 0 [] [] []).kind), .str ((Tree.node 0 [] [] []).text), .row 1 (List.map V.str ((Tree.node 0 [] [] []).leads)), .row 4 (kidsV ((Tree.node 0 [] [] []).kids))])]⟩) [1] [] rfl hK ⟨⟨_, rfl, .rfl⟩, ⟨_, rfl, .rfl⟩, trivial⟩ ⟨⟨_, rfl, ⟨rfl, (.cons .rfl (.cons .rfl (.cons (.nil 1) (.cons (.nil 4) .nil))))⟩⟩, trivial⟩ rfl ?_
 exact ac aa (rs := [.cell 6 29, .tmp 7]) rfl rfl rfl
 replace hd := (bO hd)
 replace h := h.2 hd
 refine gR 6 rfl ?_
 obtain ⟨t0_3, n0_4, hs40, h⟩ := h
 refine gC0 hs40 (by kernel_rfl) rfl rfl .rfl rfl ?_
 refine gR 16 rfl ?_
 refine gB 53 rfl rfl rfl (fun hd => ?_) (fun hd => ?_)
 replace hd := (eq_of_beq hd)
 replace h := h.1 hd
 refine gR 7 rfl ?_
 obtain ⟨n0_5, n0_6, b0_7, hs41, h⟩ := h
 refine gC0 hs41 (by kernel_rfl) rfl rfl .rfl rfl ?_
 refine gR 9 rfl ?_
 refine ab (F' := (mkF 118 0 [(0, .row 4 (kidsV p0)), (6, .ptr 0 0), (8, .ptr 1 0), (9, .int .i64 n0_4), (10, .int .i64 n0_5), (11, .int .i64 n0_6), (12, .bool b0_7)])) (H' := ⟨2, [(1, .var 29 (aj t0_3)), (0, .var 29 [.int .i64 0, .str [], .nils, .nils])]⟩) [1, 2] [] rfl hK ⟨⟨_, rfl, .rfl⟩, ⟨_, rfl, .rfl⟩, ⟨_, rfl, .rfl⟩, ⟨_, rfl, .rfl⟩, ⟨_, rfl, .rfl⟩, ⟨_, rfl, .rfl⟩, ⟨_, rfl, .rfl⟩, trivial⟩ ⟨⟨_, rfl, ⟨rfl, ah.rfl⟩⟩, ⟨⟨_, rfl, ⟨rfl, ah.rfl⟩⟩, trivial⟩⟩ rfl ?_
 refine gR 12 rfl ?_
 obtain ⟨r0_8, hs42, h⟩ := h
 refine gC hs42 [] (by kernel_rfl) rfl rfl .rfl trivial rfl ?_
 rintro _ _ ⟨rfl, rfl⟩
 refine gR 5 rfl ?_
 refine gDo (.new (.mp 47 4 [] [])) (dMM 47 4) trivial rfl rfl rfl ?_
 refine gHM 4 (List.map (fun p => (fun x => V.agg [(V.int .i64 x.1), (V.int .i64 x.2)]) p.1) ([] : (List ((Int × Int) × Bool)))) (List.map (fun p => V.bool p.2) ([] : (List ((Int × Int) × Bool)))) rfl rfl rfl rfl ?_
 refine gR 4 rfl ?_
 refine go_loop m ?_
 exact gJ (h K _ hK (by omega)) [0, 1, 2, 3, 4] [] rfl hK ⟨⟨_, rfl, .rfl⟩, ⟨_, rfl, .rfl⟩, ⟨_, rfl, .rfl⟩, ⟨_, rfl, .rfl⟩, ⟨_, rfl, .rfl⟩, ⟨_, rfl, .rfl⟩, ⟨_, rfl, .rfl⟩, ⟨_, rfl, .rfl⟩, trivial⟩ ⟨⟨_, rfl, ⟨rfl, rfl, rfl, rfl⟩⟩, ⟨⟨_, rfl, ⟨rfl, rfl, rfl, rfl⟩⟩, ⟨⟨_, rfl, ⟨rfl, ah.rfl⟩⟩, ⟨⟨_, rfl, ⟨rfl, ah.rfl⟩⟩, ⟨⟨_, rfl, ⟨rfl, ah.rfl⟩⟩, trivial⟩⟩⟩⟩⟩ rfl
 replace hd := (ne_of_beq_false hd)
 replace h := h.2 hd
 refine gR 12 rfl ?_
 refine ab (F' := (mkF 118 0 [(6, .ptr 0 0), (9, .int .i64 n0_4), (17, .ptr 1 0)])) (H' := ⟨2, [(1, .var 29 [.int .i64 t0_3.kind, .str [], .nils, .nils]), (0, .var 29 [.int .i64 0, .str [], .nils, .nils])]⟩) [1, 3] [] rfl hK ⟨⟨_, rfl, .rfl⟩, ⟨_, rfl, .rfl⟩, ⟨_, rfl, .rfl⟩, trivial⟩ ⟨⟨_, rfl, ⟨rfl, ah.rfl⟩⟩, ⟨⟨_, rfl, ⟨rfl, ah.rfl⟩⟩, trivial⟩⟩ rfl ?_
 refine gR 8 rfl ?_
 refine go_loop m ?_
 refine gNC 1 3 29 4 rfl rfl rfl rfl ?_
 exact gJ (h K _ hK (by omega)) [0, 1, 2] [] rfl hK ⟨⟨_, rfl, .rfl⟩, ⟨_, rfl, .rfl⟩, ⟨_, rfl, .rfl⟩, ⟨_, rfl, .rfl⟩, trivial⟩ ⟨⟨_, rfl, ⟨rfl, rfl, rfl⟩⟩, ⟨⟨_, rfl, ⟨rfl, ah.rfl⟩⟩, ⟨⟨_, rfl, ⟨rfl, ah.rfl⟩⟩, trivial⟩⟩⟩ rfl
theorem gr (m : Nat) (p0 : (List Tree)) (r0_8 : (List ((Int × Int) × GTypesAlias))) (t1v1 : Tree) (z1v2 : Int) (b1v3 : Bool) (z1v4 : Int) (z1v5 : Int) (l1v6 : (List ((Int × Int) × Bool))) (r0 : Tree) (r1 : Int) (h : ((t1v1.kind = 9) → ((b1v3 = false) → (Tree.node 0 [] [] []) = r0 ∧ 7 = r1) ∧ ((b1v3 = true) → ((mlook (z1v4, z1v5) l1v6 = none) → hU m p0 r0_8 t1v1 z1v2 z1v4 z1v5 l1v6 r0 r1) ∧ (∀ (d1_1 : Bool), mlook (z1v4, z1v5) l1v6 = some d1_1 → ((d1_1 = true) → (Tree.node 0 [] [] []) = r0 ∧ 19 = r1) ∧ ((d1_1 = false) → hU m p0 r0_8 t1v1 z1v2 z1v4 z1v5 l1v6 r0 r1)))) ∧ ((t1v1.kind ≠ 9) → fP m t1v1.kind ([] : List Tree) 0 z1v2 r0 r1)) : cS (m + 1) p0 r0_8 t1v1 z1v2 b1v3 z1v4 z1v5 l1v6 r0 r1 := by
 intro K j1 hK hj1
 obtain ⟨j1, rfl⟩ : ∃ j, j1 = j + 1 := ⟨j1 - 1, by omega⟩
 refine gR 8 rfl ?_
 refine gB 71 rfl rfl rfl (fun hd => ?_) (fun hd => ?_)
 replace hd := (eq_of_beq hd)
 replace h := h.1 hd
 refine gR 11 rfl ?_
 refine gB 73 rfl rfl rfl (fun hd => ?_) (fun hd => ?_)
 replace hd := (bP hd)
 replace h := h.1 hd
 refine gR 11 rfl ?_
 refine aF ?_
 refine gR 2 rfl ?_
 obtain ⟨rfl, rfl⟩ := h
 refine ab (F' := (mkF 118 0 [(6, .ptr 0 0), (7, .int .i64 7)])) (H' := ⟨1, [(0, .var 29 [.int .i64 ((Tree.node 0 [] [] []).kind), .str ((Tree.node 0 [] [] []).text), .row 1 (List.map V.str ((Tree.node 0 [] [] []).leads)), .row 4 (kidsV ((Tree.node 0 [] [] []).kids))])]⟩) [0] [] rfl hK ⟨⟨_, rfl, .rfl⟩, ⟨_, rfl, .rfl⟩, trivial⟩ ⟨⟨_, rfl, ⟨rfl, (.cons .rfl (.cons .rfl (.cons (.nil 1) (.cons (.nil 4) .nil))))⟩⟩, trivial⟩ rfl ?_
 exact ac aa (rs := [.cell 6 29, .tmp 7]) rfl rfl rfl
 replace hd := (bO hd)
 replace h := h.2 hd
 refine gR 8 rfl ?_
 rcases hq43 : mlook (z1v4, z1v5) l1v6 with _ | d1_1
 replace h := h.1 hq43
 refine gDo (v := some (.bool false)) (.nop) (sP cb (encV := V.bool) (k := (z1v4, z1v5)) (l := l1v6) (zv := .bool false) hq43 Tryz.underlying50 Tryz.zeroValue4 (by kernel_rfl) rfl rfl rfl rfl) trivial rfl rfl rfl ?_
 refine gR 5 rfl ?_
 exact gJ (h K _ hK (by omega)) [0, 1, 2, 3, 4] [] rfl hK ⟨⟨_, rfl, .rfl⟩, ⟨_, rfl, .rfl⟩, ⟨_, rfl, .rfl⟩, ⟨_, rfl, .rfl⟩, ⟨_, rfl, .rfl⟩, ⟨_, rfl, .rfl⟩, ⟨_, rfl, .rfl⟩, trivial⟩ ⟨⟨_, rfl, ⟨rfl, rfl, rfl, rfl⟩⟩, ⟨⟨_, rfl, ⟨rfl, rfl, rfl, rfl⟩⟩, ⟨⟨_, rfl, ⟨rfl, ah.rfl⟩⟩, ⟨⟨_, rfl, ⟨rfl, ah.rfl⟩⟩, ⟨⟨_, rfl, ⟨rfl, ah.rfl⟩⟩, trivial⟩⟩⟩⟩⟩ rfl
 replace h := h.2 d1_1 hq43
 refine gDo (v := some (.bool d1_1)) (.nop) (sD cb (encV := V.bool) (k := (z1v4, z1v5)) (l := l1v6) (zv := .bool false) hq43 Tryz.underlying50 Tryz.zeroValue4 (by kernel_rfl) rfl rfl rfl rfl) trivial rfl rfl rfl ?_
 refine gR 2 rfl ?_
 refine gB 77 rfl rfl rfl (fun hd => ?_) (fun hd => ?_)
 replace h := h.1 hd
 refine gR 11 rfl ?_
 refine aF ?_
 refine gR 2 rfl ?_
 obtain ⟨rfl, rfl⟩ := h
 refine ab (F' := (mkF 118 0 [(6, .ptr 0 0), (7, .int .i64 19)])) (H' := ⟨1, [(0, .var 29 [.int .i64 ((Tree.node 0 [] [] []).kind), .str ((Tree.node 0 [] [] []).text), .row 1 (List.map V.str ((Tree.node 0 [] [] []).leads)), .row 4 (kidsV ((Tree.node 0 [] [] []).kids))])]⟩) [0] [] rfl hK ⟨⟨_, rfl, .rfl⟩, ⟨_, rfl, .rfl⟩, trivial⟩ ⟨⟨_, rfl, ⟨rfl, (.cons .rfl (.cons .rfl (.cons (.nil 1) (.cons (.nil 4) .nil))))⟩⟩, trivial⟩ rfl ?_
 exact ac aa (rs := [.cell 6 29, .tmp 7]) rfl rfl rfl
 replace h := h.2 hd
 refine gR 3 rfl ?_
 exact gJ (h K _ hK (by omega)) [0, 1, 2, 3, 4] [] rfl hK ⟨⟨_, rfl, .rfl⟩, ⟨_, rfl, .rfl⟩, ⟨_, rfl, .rfl⟩, ⟨_, rfl, .rfl⟩, ⟨_, rfl, .rfl⟩, ⟨_, rfl, .rfl⟩, ⟨_, rfl, .rfl⟩, trivial⟩ ⟨⟨_, rfl, ⟨rfl, rfl, rfl, rfl⟩⟩, ⟨⟨_, rfl, ⟨rfl, rfl, rfl, rfl⟩⟩, ⟨⟨_, rfl, ⟨rfl, ah.rfl⟩⟩, ⟨⟨_, rfl, ⟨rfl, ah.rfl⟩⟩, ⟨⟨_, rfl, ⟨rfl, ah.rfl⟩⟩, trivial⟩⟩⟩⟩⟩ rfl
 replace hd := (ne_of_beq_false hd)
 replace h := h.2 hd
 refine gR 3 rfl ?_
 refine av ?_
 refine gR 19 rfl ?_
 refine go_loop m ?_
 refine gNC 5 3 29 4 rfl rfl rfl rfl ?_
 exact gJ (h K _ hK (by omega)) [0, 5, 6] [] rfl hK ⟨⟨_, rfl, .rfl⟩, ⟨_, rfl, .rfl⟩, ⟨_, rfl, .rfl⟩, ⟨_, rfl, .rfl⟩, trivial⟩ ⟨⟨_, rfl, ⟨rfl, rfl, rfl⟩⟩, ⟨⟨_, rfl, ⟨rfl, ah.rfl⟩⟩, ⟨⟨_, rfl, ⟨rfl, ah.rfl⟩⟩, trivial⟩⟩⟩ rfl
theorem mv (m : Nat) (z2v1 : Int) (l2v2 : (List Tree)) (i2v3 : Nat) (z2v4 : Int) (r0 : Tree) (r1 : Int) (h : ((((i2v3 : Nat) : Int) < z2v4) → i2v3 + 1 ≤ 9223372036854775807 ∧ fP m 8 [(Tree.node z2v1 [] [] l2v2)] (i2v3 + 1) z2v4 r0 r1) ∧ ((¬ ((i2v3 : Nat) : Int) < z2v4) → (Tree.node z2v1 [] [] l2v2) = r0 ∧ 0 = r1)) : fP (m + 1) z2v1 l2v2 i2v3 z2v4 r0 r1 := by
 intro K j1 hK hj1
 obtain ⟨j1, rfl⟩ : ∃ j, j1 = j + 1 := ⟨j1 - 1, by omega⟩
 refine gR 6 rfl ?_
 refine gB 112 rfl rfl rfl (fun hd => ?_) (fun hd => ?_)
 replace hd := (of_decide_eq_true hd)
 replace h := h.1 hd
 refine gR 7 rfl ?_
 refine gFR 2 rfl (cj _) rfl rfl ?_
 refine gS 113 (.agg [.int .i64 z2v1, .str [], .row 1 [], .row 4 (kidsV l2v2)]) rfl (.agg (.cons .rfl (.cons .rfl (.cons (.nil 1) (.cons .rfl .nil))))) rfl ?_
 refine gR 1 rfl ?_
 refine gHR 3 (kidsV [(Tree.node z2v1 [] [] l2v2)]) rfl (iU (Tree.node z2v1 [] [] l2v2)) rfl ?_
 refine gR 6 rfl ?_
 obtain ⟨hb, h⟩ := h
 refine gR 1 rfl ?_
 refine gV 116 (.int .i64 ((i2v3 + 1 : Nat) : Int)) rfl (ar (by omega) (by omega)) rfl ?_
 refine gR 2 rfl ?_
 refine aq ?_
 exact gJ (h K _ hK (by omega)) [0, 1, 3] [] rfl hK ⟨⟨_, rfl, .rfl⟩, ⟨_, rfl, .rfl⟩, ⟨_, rfl, .rfl⟩, ⟨_, rfl, .rfl⟩, trivial⟩ ⟨⟨_, rfl, ⟨rfl, rfl, (ey _ [(Tree.node z2v1 [] [] l2v2)]).symm⟩⟩, ⟨⟨_, rfl, ⟨rfl, ah.rfl⟩⟩, ⟨⟨_, rfl, ⟨rfl, ah.rfl⟩⟩, trivial⟩⟩⟩ rfl
 replace hd := (of_decide_eq_false hd)
 replace h := h.2 hd
 refine gR 3 rfl ?_
 refine av ?_
 refine gR 10 rfl ?_
 refine gFR 2 rfl (cj _) rfl rfl ?_
 obtain ⟨rfl, rfl⟩ := h
 refine ab (F' := (mkF 118 0 [(6, .ptr 0 0), (7, .int .i64 0)])) (H' := ⟨1, [(0, .var 29 [.int .i64 ((Tree.node z2v1 [] [] l2v2).kind), .str ((Tree.node z2v1 [] [] l2v2).text), .row 1 (List.map V.str ((Tree.node z2v1 [] [] l2v2).leads)), .row 4 (kidsV ((Tree.node z2v1 [] [] l2v2).kids))])]⟩) [0] [] rfl hK ⟨⟨_, rfl, .rfl⟩, ⟨_, rfl, .rfl⟩, trivial⟩ ⟨⟨_, rfl, ⟨rfl, (.cons .rfl (.cons .rfl (.cons (.nil 1) (.cons .rfl .nil))))⟩⟩, trivial⟩ rfl ?_
 exact ac aa (rs := [.cell 6 29, .tmp 7]) rfl rfl rfl
theorem rL2_types_Expand (m : Nat) (p0 : (List Tree)) (r0_8 : (List ((Int × Int) × GTypesAlias))) (t3v1 : Tree) (z3v2 : Int) (z3v3 : Int) (z3v4 : Int) (l3v5 : (List ((Int × Int) × Bool))) (r0 : Tree) (r1 : Int) (h : ∃ (k3_1 : Nat), z3v3 = ((k3_1 : Nat) : Int) ∧ ∃ (t3_2 : Tree), p0[k3_1]? = some t3_2 ∧ ∃ (k3_3 : Nat), z3v4 = ((k3_3 : Nat) : Int) ∧ ∃ (t3_4 : Tree), t3_2.kids[k3_3]? = some t3_4 ∧ ∃ (t3_5 : Tree), t3_4.kids[0]? = some t3_5 ∧ ∃ (t3_6 : Tree), ∃ (n3_7 : Int), jv t3_5 t3_6 n3_7 ∧ InI (z3v2 + n3_7) ∧ ((mlook (z3v3, z3v4) r0_8 = none) → cS m p0 r0_8 t3_6 (z3v2 + n3_7) false 0 0 (mput (z3v3, z3v4) true l3v5) r0 r1) ∧ (∀ (d3_8 : GTypesAlias), mlook (z3v3, z3v4) r0_8 = some d3_8 → cS m p0 r0_8 t3_6 (z3v2 + n3_7) true d3_8.module d3_8.def_ (mput (z3v3, z3v4) true l3v5) r0 r1)) : hU (m + 1) p0 r0_8 t3v1 z3v2 z3v3 z3v4 l3v5 r0 r1 := by
 intro K j1 hK hj1
 obtain ⟨j1, rfl⟩ : ∃ j, j1 = j + 1 := ⟨j1 - 1, by omega⟩
 refine gR 4 rfl ?_
 refine gDo (.set 4 (.mp 47 4 (List.map (fun p => (fun x => V.agg [(V.int .i64 x.1), (V.int .i64 x.2)]) p.1) (mput (z3v3, z3v4) true l3v5)) (List.map (fun p => V.bool p.2) (mput (z3v3, z3v4) true l3v5)))) (ym cb (encV := V.bool) (k := (z3v3, z3v4)) (d := true) (l := l3v5) Tryz.underlying50 rfl rfl rfl rfl rfl rfl rfl rfl) (okM rfl) rfl rfl rfl ?_
 refine gR 8 rfl ?_
 refine gDs [2] 17 19 rfl (by kernel_rfl) (by kernel_rfl) ?_
 refine gDr [(0, 2), (1, 2), (2, 3)] (by kernel_rfl) rfl rfl ?_
 obtain ⟨k3_1, ek3_1, h⟩ := h
 refine gV 84 (.int .i64 ((k3_1 : Nat) : Int)) rfl (dw ek3_1) rfl ?_
 obtain ⟨t3_2, hxt3_2, h⟩ := h
 refine gYd 3 rfl (by kernel_rfl) (aP (an hxt3_2) aa rfl rfl rfl rfl) rfl rfl ?_
 refine gDr [(4, 2), (5, 2), (6, 0), (7, 0)] (by kernel_rfl) rfl rfl ?_
 obtain ⟨k3_3, ek3_3, h⟩ := h
 refine gV 89 (.int .i64 ((k3_3 : Nat) : Int)) rfl (dw ek3_3) rfl ?_
 obtain ⟨t3_4, hxt3_4, h⟩ := h
 refine dh 8 rfl (by kernel_rfl) (aP (an hxt3_4) aa rfl rfl rfl rfl) rfl rfl ?_
 refine gDr [(9, 0), (10, 0)] (by kernel_rfl) rfl rfl ?_
 obtain ⟨t3_5, hxt3_5, h⟩ := h
 refine dh 11 rfl (by kernel_rfl) (aP (an hxt3_5) aa rfl rfl rfl rfl) rfl rfl ?_
 refine gDr [(12, 0)] (by kernel_rfl) rfl rfl ?_
 obtain ⟨t3_6, n3_7, hs44, h⟩ := h
 refine bH 13 hs44 (by kernel_rfl) rfl (by kernel_rfl) rfl rfl .rfl rfl rfl ?_
 refine gDr [(14, 0), (15, 2), (16, 2), (17, 1), (18, 1)] (by kernel_rfl) rfl rfl ?_
 refine gDe (by kernel_rfl) ?_
 refine gR 5 rfl ?_
 obtain ⟨hb, h⟩ := h
 refine gR 1 rfl ?_
 refine gV 100 (.int .i64 (z3v2 + n3_7)) rfl (ar hb rfl) rfl ?_
 refine gR 6 rfl ?_
 rcases hq45 : mlook (z3v3, z3v4) r0_8 with _ | d3_8
 replace h := h.1 hq45
 refine gDo (v := some (.tup [.agg [.int .i64 0, .int .i64 0], .bool false])) (.nop) (sP cb (encV := GTypesAlias.w) (k := (z3v3, z3v4)) (l := r0_8) (zv := .agg [.int .i64 0, .int .i64 0]) hq45 Tryz.underlying48 Tryz.zeroValue47 (by kernel_rfl) rfl rfl rfl rfl) trivial rfl rfl rfl ?_
 refine gR 7 rfl ?_
 refine aq ?_
 exact gJ (h K _ hK (by omega)) [0, 1, 2, 3, 4] [] rfl hK ⟨⟨_, rfl, .rfl⟩, ⟨_, rfl, .rfl⟩, ⟨_, rfl, .rfl⟩, ⟨_, rfl, .rfl⟩, ⟨_, rfl, .rfl⟩, ⟨_, rfl, .rfl⟩, ⟨_, rfl, .rfl⟩, ⟨_, rfl, .rfl⟩, trivial⟩ ⟨⟨_, rfl, ⟨rfl, rfl, rfl, rfl⟩⟩, ⟨⟨_, rfl, ⟨rfl, rfl, rfl, rfl⟩⟩, ⟨⟨_, rfl, ⟨rfl, ah.rfl⟩⟩, ⟨⟨_, rfl, ⟨rfl, ah.rfl⟩⟩, ⟨⟨_, rfl, ⟨rfl, ah.rfl⟩⟩, trivial⟩⟩⟩⟩⟩ rfl
 replace h := h.2 d3_8 hq45
 refine gDo (v := some (.tup [.agg (GTypesAlias.c d3_8), .bool true])) (.nop) (sD cb (encV := GTypesAlias.w) (k := (z3v3, z3v4)) (l := r0_8) (zv := .agg [.int .i64 0, .int .i64 0]) hq45 Tryz.underlying48 Tryz.zeroValue47 (by kernel_rfl) rfl rfl rfl rfl) trivial rfl rfl rfl ?_
 refine gR 7 rfl ?_
 refine aq ?_
 exact gJ (h K _ hK (by omega)) [0, 1, 2, 3, 4] [] rfl hK ⟨⟨_, rfl, .rfl⟩, ⟨_, rfl, .rfl⟩, ⟨_, rfl, .rfl⟩, ⟨_, rfl, .rfl⟩, ⟨_, rfl, .rfl⟩, ⟨_, rfl, .rfl⟩, ⟨_, rfl, .rfl⟩, ⟨_, rfl, .rfl⟩, trivial⟩ ⟨⟨_, rfl, ⟨rfl, rfl, rfl, rfl⟩⟩, ⟨⟨_, rfl, ⟨rfl, rfl, rfl, rfl⟩⟩, ⟨⟨_, rfl, ⟨rfl, ah.rfl⟩⟩, ⟨⟨_, rfl, ⟨rfl, ah.rfl⟩⟩, ⟨⟨_, rfl, ⟨rfl, ah.rfl⟩⟩, trivial⟩⟩⟩⟩⟩ rfl
def bG (m : Nat) (p1 : Int) (p2 : Int) (r0_4 : (List ((Int × Int) × GTypesAlias))) (z1v1 : Int) (z1v2 : Int) (b1v3 : Bool) (l1v4 : (List ((Int × Int) × Bool))) (r0 : Bool) : Prop := ∀ (K : Ctx) (j1 : Nat), au K [] → m ≤ j1 → Go Tryz.prog K (bodyPost Tryz.prog Tryz.f9 (SP K (fun u _ => u = .bool r0))) (.code (cL (cK (cB (cA (cB (cB (cB (cB (cB (ae Tryz.f9))))))))))) [.loop (cL (cK (cB (cA (cB (cB (cB (cB (cB (ae Tryz.f9)))))))))) j1, .blk 0, .seq (cB (cB (cB (cB (cB (cB (ae Tryz.f9)))))))] 70 (mkF 70 0 [(7, .ptr 0 0), (8, .sl 1), (9, .sl 2), (10, .ptr 3 0), (11, .bool b1v3)]) ⟨4, [(3, .var 47 [.int .i64 z1v1, .int .i64 z1v2]), (2, .mp 47 4 (List.map (fun p => (fun x => V.agg [(V.int .i64 x.1), (V.int .i64 x.2)]) p.1) l1v4) (List.map (fun p => V.bool p.2) l1v4)), (1, .mp 47 47 (List.map (fun p => (fun x => V.agg [(V.int .i64 x.1), (V.int .i64 x.2)]) p.1) r0_4) (List.map (fun p => GTypesAlias.w p.2) r0_4)), (0, .var 47 [.int .i64 p1, .int .i64 p2])]⟩
def ga (m : Nat) (p1 : Int) (p2 : Int) (r0_4 : (List ((Int × Int) × GTypesAlias))) (z1v1 : Int) (z1v2 : Int) (l2v1 : (List ((Int × Int) × Bool))) (r0 : Bool) : Prop := ∀ (K : Ctx) (j1 : Nat), au K [] → m ≤ j1 → Go Tryz.prog K (bodyPost Tryz.prog Tryz.f9 (SP K (fun u _ => u = .bool r0))) (.code (cB (cL (cK (cB (cA (cB (cB (cB (cB (cB (ae Tryz.f9)))))))))))) [.loop (cL (cK (cB (cA (cB (cB (cB (cB (cB (ae Tryz.f9)))))))))) j1, .blk 0, .seq (cB (cB (cB (cB (cB (cB (ae Tryz.f9)))))))] 70 (mkF 70 0 [(7, .ptr 0 0), (8, .sl 1), (9, .sl 2), (10, .ptr 3 0)]) ⟨4, [(3, .var 47 [.int .i64 z1v1, .int .i64 z1v2]), (2, .mp 47 4 (List.map (fun p => (fun x => V.agg [(V.int .i64 x.1), (V.int .i64 x.2)]) p.1) l2v1) (List.map (fun p => V.bool p.2) l2v1)), (1, .mp 47 47 (List.map (fun p => (fun x => V.agg [(V.int .i64 x.1), (V.int .i64 x.2)]) p.1) r0_4) (List.map (fun p => GTypesAlias.w p.2) r0_4)), (0, .var 47 [.int .i64 p1, .int .i64 p2])]⟩
theorem rS_types_Circular (m : Nat) (p0 : (List Tree)) (p1 : Int) (p2 : Int) (r0 : Bool) (h : ∃ (b0_1 : Bool), ie p0 b0_1 ∧ ((b0_1 = false) → false = r0) ∧ ((b0_1 = true) → ((p1 < 0) → false = r0) ∧ ((¬ p1 < 0) → ((((p0.length : Nat) : Int) ≤ p1) → false = r0) ∧ ((¬ ((p0.length : Nat) : Int) ≤ p1) → ((p2 < 0) → false = r0) ∧ ((¬ p2 < 0) → ∃ (k0_2 : Nat), p1 = ((k0_2 : Nat) : Int) ∧ ∃ (t0_3 : Tree), p0[k0_2]? = some t0_3 ∧ ((((t0_3.kids.length : Nat) : Int) ≤ p2) → false = r0) ∧ ((¬ ((t0_3.kids.length : Nat) : Int) ≤ p2) → ∃ (r0_4 : (List ((Int × Int) × GTypesAlias))), hI p0 r0_4 ∧ ((mlook (p1, p2) r0_4 = none) → bG m p1 p2 r0_4 0 0 false ([] : (List ((Int × Int) × Bool))) r0) ∧ (∀ (d0_5 : GTypesAlias), mlook (p1, p2) r0_4 = some d0_5 → bG m p1 p2 r0_4 d0_5.module d0_5.def_ true ([] : (List ((Int × Int) × Bool))) r0))))))) : fe p0 p1 p2 r0 := by
 refine ⟨rfl, rfl, ?_⟩
 refine ak 70 [] Tryz.func9 rfl rfl rfl (aC rfl) fun K hK => ?_
 refine gR 9 rfl ?_
 obtain ⟨b0_1, hs29, h⟩ := h
 refine gC0 hs29 (by kernel_rfl) rfl rfl .rfl rfl ?_
 refine gR 2 rfl ?_
 refine gB 15 rfl rfl rfl (fun hd => ?_) (fun hd => ?_)
 refine gT 14 rfl hd rfl ?_
 replace hd := (bP hd)
 replace h := h.1 hd
 refine gR 33 rfl ?_
 subst h
 refine ab (F' := (mkF 70 0 [(6, .bool false)])) (H' := ⟨0, []⟩) [] [] rfl hK ⟨⟨_, rfl, .rfl⟩, trivial⟩ trivial rfl ?_
 exact ac aa (rs := [.tmp 6]) rfl rfl rfl
 refine gF 14 rfl hd rfl ?_
 replace hd := (bO hd)
 replace h := h.2 hd
 refine gR 4 rfl ?_
 refine gB 19 rfl rfl rfl (fun hd => ?_) (fun hd => ?_)
 refine gT 18 rfl hd rfl ?_
 replace hd := (of_decide_eq_true hd)
 replace h := h.1 hd
 refine gR 29 rfl ?_
 subst h
 refine ab (F' := (mkF 70 0 [(6, .bool false)])) (H' := ⟨0, []⟩) [] [] rfl hK ⟨⟨_, rfl, .rfl⟩, trivial⟩ trivial rfl ?_
 exact ac aa (rs := [.tmp 6]) rfl rfl rfl
 refine gF 18 rfl hd rfl ?_
 replace hd := (of_decide_eq_false hd)
 replace h := h.2 hd
 refine gR 3 rfl ?_
 refine gV 22 (.int .i64 ((p0.length : Nat) : Int)) rfl (be (aH _)) rfl ?_
 refine gLB 21 rfl (aH _) fun hl30 => ?_
 refine gR 3 rfl ?_
 refine gB 25 rfl rfl rfl (fun hd => ?_) (fun hd => ?_)
 refine gT 24 rfl hd rfl ?_
 replace hd := (of_decide_eq_true hd)
 replace h := h.1 hd
 refine gR 23 rfl ?_
 subst h
 refine ab (F' := (mkF 70 0 [(6, .bool false)])) (H' := ⟨0, []⟩) [] [] rfl hK ⟨⟨_, rfl, .rfl⟩, trivial⟩ trivial rfl ?_
 exact ac aa (rs := [.tmp 6]) rfl rfl rfl
 refine gF 24 rfl hd rfl ?_
 replace hd := (of_decide_eq_false hd)
 replace h := h.2 hd
 refine gR 4 rfl ?_
 refine gB 29 rfl rfl rfl (fun hd => ?_) (fun hd => ?_)
 refine gT 28 rfl hd rfl ?_
 replace hd := (of_decide_eq_true hd)
 replace h := h.1 hd
 refine gR 19 rfl ?_
 subst h
 refine ab (F' := (mkF 70 0 [(6, .bool false)])) (H' := ⟨0, []⟩) [] [] rfl hK ⟨⟨_, rfl, .rfl⟩, trivial⟩ trivial rfl ?_
 exact ac aa (rs := [.tmp 6]) rfl rfl rfl
 refine gF 28 rfl hd rfl ?_
 replace hd := (of_decide_eq_false hd)
 replace h := h.2 hd
 refine gR 3 rfl ?_
 obtain ⟨k0_2, ek0_2, h⟩ := h
 refine gV 32 (.int .i64 ((k0_2 : Nat) : Int)) rfl (dw ek0_2) rfl ?_
 obtain ⟨t0_3, hxt0_3, h⟩ := h
 refine gY (aP (an hxt0_3) aa rfl rfl rfl rfl) rfl rfl ?_
 refine gR 3 rfl ?_
 refine gV 36 (.int .i64 ((t0_3.kids.length : Nat) : Int)) rfl (be (aH _)) rfl ?_
 refine gLB 35 rfl (aH _) fun hl31 => ?_
 refine gR 4 rfl ?_
 refine gB 38 rfl rfl rfl (fun hd => ?_) (fun hd => ?_)
 replace hd := (of_decide_eq_true hd)
 replace h := h.1 hd
 refine gR 8 rfl ?_
 subst h
 refine ab (F' := (mkF 70 0 [(6, .bool false)])) (H' := ⟨0, []⟩) [] [] rfl hK ⟨⟨_, rfl, .rfl⟩, trivial⟩ trivial rfl ?_
 exact ac aa (rs := [.tmp 6]) rfl rfl rfl
 replace hd := (of_decide_eq_false hd)
 replace h := h.2 hd
 refine gR 15 rfl ?_
 obtain ⟨r0_4, hs32, h⟩ := h
 refine gC hs32 [] (by kernel_rfl) rfl rfl .rfl trivial rfl ?_
 rintro _ _ ⟨rfl, rfl⟩
 refine gR 5 rfl ?_
 refine gDo (.new (.mp 47 4 [] [])) (dMM 47 4) trivial rfl rfl rfl ?_
 refine gHM 2 (List.map (fun p => (fun x => V.agg [(V.int .i64 x.1), (V.int .i64 x.2)]) p.1) ([] : (List ((Int × Int) × Bool)))) (List.map (fun p => V.bool p.2) ([] : (List ((Int × Int) × Bool)))) rfl rfl rfl rfl ?_
 refine gR 8 rfl ?_
 rcases hq33 : mlook (p1, p2) r0_4 with _ | d0_5
 replace h := h.1 hq33
 refine gDo (v := some (.tup [.agg [.int .i64 0, .int .i64 0], .bool false])) (.nop) (sP cb (encV := GTypesAlias.w) (k := (p1, p2)) (l := r0_4) (zv := .agg [.int .i64 0, .int .i64 0]) hq33 Tryz.underlying48 Tryz.zeroValue47 (by kernel_rfl) rfl rfl rfl rfl) trivial rfl rfl rfl ?_
 refine gR 9 rfl ?_
 refine go_loop m ?_
 exact gJ (h K _ hK (by omega)) [0, 1, 2, 3] [] rfl hK ⟨⟨_, rfl, .rfl⟩, ⟨_, rfl, .rfl⟩, ⟨_, rfl, .rfl⟩, ⟨_, rfl, .rfl⟩, ⟨_, rfl, .rfl⟩, trivial⟩ ⟨⟨_, rfl, ⟨rfl, ah.rfl⟩⟩, ⟨⟨_, rfl, ⟨rfl, rfl, rfl, rfl⟩⟩, ⟨⟨_, rfl, ⟨rfl, rfl, rfl, rfl⟩⟩, ⟨⟨_, rfl, ⟨rfl, ah.rfl⟩⟩, trivial⟩⟩⟩⟩ rfl
 replace h := h.2 d0_5 hq33
 refine gDo (v := some (.tup [.agg (GTypesAlias.c d0_5), .bool true])) (.nop) (sD cb (encV := GTypesAlias.w) (k := (p1, p2)) (l := r0_4) (zv := .agg [.int .i64 0, .int .i64 0]) hq33 Tryz.underlying48 Tryz.zeroValue47 (by kernel_rfl) rfl rfl rfl rfl) trivial rfl rfl rfl ?_
 refine gR 9 rfl ?_
 refine go_loop m ?_
 exact gJ (h K _ hK (by omega)) [0, 1, 2, 3] [] rfl hK ⟨⟨_, rfl, .rfl⟩, ⟨_, rfl, .rfl⟩, ⟨_, rfl, .rfl⟩, ⟨_, rfl, .rfl⟩, ⟨_, rfl, .rfl⟩, trivial⟩ ⟨⟨_, rfl, ⟨rfl, ah.rfl⟩⟩, ⟨⟨_, rfl, ⟨rfl, rfl, rfl, rfl⟩⟩, ⟨⟨_, rfl, ⟨rfl, rfl, rfl, rfl⟩⟩, ⟨⟨_, rfl, ⟨rfl, ah.rfl⟩⟩, trivial⟩⟩⟩⟩ rfl
theorem fM (m : Nat) (p1 : Int) (p2 : Int) (r0_4 : (List ((Int × Int) × GTypesAlias))) (z1v1 : Int) (z1v2 : Int) (b1v3 : Bool) (l1v4 : (List ((Int × Int) × Bool))) (r0 : Bool) (h : ((b1v3 = true) → ((mlook (z1v1, z1v2) l1v4 = none) → ga m p1 p2 r0_4 z1v1 z1v2 l1v4 r0) ∧ (∀ (d1_1 : Bool), mlook (z1v1, z1v2) l1v4 = some d1_1 → ((d1_1 = false) → ga m p1 p2 r0_4 z1v1 z1v2 l1v4 r0) ∧ ((d1_1 = true) → false = r0))) ∧ ((b1v3 = false) → false = r0)) : bG (m + 1) p1 p2 r0_4 z1v1 z1v2 b1v3 l1v4 r0 := by
 intro K j1 hK hj1
 obtain ⟨j1, rfl⟩ : ∃ j, j1 = j + 1 := ⟨j1 - 1, by omega⟩
 refine gR 5 rfl ?_
 refine gB 52 rfl rfl rfl (fun hd => ?_) (fun hd => ?_)
 refine gT 11 rfl hd rfl ?_
 refine gT 51 rfl hd rfl ?_
 replace h := h.1 hd
 refine gR 2 rfl ?_
 rcases hq34 : mlook (z1v1, z1v2) l1v4 with _ | d1_1
 replace h := h.1 hq34
 refine gDo (v := some (.bool false)) (.nop) (sP cb (encV := V.bool) (k := (z1v1, z1v2)) (l := l1v4) (zv := .bool false) hq34 Tryz.underlying50 Tryz.zeroValue4 (by kernel_rfl) rfl rfl rfl rfl) trivial rfl rfl rfl ?_
 refine gR 7 rfl ?_
 exact gJ (h K _ hK (by omega)) [0, 1, 2, 3] [] rfl hK ⟨⟨_, rfl, .rfl⟩, ⟨_, rfl, .rfl⟩, ⟨_, rfl, .rfl⟩, ⟨_, rfl, .rfl⟩, trivial⟩ ⟨⟨_, rfl, ⟨rfl, ah.rfl⟩⟩, ⟨⟨_, rfl, ⟨rfl, rfl, rfl, rfl⟩⟩, ⟨⟨_, rfl, ⟨rfl, rfl, rfl, rfl⟩⟩, ⟨⟨_, rfl, ⟨rfl, ah.rfl⟩⟩, trivial⟩⟩⟩⟩ rfl
 replace h := h.2 d1_1 hq34
 refine gDo (v := some (.bool d1_1)) (.nop) (sD cb (encV := V.bool) (k := (z1v1, z1v2)) (l := l1v4) (zv := .bool false) hq34 Tryz.underlying50 Tryz.zeroValue4 (by kernel_rfl) rfl rfl rfl rfl) trivial rfl rfl rfl ?_
 refine gR 4 rfl ?_
 refine gB 57 rfl rfl rfl (fun hd => ?_) (fun hd => ?_)
 replace hd := (bP hd)
 replace h := h.1 hd
 refine gR 3 rfl ?_
 exact gJ (h K _ hK (by omega)) [0, 1, 2, 3] [] rfl hK ⟨⟨_, rfl, .rfl⟩, ⟨_, rfl, .rfl⟩, ⟨_, rfl, .rfl⟩, ⟨_, rfl, .rfl⟩, trivial⟩ ⟨⟨_, rfl, ⟨rfl, ah.rfl⟩⟩, ⟨⟨_, rfl, ⟨rfl, rfl, rfl, rfl⟩⟩, ⟨⟨_, rfl, ⟨rfl, rfl, rfl, rfl⟩⟩, ⟨⟨_, rfl, ⟨rfl, ah.rfl⟩⟩, trivial⟩⟩⟩⟩ rfl
 replace hd := (bO hd)
 replace h := h.2 hd
 refine gR 3 rfl ?_
 refine av ?_
 refine gR 8 rfl ?_
 subst h
 refine ab (F' := (mkF 70 0 [(6, .bool false)])) (H' := ⟨0, []⟩) [] [] rfl hK ⟨⟨_, rfl, .rfl⟩, trivial⟩ trivial rfl ?_
 exact ac aa (rs := [.tmp 6]) rfl rfl rfl
 refine gF 11 rfl hd rfl ?_
 refine gF 51 rfl hd rfl ?_
 replace h := h.2 hd
 refine gR 10 rfl ?_
 refine av ?_
 refine gR 8 rfl ?_
 subst h
 refine ab (F' := (mkF 70 0 [(6, .bool false)])) (H' := ⟨0, []⟩) [] [] rfl hK ⟨⟨_, rfl, .rfl⟩, trivial⟩ trivial rfl ?_
 exact ac aa (rs := [.tmp 6]) rfl rfl rfl
theorem lH (m : Nat) (p1 : Int) (p2 : Int) (r0_4 : (List ((Int × Int) × GTypesAlias))) (z1v1 : Int) (z1v2 : Int) (l2v1 : (List ((Int × Int) × Bool))) (r0 : Bool) (h : ((z1v1 = p1 ∧ z1v2 = p2) → true = r0) ∧ ((¬ (z1v1 = p1 ∧ z1v2 = p2)) → ((mlook (z1v1, z1v2) r0_4 = none) → bG m p1 p2 r0_4 0 0 false (mput (z1v1, z1v2) true l2v1) r0) ∧ (∀ (d2_1 : GTypesAlias), mlook (z1v1, z1v2) r0_4 = some d2_1 → bG m p1 p2 r0_4 d2_1.module d2_1.def_ true (mput (z1v1, z1v2) true l2v1) r0))) : ga (m + 1) p1 p2 r0_4 z1v1 z1v2 l2v1 r0 := by
 intro K j1 hK hj1
 obtain ⟨j1, rfl⟩ : ∃ j, j1 = j + 1 := ⟨j1 - 1, by omega⟩
 refine gR 7 rfl ?_
 refine gY (v := .bool (z1v1 == p1 && z1v2 == p2)) (Cp (neg := false) Tryz.underlying47 (by kernel_rfl) (by kernel_rfl) (by decide) (by decide) rfl rfl (by kernel_rfl) (by kernel_rfl) rfl rfl qI qI qI qI (eI Tryz.underlying3) (eI Tryz.underlying3)) rfl rfl ?_
 refine gR 2 rfl ?_
 refine gB 66 rfl rfl rfl (fun hd => ?_) (fun hd => ?_)
 replace hd := (A1 hd)
 replace h := h.1 hd
 refine gR 10 rfl ?_
 refine aF ?_
 refine gR 2 rfl ?_
 subst h
 refine ab (F' := (mkF 70 0 [(6, .bool true)])) (H' := ⟨0, []⟩) [] [] rfl hK ⟨⟨_, rfl, .rfl⟩, trivial⟩ trivial rfl ?_
 exact ac aa (rs := [.tmp 6]) rfl rfl rfl
 replace hd := (Bg hd)
 replace h := h.2 hd
 refine gR 6 rfl ?_
 refine gDo (.set 2 (.mp 47 4 (List.map (fun p => (fun x => V.agg [(V.int .i64 x.1), (V.int .i64 x.2)]) p.1) (mput (z1v1, z1v2) true l2v1)) (List.map (fun p => V.bool p.2) (mput (z1v1, z1v2) true l2v1)))) (ym cb (encV := V.bool) (k := (z1v1, z1v2)) (d := true) (l := l2v1) Tryz.underlying50 rfl rfl rfl rfl rfl rfl rfl rfl) (okM rfl) rfl rfl rfl ?_
 refine gR 17 rfl ?_
 rcases hq35 : mlook (z1v1, z1v2) r0_4 with _ | d2_1
 replace h := h.1 hq35
 refine gDo (v := some (.tup [.agg [.int .i64 0, .int .i64 0], .bool false])) (.nop) (sP cb (encV := GTypesAlias.w) (k := (z1v1, z1v2)) (l := r0_4) (zv := .agg [.int .i64 0, .int .i64 0]) hq35 Tryz.underlying48 Tryz.zeroValue47 (by kernel_rfl) rfl rfl rfl rfl) trivial rfl rfl rfl ?_
 refine gR 6 rfl ?_
 refine aq ?_
 exact gJ (h K _ hK (by omega)) [0, 1, 2, 4] [] rfl hK ⟨⟨_, rfl, .rfl⟩, ⟨_, rfl, .rfl⟩, ⟨_, rfl, .rfl⟩, ⟨_, rfl, .rfl⟩, ⟨_, rfl, .rfl⟩, trivial⟩ ⟨⟨_, rfl, ⟨rfl, ah.rfl⟩⟩, ⟨⟨_, rfl, ⟨rfl, rfl, rfl, rfl⟩⟩, ⟨⟨_, rfl, ⟨rfl, rfl, rfl, rfl⟩⟩, ⟨⟨_, rfl, ⟨rfl, ah.rfl⟩⟩, trivial⟩⟩⟩⟩ rfl
 replace h := h.2 d2_1 hq35
 refine gDo (v := some (.tup [.agg (GTypesAlias.c d2_1), .bool true])) (.nop) (sD cb (encV := GTypesAlias.w) (k := (z1v1, z1v2)) (l := r0_4) (zv := .agg [.int .i64 0, .int .i64 0]) hq35 Tryz.underlying48 Tryz.zeroValue47 (by kernel_rfl) rfl rfl rfl rfl) trivial rfl rfl rfl ?_
 refine gR 6 rfl ?_
 refine aq ?_
 exact gJ (h K _ hK (by omega)) [0, 1, 2, 4] [] rfl hK ⟨⟨_, rfl, .rfl⟩, ⟨_, rfl, .rfl⟩, ⟨_, rfl, .rfl⟩, ⟨_, rfl, .rfl⟩, ⟨_, rfl, .rfl⟩, trivial⟩ ⟨⟨_, rfl, ⟨rfl, ah.rfl⟩⟩, ⟨⟨_, rfl, ⟨rfl, rfl, rfl, rfl⟩⟩, ⟨⟨_, rfl, ⟨rfl, rfl, rfl, rfl⟩⟩, ⟨⟨_, rfl, ⟨rfl, ah.rfl⟩⟩, trivial⟩⟩⟩⟩ rfl
theorem lh (m : Nat) (p0 : (List Tree)) (p1 : Int) (p2 : Tree) (p3 : Int) (p4 : Tree) (r0 : Bool) (h : ∃ (t0_1 : Tree), ∃ (n0_2 : Int), dp p0 p1 p2 t0_1 n0_2 ∧ ((n0_2 ≠ 0) → false = r0) ∧ ((n0_2 = 0) → ∃ (t0_3 : Tree), ∃ (n0_4 : Int), dp p0 p3 p4 t0_3 n0_4 ∧ ((n0_4 = 0) → ∃ (b0_5 : Bool), i4 t0_1 t0_3 b0_5 ∧ b0_5 = r0) ∧ ((n0_4 ≠ 0) → false = r0))) : js p0 p1 p2 p3 p4 r0 := by
 refine ⟨rfl, rfl, ?_⟩
 refine ak 37 [] Tryz.func16 rfl rfl rfl (aC rfl) fun K hK => ?_
 refine gR 3 rfl ?_
 refine gFP 0 rfl rfl rfl rfl ?_
 refine gR 1 rfl ?_
 refine gFP 1 rfl rfl rfl rfl ?_
 refine gR 8 rfl ?_
 obtain ⟨t0_1, n0_2, hs4, h⟩ := h
 refine gC0 hs4 (by kernel_rfl) rfl rfl .rfl rfl ?_
 refine gR 15 rfl ?_
 refine gB 22 rfl rfl rfl (fun hd => ?_) (fun hd => ?_)
 replace hd := (fb hd)
 replace h := h.1 hd
 refine gR 8 rfl ?_
 subst h
 refine ab (F' := (mkF 37 0 [(10, .bool false)])) (H' := ⟨0, []⟩) [] [] rfl hK ⟨⟨_, rfl, .rfl⟩, trivial⟩ trivial rfl ?_
 exact ac aa (rs := [.tmp 10]) rfl rfl rfl
 replace hd := (dC hd)
 replace h := h.2 hd
 refine gR 8 rfl ?_
 obtain ⟨t0_3, n0_4, hs5, h⟩ := h
 refine gC0 hs5 (by kernel_rfl) rfl rfl .rfl rfl ?_
 refine gR 13 rfl ?_
 refine gB 32 rfl rfl rfl (fun hd => ?_) (fun hd => ?_)
 refine gT 31 rfl hd rfl ?_
 replace hd := (eq_of_beq hd)
 replace h := h.1 hd
 refine gR 2 rfl ?_
 obtain ⟨b0_5, hs6, h⟩ := h
 refine gC0 hs6 (by kernel_rfl) rfl rfl .rfl rfl ?_
 refine gR 5 rfl ?_
 subst h
 refine ab (F' := (mkF 37 0 [(10, .bool b0_5)])) (H' := ⟨0, []⟩) [] [] rfl hK ⟨⟨_, rfl, .rfl⟩, trivial⟩ trivial rfl ?_
 exact ac aa (rs := [.tmp 10]) rfl rfl rfl
 refine gF 31 rfl hd rfl ?_
 replace hd := (ne_of_beq_false hd)
 replace h := h.2 hd
 refine gR 8 rfl ?_
 subst h
 refine ab (F' := (mkF 37 0 [(10, .bool false)])) (H' := ⟨0, []⟩) [] [] rfl hK ⟨⟨_, rfl, .rfl⟩, trivial⟩ trivial rfl ?_
 exact ac aa (rs := [.tmp 10]) rfl rfl rfl
def mx (m : Nat) (p0 : Tree) (p1 : Tree) (i1v1 : Nat) (r0 : Bool) : Prop := ∀ (K : Ctx) (j1 : Nat), au K [] → m ≤ j1 → Go Tryz.prog K (bodyPost Tryz.prog Tryz.f37 (SP K (fun u _ => u = .bool r0))) (.code (cL (cK (cB (cA (cB (cB (ae Tryz.f37)))))))) [.loop (cL (cK (cB (cA (cB (cB (ae Tryz.f37))))))) j1, .blk 0, .seq (cB (cB (cB (ae Tryz.f37))))] 54 (mkF 54 0 [(2, .box (aj p0) 0), (3, .box (aj p1) 0), (37, .int .i64 ((p0.kids.length : Nat) : Int)), (38, .int .i64 ((i1v1 : Nat) : Int))]) ⟨0, []⟩
theorem im (m : Nat) (p0 : Tree) (p1 : Tree) (r0 : Bool) (h : ((p0.kind ≠ p1.kind) → false = r0) ∧ ((p0.kind = p1.kind) → ((p0.text ≠ p1.text) → false = r0) ∧ ((p0.text = p1.text) → ((p0.kids.length ≠ p1.kids.length) → false = r0) ∧ ((p0.kids.length = p1.kids.length) → ∃ (b0_1 : Bool), ld p0.leads p1.leads b0_1 ∧ ((b0_1 = false) → false = r0) ∧ ((b0_1 = true) → mx m p0 p1 0 r0))))) : i4 p0 p1 r0 := by
 refine ⟨rfl, rfl, ?_⟩
 refine ak 54 [] Tryz.func37 rfl rfl rfl (aC rfl) fun K hK => ?_
 refine gR 3 rfl ?_
 refine gFP 0 rfl rfl rfl rfl ?_
 refine gR 1 rfl ?_
 refine gFP 1 rfl rfl rfl rfl ?_
 refine gR 12 rfl ?_
 refine gB 11 rfl rfl rfl (fun hd => ?_) (fun hd => ?_)
 refine gT 10 rfl hd rfl ?_
 replace hd := (fb hd)
 replace h := h.1 hd
 refine gR 33 rfl ?_
 subst h
 refine ab (F' := (mkF 54 0 [(4, .bool false)])) (H' := ⟨0, []⟩) [] [] rfl hK ⟨⟨_, rfl, .rfl⟩, trivial⟩ trivial rfl ?_
 exact ac aa (rs := [.tmp 4]) rfl rfl rfl
 refine gF 10 rfl hd rfl ?_
 replace hd := (dC hd)
 replace h := h.2 hd
 refine gR 7 rfl ?_
 refine gB 18 rfl rfl rfl (fun hd => ?_) (fun hd => ?_)
 refine gT 17 rfl hd rfl ?_
 replace hd := (fb hd)
 replace h := h.1 hd
 refine gR 26 rfl ?_
 subst h
 refine ab (F' := (mkF 54 0 [(4, .bool false)])) (H' := ⟨0, []⟩) [] [] rfl hK ⟨⟨_, rfl, .rfl⟩, trivial⟩ trivial rfl ?_
 exact ac aa (rs := [.tmp 4]) rfl rfl rfl
 refine gF 17 rfl hd rfl ?_
 replace hd := (dC hd)
 replace h := h.2 hd
 refine gR 3 rfl ?_
 refine gV 21 (.int .i64 ((p0.kids.length : Nat) : Int)) rfl (be (aH _)) rfl ?_
 refine gLB 20 rfl (aH _) fun hl9 => ?_
 refine gR 3 rfl ?_
 refine gV 24 (.int .i64 ((p1.kids.length : Nat) : Int)) rfl (be (aH _)) rfl ?_
 refine gLB 23 rfl (aH _) fun hl10 => ?_
 refine gR 3 rfl ?_
 refine gB 27 rfl rfl rfl (fun hd => ?_) (fun hd => ?_)
 refine gT 26 rfl hd rfl ?_
 replace hd := (vX hd)
 replace h := h.1 hd
 refine gR 17 rfl ?_
 subst h
 refine ab (F' := (mkF 54 0 [(4, .bool false)])) (H' := ⟨0, []⟩) [] [] rfl hK ⟨⟨_, rfl, .rfl⟩, trivial⟩ trivial rfl ?_
 exact ac aa (rs := [.tmp 4]) rfl rfl rfl
 refine gF 26 rfl hd rfl ?_
 replace hd := (v5 hd)
 replace h := h.2 hd
 refine gR 4 rfl ?_
 obtain ⟨b0_1, hs11, h⟩ := h
 refine gC0 hs11 (by kernel_rfl) rfl rfl .rfl rfl ?_
 refine gR 4 rfl ?_
 refine gB 34 rfl rfl rfl (fun hd => ?_) (fun hd => ?_)
 replace hd := (bP hd)
 replace h := h.1 hd
 refine gR 8 rfl ?_
 subst h
 refine ab (F' := (mkF 54 0 [(4, .bool false)])) (H' := ⟨0, []⟩) [] [] rfl hK ⟨⟨_, rfl, .rfl⟩, trivial⟩ trivial rfl ?_
 exact ac aa (rs := [.tmp 4]) rfl rfl rfl
 replace hd := (bO hd)
 replace h := h.2 hd
 refine gR 9 rfl ?_
 refine gV 37 (.int .i64 ((p0.kids.length : Nat) : Int)) rfl (be (aH _)) rfl ?_
 refine gR 4 rfl ?_
 refine go_loop m ?_
 exact gJ (h K _ hK (by omega)) [] [] rfl hK ⟨⟨_, rfl, .rfl⟩, ⟨_, rfl, .rfl⟩, ⟨_, rfl, .rfl⟩, ⟨_, rfl, .rfl⟩, trivial⟩ trivial rfl
theorem lO (m : Nat) (p0 : Tree) (p1 : Tree) (i1v1 : Nat) (r0 : Bool) (h : ((i1v1 < p0.kids.length) → ∃ (t1_1 : Tree), p0.kids[i1v1]? = some t1_1 ∧ ∃ (t1_2 : Tree), p1.kids[i1v1]? = some t1_2 ∧ ∃ (b1_3 : Bool), i4 t1_1 t1_2 b1_3 ∧ ((b1_3 = false) → false = r0) ∧ ((b1_3 = true) → i1v1 + 1 ≤ 9223372036854775807 ∧ mx m p0 p1 (i1v1 + 1) r0)) ∧ ((¬ i1v1 < p0.kids.length) → true = r0)) : mx (m + 1) p0 p1 i1v1 r0 := by
 intro K j1 hK hj1
 obtain ⟨j1, rfl⟩ : ∃ j, j1 = j + 1 := ⟨j1 - 1, by omega⟩
 refine gR 6 rfl ?_
 refine gB 39 rfl rfl rfl (fun hd => ?_) (fun hd => ?_)
 replace hd := (cO hd)
 replace h := h.1 hd
 refine gR 12 rfl ?_
 refine gDs [] 12 12 rfl (by kernel_rfl) (by kernel_rfl) ?_
 refine gDr [(0, 2), (1, 2), (2, 2)] (by kernel_rfl) rfl rfl ?_
 obtain ⟨t1_1, hxt1_1, h⟩ := h
 refine gYd 3 rfl (by kernel_rfl) (aP (an hxt1_1) aa rfl rfl rfl rfl) rfl rfl ?_
 refine gDr [(4, 2), (5, 2), (6, 2), (7, 0)] (by kernel_rfl) rfl rfl ?_
 obtain ⟨t1_2, hxt1_2, h⟩ := h
 refine dh 8 rfl (by kernel_rfl) (aP (an hxt1_2) aa rfl rfl rfl rfl) rfl rfl ?_
 refine gDr [(9, 0)] (by kernel_rfl) rfl rfl ?_
 obtain ⟨b1_3, hs12, h⟩ := h
 refine bH 10 hs12 (by kernel_rfl) rfl (by kernel_rfl) rfl rfl .rfl rfl rfl ?_
 refine gDr [(11, 0)] (by kernel_rfl) rfl rfl ?_
 refine gDe (by kernel_rfl) ?_
 refine gR 1 rfl ?_
 refine gB 52 rfl rfl rfl (fun hd => ?_) (fun hd => ?_)
 replace hd := (bP hd)
 replace h := h.1 hd
 refine gR 9 rfl ?_
 refine aF ?_
 refine gR 2 rfl ?_
 subst h
 refine ab (F' := (mkF 54 0 [(4, .bool false)])) (H' := ⟨0, []⟩) [] [] rfl hK ⟨⟨_, rfl, .rfl⟩, trivial⟩ trivial rfl ?_
 exact ac aa (rs := [.tmp 4]) rfl rfl rfl
 replace hd := (bO hd)
 replace h := h.2 hd
 refine gR 5 rfl ?_
 obtain ⟨hb, h⟩ := h
 refine gR 1 rfl ?_
 refine gV 53 (.int .i64 ((i1v1 + 1 : Nat) : Int)) rfl (ar (by omega) (by omega)) rfl ?_
 refine gR 2 rfl ?_
 refine aq ?_
 exact gJ (h K _ hK (by omega)) [] [] rfl hK ⟨⟨_, rfl, .rfl⟩, ⟨_, rfl, .rfl⟩, ⟨_, rfl, .rfl⟩, ⟨_, rfl, .rfl⟩, trivial⟩ trivial rfl
 replace hd := (cP hd)
 replace h := h.2 hd
 refine gR 3 rfl ?_
 refine av ?_
 refine gR 8 rfl ?_
 subst h
 refine ab (F' := (mkF 54 0 [(4, .bool true)])) (H' := ⟨0, []⟩) [] [] rfl hK ⟨⟨_, rfl, .rfl⟩, trivial⟩ trivial rfl ?_
 exact ac aa (rs := [.tmp 4]) rfl rfl rfl
def kf (m : Nat) (p0 : (List (List UInt8))) (p1 : (List (List UInt8))) (i1v1 : Nat) (r0 : Bool) : Prop := ∀ (K : Ctx) (j1 : Nat), au K [] → m ≤ j1 → Go Tryz.prog K (bodyPost Tryz.prog Tryz.f61 (SP K (fun u _ => u = .bool r0))) (.code (cL (cK (cB (cA (cB (cB (ae Tryz.f61)))))))) [.loop (cL (cK (cB (cA (cB (cB (ae Tryz.f61))))))) j1, .blk 0, .seq (cB (cB (cB (ae Tryz.f61))))] 26 (mkF 26 0 [(0, .row 1 (List.map V.str p0)), (1, .row 1 (List.map V.str p1)), (12, .int .i64 ((p0.length : Nat) : Int)), (13, .int .i64 ((i1v1 : Nat) : Int))]) ⟨0, []⟩
theorem qJ (m : Nat) (p0 : (List (List UInt8))) (p1 : (List (List UInt8))) (r0 : Bool) (h : ((p0.length ≠ p1.length) → false = r0) ∧ ((p0.length = p1.length) → kf m p0 p1 0 r0)) : ld p0 p1 r0 := by
 refine ⟨rfl, rfl, ?_⟩
 refine ak 26 [] Tryz.func61 rfl rfl rfl (aC rfl) fun K hK => ?_
 refine gR 10 rfl ?_
 refine gV 7 (.int .i64 ((p0.length : Nat) : Int)) rfl (be (aV V.str _)) rfl ?_
 refine gLB 6 rfl (aV V.str _) fun hl5 => ?_
 refine gR 2 rfl ?_
 refine gV 9 (.int .i64 ((p1.length : Nat) : Int)) rfl (be (aV V.str _)) rfl ?_
 refine gLB 8 rfl (aV V.str _) fun hl6 => ?_
 refine gR 3 rfl ?_
 refine gB 10 rfl rfl rfl (fun hd => ?_) (fun hd => ?_)
 replace hd := (vX hd)
 replace h := h.1 hd
 refine gR 8 rfl ?_
 subst h
 refine ab (F' := (mkF 26 0 [(4, .bool false)])) (H' := ⟨0, []⟩) [] [] rfl hK ⟨⟨_, rfl, .rfl⟩, trivial⟩ trivial rfl ?_
 exact ac aa (rs := [.tmp 4]) rfl rfl rfl
 replace hd := (v5 hd)
 replace h := h.2 hd
 refine gR 8 rfl ?_
 refine gV 12 (.int .i64 ((p0.length : Nat) : Int)) rfl (be (aV V.str _)) rfl ?_
 refine gR 4 rfl ?_
 refine go_loop m ?_
 exact gJ (h K _ hK (by omega)) [] [] rfl hK ⟨⟨_, rfl, .rfl⟩, ⟨_, rfl, .rfl⟩, ⟨_, rfl, .rfl⟩, ⟨_, rfl, .rfl⟩, trivial⟩ trivial rfl
theorem qg (m : Nat) (p0 : (List (List UInt8))) (p1 : (List (List UInt8))) (i1v1 : Nat) (r0 : Bool) (h : ((i1v1 < p0.length) → ∃ (s1_1 : (List UInt8)), p0[i1v1]? = some s1_1 ∧ ∃ (s1_2 : (List UInt8)), p1[i1v1]? = some s1_2 ∧ ((s1_1 ≠ s1_2) → false = r0) ∧ ((s1_1 = s1_2) → i1v1 + 1 ≤ 9223372036854775807 ∧ kf m p0 p1 (i1v1 + 1) r0)) ∧ ((¬ i1v1 < p0.length) → true = r0)) : kf (m + 1) p0 p1 i1v1 r0 := by
 intro K j1 hK hj1
 obtain ⟨j1, rfl⟩ : ∃ j, j1 = j + 1 := ⟨j1 - 1, by omega⟩
 refine gR 6 rfl ?_
 refine gB 14 rfl rfl rfl (fun hd => ?_) (fun hd => ?_)
 replace hd := (cO hd)
 replace h := h.1 hd
 refine gR 12 rfl ?_
 refine gDs [] 9 9 rfl (by kernel_rfl) (by kernel_rfl) ?_
 refine gDr [(0, 2), (1, 2)] (by kernel_rfl) rfl rfl ?_
 obtain ⟨s1_1, hxs1_1, h⟩ := h
 refine gYd 2 rfl (by kernel_rfl) (aP (mapget (f := V.str) hxs1_1) aa rfl rfl rfl rfl) rfl rfl ?_
 refine gDr [(3, 2), (4, 2), (5, 0)] (by kernel_rfl) rfl rfl ?_
 obtain ⟨s1_2, hxs1_2, h⟩ := h
 refine dh 6 rfl (by kernel_rfl) (aP (mapget (f := V.str) hxs1_2) aa rfl rfl rfl rfl) rfl rfl ?_
 refine gDr [(7, 0), (8, 0)] (by kernel_rfl) rfl rfl ?_
 refine gDe (by kernel_rfl) ?_
 refine gR 1 rfl ?_
 refine gB 24 rfl rfl rfl (fun hd => ?_) (fun hd => ?_)
 replace hd := (fb hd)
 replace h := h.1 hd
 refine gR 9 rfl ?_
 refine aF ?_
 refine gR 2 rfl ?_
 subst h
 refine ab (F' := (mkF 26 0 [(4, .bool false)])) (H' := ⟨0, []⟩) [] [] rfl hK ⟨⟨_, rfl, .rfl⟩, trivial⟩ trivial rfl ?_
 exact ac aa (rs := [.tmp 4]) rfl rfl rfl
 replace hd := (dC hd)
 replace h := h.2 hd
 refine gR 5 rfl ?_
 obtain ⟨hb, h⟩ := h
 refine gR 1 rfl ?_
 refine gV 25 (.int .i64 ((i1v1 + 1 : Nat) : Int)) rfl (ar (by omega) (by omega)) rfl ?_
 refine gR 2 rfl ?_
 refine aq ?_
 exact gJ (h K _ hK (by omega)) [] [] rfl hK ⟨⟨_, rfl, .rfl⟩, ⟨_, rfl, .rfl⟩, ⟨_, rfl, .rfl⟩, ⟨_, rfl, .rfl⟩, trivial⟩ trivial rfl
 replace hd := (cP hd)
 replace h := h.2 hd
 refine gR 3 rfl ?_
 refine av ?_
 refine gR 8 rfl ?_
 subst h
 refine ab (F' := (mkF 26 0 [(4, .bool true)])) (H' := ⟨0, []⟩) [] [] rfl hK ⟨⟨_, rfl, .rfl⟩, trivial⟩ trivial rfl ?_
 exact ac aa (rs := [.tmp 4]) rfl rfl rfl
end Go.Proofs.YtiknldgpnhikhaaGreat
namespace Go.Proofs.YtiknldgpnhikhaaGreat
open Go.RowKit Lx Sx
set_option maxRecDepth 100000
theorem uL {p : List Tree} {M : Int} : ∀ {a : List (List Int × Tree)} {x : GTarget}, x ∈ gP p M a ↔ ∃ q u, (q, u) ∈ a ∧ lp u = true ∧ x = tgK p M q u
  | [], x => by simp [gP]
  | (q, u) :: r, x => by
    have ih := uL (p := p) (M := M) (a := r) (x := x)
    simp only [gP, List.mem_append, ih]
    constructor
    · rintro (h | ⟨q', u', h1, h2, h3⟩)
      · split at h
        · rename_i hu
          rw [List.mem_singleton] at h
          exact ⟨q, u, by simp, hu, h⟩
        · cases h
      · exact ⟨q', u', by simp [h1], h2, h3⟩
    · rintro ⟨q', u', h1, h2, h3⟩
      rcases List.mem_cons.1 h1 with h1 | h1
      · cases h1
        exact .inl (by rw [if_pos h2]; simp [h3])
      · exact .inr ⟨q', u', h1, h2, h3⟩
theorem pO {p : List Tree} : ∀ {i : Nat} {l : List Tree} {x : GTarget}, x ∈ j6 p i l ↔ ∃ j t q u, l[j]? = some t ∧ (q, u) ∈ nodK t [] ∧ lp u = true ∧ x = tgK p ((i + j : Nat) : Int) q u
  | i, [], x => by simp [j6]
  | i, t :: r, x => by
    have ih := pO (p := p) (i := i + 1) (l := r) (x := x)
    simp only [j6, List.mem_append, ih, uL]
    constructor
    · rintro (⟨q, u, h1, h2, h3⟩ | ⟨j, t', q, u, h0, h1, h2, h3⟩)
      · exact ⟨0, t, q, u, rfl, h1, h2, h3⟩
      · exact ⟨j + 1, t', q, u, by simpa using h0, h1, h2, by rw [h3]; congr 2; omega⟩
    · rintro ⟨j, t', q, u, h0, h1, h2, h3⟩
      cases j with
      | zero => simp at h0; subst h0; exact .inl ⟨q, u, h1, h2, h3⟩
      | succ j => exact .inr ⟨j, t', q, u, by simpa using h0, h1, h2, by rw [h3]; congr 2; omega⟩
theorem r8 {u : Tree} {x : List Int × Tree} : ∀ {l : List Tree} {q : List Int} {i j : Nat}, l[j]? = some u → x ∈ nodK u (q ++ [((i + j : Nat) : Int)]) → x ∈ nodKs l q i
  | [], q, i, j, h, _ => by simp at h
  | t :: r, q, i, 0, h, hx => by
    simp only [List.getElem?_cons_zero, Option.some.injEq] at h
    subst h
    simp only [nodKs, List.mem_append]
    exact .inl (by simpa using hx)
  | t :: r, q, i, j + 1, h, hx => by
    simp only [nodKs, List.mem_append]
    refine .inr (r8 (i := i + 1) (j := j) (by simpa using h) ?_)
    rw [show i + 1 + j = i + (j + 1) by omega]; exact hx
theorem th : ∀ (r : List Int) {t u : Tree} {q : List Int}, atK t r = some u → (q ++ r, u) ∈ nodK t q
  | [], t, u, q, h => by
    simp only [atK, Option.some.injEq] at h
    subst h
    rw [jL]; simp
  | z :: r, t, u, q, h => by
    simp only [atK] at h
    split at h
    · cases h
    · rename_i hz
      cases hu : t.kids[z.toNat]? with
      | none => rw [hu] at h; cases h
      | some v =>
        rw [hu] at h
        have := th r (q := q ++ [z]) h
        rw [jL, List.mem_cons]
        refine .inr (r8 (j := z.toNat) hu ?_)
        rw [Nat.zero_add, show ((z.toNat : Nat) : Int) = z by omega]
        simpa using this
theorem zr : ∀ t, tyK t → ∃ q, atK t q = some (leafK t) := cr fun t ih h => by
  rcases nt h with ⟨h8, _, u, hu, hty⟩ | ⟨h8, _⟩
  · obtain ⟨e1, _⟩ := l8 h8 hu
    obtain ⟨q, hq⟩ := ih 0 u (by rw [hu]; rfl) hty
    exact ⟨0 :: q, by simp [atK, hu, hq, e1]⟩
  · exact ⟨[], by rw [(l7 h8).1]; rfl⟩
theorem xI : ∀ t, tyK t → ∀ q u, atK t q = some u → lp u = true → u = leafK t := cr fun t ih h q u hq hu => by
  rcases nt h with ⟨h8, _, v, hv, hty⟩ | ⟨h8, hk, _⟩
  · obtain ⟨e1, _⟩ := l8 h8 hv
    cases q with
    | nil =>
      simp only [atK, Option.some.injEq] at hq
      subst hq
      simp [lp, h8] at hu
    | cons z q =>
      simp only [atK, hv] at hq
      split at hq
      · cases hq
      · cases hz : z.toNat with
        | zero =>
          rw [hz] at hq
          simp only [List.getElem?_cons_zero] at hq
          rw [e1]
          exact ih 0 v (by rw [hv]; rfl) hty q u hq hu
        | succ n => rw [hz] at hq; simp at hq
  · rw [(l7 h8).1]
    cases q with
    | nil => simp only [atK, Option.some.injEq] at hq; exact hq.symm
    | cons z q =>
      simp only [atK, hk] at hq
      split at hq <;> simp at hq
def d5 (p : List Tree) (a : Int × Int) : Option (Int × Int) := if 0 ≤ a.1 ∧ 0 ≤ a.2 then match p[a.1.toNat]? with
    | none => none
    | some t => match t.kids[a.2.toNat]? with
      | none => none
      | some x => if x.kind = 3 ∧ (leafK (j0 p a.1 a.2)).kind = 9 ∧ (ba p a.1 (leafK (j0 p a.1 a.2)).text).2.2 = true then some ((ba p a.1 (leafK (j0 p a.1 a.2)).text).1, (ba p a.1 (leafK (j0 p a.1 a.2)).text).2.1) else none
  else none
theorem sG {p : List Tree} {i d : Nat} {t x : Tree} (h1 : p[i]? = some t) (h2 : t.kids[d]? = some x) (h3 : x.kind = 3) : d5 p ((i : Int), (d : Int)) = if (leafK (j0 p i d)).kind = 9 ∧ (ba p i (leafK (j0 p i d)).text).2.2 = true then some ((ba p i (leafK (j0 p i d)).text).1, (ba p i (leafK (j0 p i d)).text).2.1) else none := by
  unfold d5
  rw [if_pos ⟨Int.natCast_nonneg i, Int.natCast_nonneg d⟩]
  simp only [Int.toNat_natCast, h1, h2, h3, true_and]
theorem qR {p : List Tree} {i d : Nat} {t x : Tree} (hp : bF p = true) (h1 : p[i]? = some t) (h2 : t.kids[d]? = some x) (h3 : x.kind = 3) : ∃ b, x.kids = [b] ∧ tyK b := by
  obtain ⟨g1, g2⟩ := jI hp h1
  have hsx : shapeK x = true := by
    rw [dI] at g2
    simp only [Bool.and_eq_true] at g2
    exact (l6 g2.2 h2).2
  rw [dI, h3] at hsx
  simp only [Bool.and_eq_true, decide_eq_true_eq] at hsx
  have hl := hsx.1.1
  have e : cH 3 x.kids.length = f0 x.kids.length 1 3 0 1 := rfl
  rw [e] at hl
  have hn : x.kids.length = 1 := by
    unfold f0 at hl
    split at hl
    · omega
    · split at hl
      · omega
      · omega
  match hkk : x.kids, hn with
  | [b], _ =>
    have hss := hsx.2
    rw [hkk] at hss
    simp only [shapeKs, Bool.and_eq_true] at hss
    exact ⟨b, rfl, hss.1.2, by have := hss.1.1; simpa [hZ] using this⟩
def ze (p : List Tree) (x : GTarget) : Bool := !x.Free && (match p[x.Use.Module.toNat]? with | none => false | some t => match t.kids[(x.Use.Path.getD 0 0).toNat]? with | none => false | some a => a.kind == 3)
def dy (p : List Tree) (l : List ((Int × Int) × GTypesAlias)) (x : GTarget) : List ((Int × Int) × GTypesAlias) :=
  if ze p x = true then mput (x.Use.Module, x.Use.Path.getD 0 0) (GTypesAlias.mk x.Module x.Def) l else l
def du (p : List Tree) : List ((Int × Int) × GTypesAlias) := (df p).foldl (dy p) []
theorem xZ {p : List Tree} {x : GTarget} (hp : bF p = true) (h : x ∈ df p) : ∃ (i d : Nat) (t a u : Tree) (q : List Int), p[i]? = some t ∧ t.kids[d]? = some a ∧ x.Use.Module = (i : Int) ∧ x.Use.Path = (d : Int) :: q ∧ atK a q = some u ∧ lp u = true ∧ x = tgK p (i : Int) ((d : Int) :: q) u := by
  unfold df at h
  rw [if_pos hp] at h
  obtain ⟨j, t, q, u, hj, hq, hu, rfl⟩ := pO.1 h
  rw [Nat.zero_add]
  have hat := nodK_at t t [] rfl _ hq
  simp only at hat
  obtain ⟨hk, _⟩ := jI hp hj
  cases q with
  | nil =>
    simp only [atK, Option.some.injEq] at hat
    subst hat
    simp [lp, hk] at hu
  | cons z q =>
    simp only [atK] at hat
    split at hat
    · cases hat
    · rename_i hz
      cases ha : t.kids[z.toNat]? with
      | none => rw [ha] at hat; cases hat
      | some a =>
        rw [ha] at hat
        have e : ((z.toNat : Nat) : Int) = z := by omega
        exact ⟨j, z.toNat, t, a, u, q, hj, ha, rfl, by rw [e]; rfl, hat, hu, by rw [e]⟩
theorem nh {p : List Tree} {x : GTarget} {i d : Nat} {t a : Tree} {q : List Int} (l : List ((Int × Int) × GTypesAlias)) (h1 : p[i]? = some t) (h2 : t.kids[d]? = some a) (h3 : x.Use.Module = (i : Int)) (h4 : x.Use.Path = (d : Int) :: q) : dy p l x = if x.Free = false ∧ a.kind = 3 then mput ((i : Int), (d : Int)) (GTypesAlias.mk x.Module x.Def) l else l := by
  unfold dy ze
  rw [h3, h4]
  simp only [List.getD_cons_zero, Int.toNat_natCast, h1, h2, beq_iff_eq, Bool.and_eq_true, Bool.not_eq_true']
theorem qB {p : List Tree} (hp : bF p = true) : ∀ (T : List GTarget) (l : List ((Int × Int) × GTypesAlias)), (∀ x ∈ T, x ∈ df p) → (∀ k v, mlook k l = some v → d5 p k = some (v.module, v.def_)) → ∀ k v, mlook k (T.foldl (dy p) l) = some v → d5 p k = some (v.module, v.def_)
  | [], l, _, hl, k, v, h => hl k v h
  | x :: T, l, hT, hl, k, v, h => by
    refine qB hp T (dy p l x) (fun y hy => hT y (by simp [hy])) (fun k v hkv => ?_) k v h
    obtain ⟨i, d, t, a, u, q, h1, h2, h3, h4, h5, h6, h7⟩ := xZ hp (hT x (by simp))
    rw [nh l h1 h2 h3 h4] at hkv
    split at hkv
    · rename_i hc
      rw [j7] at hkv
      split at hkv
      · rename_i hk
        simp only [Option.some.injEq] at hkv
        subst hkv hk
        obtain ⟨b, hb, hty⟩ := qR hp h1 h2 hc.2
        have hlf : u = leafK b := by
          cases q with
          | nil =>
            simp only [atK, Option.some.injEq] at h5
            subst h5
            have := hc.2
            simp [lp, this] at h6
          | cons z q =>
            simp only [atK, hb] at h5
            split at h5
            · cases h5
            · cases hz : z.toNat with
              | zero =>
                rw [hz] at h5
                simp only [List.getElem?_cons_zero] at h5
                exact xI b hty q u h5 h6
              | succ n => rw [hz] at h5; simp at h5
        have hal := nr h1 h2 hb
        have hk9 : (leafK b).kind = 9 := by
          obtain ⟨g1, g2, _⟩ := k0 b hty
          have := g1.2
          simp only [fk, Bool.and_eq_true, decide_eq_true_eq] at this
          rw [hlf] at h6
          simp only [lp, Bool.or_eq_true, beq_iff_eq] at h6
          omega
        have hfr := hc.1
        rw [h7] at hfr ⊢
        simp only [tgK, Bool.not_eq_false'] at hfr ⊢
        rw [sG h1 h2 hc.2, hal, ← hlf, if_pos ⟨by rw [hlf]; exact hk9, hfr⟩]
      · exact hl k v hkv
    · exact hl k v hkv
theorem sb {p : List Tree} (k : Int × Int) : ∀ (T : List GTarget) (l : List ((Int × Int) × GTypesAlias)), mlook k l ≠ none → mlook k (T.foldl (dy p) l) ≠ none
  | [], l, h => h
  | x :: T, l, h => by
    refine sb k T (dy p l x) ?_
    unfold dy
    split
    · rw [j7]
      split
      · simp
      · exact h
    · exact h
theorem sX {p : List Tree} {k : Int × Int} {x : GTarget} (hx : ∀ l, mlook k (dy p l x) ≠ none) : ∀ (T : List GTarget) (l : List ((Int × Int) × GTypesAlias)), x ∈ T → mlook k (T.foldl (dy p) l) ≠ none
  | [], l, h => by cases h
  | y :: T, l, h => by
    rcases List.mem_cons.1 h with rfl | h
    · exact sb k T _ (hx l)
    · exact sX hx T _ h
theorem rz {p : List Tree} (hp : bF p = true) (k : Int × Int) : (mlook k (du p)).map (fun v => (v.module, v.def_)) = d5 p k := by
  have hs := qB hp (df p) [] (fun _ h => h) (fun k v h => by cases h) k
  cases hm : mlook k (du p) with
  | some v => rw [hs v hm]; rfl
  | none =>
    rw [Option.map_none]
    cases hn : d5 p k with
    | none => rfl
    | some v =>
      exfalso
      have hn' := hn
      unfold d5 at hn
      split at hn
      · rename_i h0
        cases h1 : p[k.1.toNat]? with
        | none => rw [h1] at hn; cases hn
        | some t =>
          cases h2 : t.kids[k.2.toNat]? with
          | none => rw [h1] at hn; simp only [h2] at hn; cases hn
          | some a =>
            rw [h1] at hn
            simp only [h2] at hn
            split at hn
            · rename_i hc
              obtain ⟨b, hb, hty⟩ := qR hp h1 h2 hc.1
              have e1 : ((k.1.toNat : Nat) : Int) = k.1 := by omega
              have e2 : ((k.2.toNat : Nat) : Int) = k.2 := by omega
              have hal := nr h1 h2 hb
              rw [e1, e2] at hal
              rw [hal] at hc
              obtain ⟨q, hq⟩ := zr b hty
              have hat : atK t (k.2 :: 0 :: q) = some (leafK b) := by
                simp [atK, h2, hb, hq, show ¬ k.2 < 0 by omega]
              have hx : tgK p k.1 (k.2 :: 0 :: q) (leafK b) ∈ df p := by
                unfold df
                rw [if_pos hp]
                exact pO.2 ⟨k.1.toNat, t, _, _, h1, by simpa using th _ (q := []) hat, by simp [lp, hc.2.1], by rw [Nat.zero_add, e1]⟩
              refine sX (k := k) (fun l => ?_) (df p) [] hx hm
              rw [nh (i := k.1.toNat) (d := k.2.toNat) (q := 0 :: q) l h1 h2 (by rw [e1]; rfl) (by rw [e2]; rfl), if_pos ⟨by simp [tgK, hc.2.2], hc.1⟩, j7, if_pos (by rw [e1, e2])]
              simp
            · cases hn
      · cases hn
end Go.Proofs.YtiknldgpnhikhaaGreat
namespace Go.Proofs.YtiknldgpnhikhaaGreat
open Go.RowKit Lx Sx
set_option maxRecDepth 100000
set_option maxHeartbeats 1000000
def eG {α : Type} (f : α → Nat) : List α → Nat
  | [] => 0
  | x :: r => f x + eG f r
theorem sL {α : Type} (f : α → Nat) : ∀ a b : List α, eG f (a ++ b) = eG f a + eG f b
  | [], b => by simp [eG]
  | x :: a, b => by simp only [List.cons_append, eG, sL f a b]; omega
theorem qS {α : Type} [BEq α] [LawfulBEq α] (f : α → Nat) {x : α} : ∀ {m : List α}, x ∈ m → eG f m = f x + eG f (m.erase x)
  | [], h => by cases h
  | y :: m, h => by
    rw [List.erase_cons]
    split
    · rename_i e
      rw [eq_of_beq e]; rfl
    · rename_i e
      rcases List.mem_cons.1 h with rfl | h
      · simp at e
      · simp only [eG, qS f h]; omega
theorem tm {α : Type} [BEq α] [LawfulBEq α] (f : α → Nat) : ∀ (l m : List α), l.Nodup → (∀ x ∈ l, x ∈ m) → eG f l ≤ eG f m
  | [], m, _, _ => Nat.zero_le _
  | x :: l, m, hn, hs => by
    obtain ⟨h1, h2⟩ := List.nodup_cons.1 hn
    rw [qS f (hs x (by simp)), eG]
    have := tm f l (m.erase x) h2 fun y hy => (List.mem_erase_of_ne (fun (e : y = x) => h1 (by rw [← e]; exact hy))).2 (hs y (by simp [hy]))
    omega
def lR (p : List Tree) (k : Int × Int) : Nat := lisK (j0 p k.1 k.2)
theorem wj {P : List Tree} {j : Nat} {t : Tree} (h : P[j]? = some t) : eG (lR P) (pi j t.kids) ≤ kbulk t.kids := by
  have go : ∀ (l : List Tree) (k : Nat), t.kids.drop k = l → eG (lR P) ((List.range' k l.length).map fun (d : Nat) => ((j : Int), (d : Int))) ≤ kbulk l := fun l => by
    induction l with
    | nil => intro k _; exact Nat.zero_le _
    | cons x r ih =>
      intro k hk
      have hx : t.kids[k]? = some x := by
        have : (t.kids.drop k)[0]? = some x := by rw [hk]; rfl
        simpa using this
      have hr : t.kids.drop (k + 1) = r := by
        have : (t.kids.drop k).drop 1 = r := by rw [hk]; rfl
        simpa [List.drop_drop] using this
      have := ih (k + 1) hr
      simp only [List.length_cons, List.range'_succ, List.map_cons, eG, kbulk]
      have e : lR P ((j : Int), (k : Int)) ≤ tbulk x := by
        unfold lR j0
        simp only [Int.toNat_natCast, h, hx]
        cases hxk : x.kids with
        | nil =>
          have : lisK lw = 0 := by unfold lw; rw [lisK, if_neg (by decide)]
          simp only [this]; omega
        | cons b _ =>
          simp only []
          have := (ku b).2
          have := bU (t := x) (i := 0) (u := b) (by rw [hxk]; rfl)
          omega
      omega
  have := go t.kids 0 rfl
  unfold pi
  rw [List.range_eq_range']
  exact this
theorem t8 (P : List Tree) : ∀ (j : Nat) (r : List Tree), (∀ i, P[j + i]? = r[i]?) → eG (lR P) (l4 j r) ≤ kbulk r
  | j, [], _ => Nat.zero_le _
  | j, t :: r, h => by
    have h0 : P[j]? = some t := by have := h 0; simpa using this
    have := wj h0
    have := t8 P (j + 1) r fun i => by have := h (i + 1); rw [show j + 1 + i = j + (i + 1) by omega]; simpa using this
    have := bC t
    simp only [l4, sL, kbulk]
    omega
theorem qd {p : List Tree} {l : List (Int × Int)} (h : kv p l) : eG (lR p) l ≤ kbulk p := Nat.le_trans (tm _ _ _ h.1 h.2) (t8 p 0 p (fun i => by simp))
theorem uh (t : Tree) : ∀ n, aL n (.node 8 [] [] [t]) = .node 8 [] [] [aL n t]
  | 0 => rfl
  | n + 1 => by simp only [aL, uh t n]
theorem ry {t : Tree} (ht : tyK t) (hb : tbulk t ≤ 1000000000) : jv t (leafK t) (lisK t) := by
  have loop : ∀ t, tyK t → ∀ i, i + tbulk t ≤ 2000000000 → iF (lisK t + 1) t i (leafK t) ((i + lisK t : Nat) : Int) := cr fun t ih h i hi => by
    rcases nt h with ⟨h8, _, u, hu, hty⟩ | ⟨h8, hk, _⟩
    · obtain ⟨e1, e2⟩ := l8 h8 hu
      have h0 : t.kids[0]? = some u := by rw [hu]; rfl
      have := bU h0
      rw [e1, e2]
      refine mT _ _ _ _ _ ⟨fun _ => ⟨u, h0, by omega, ?_⟩, fun h => absurd h8 h⟩
      rw [show i + (lisK u + 1) = i + 1 + lisK u by omega]
      exact ih 0 u h0 hty (i + 1) (by omega)
    · obtain ⟨e1, e2⟩ := l7 h8
      rw [e1, e2]
      exact mT _ _ _ _ _ ⟨fun h => absurd h h8, fun _ => ⟨rfl, rfl⟩⟩
  have := loop t ht 0 (by omega)
  rw [Nat.zero_add] at this
  exact rv _ _ _ _ this
theorem gy (p : List Tree) (hp : kbulk p ≤ 1000000000) : ie p (bF p) := by
  have hl := fE p
  have loop : ∀ m i, p.length - i ≤ m → gz (m + 1) p i (bF (p.drop i)) := fun m => by
    induction m with
    | zero =>
      intro i hi
      refine lU 0 _ _ _ ⟨fun h => by omega, fun h => ?_⟩
      rw [List.drop_of_length_le (by omega), bF]
    | succ m ihm =>
      intro i hi
      refine lU (m + 1) _ _ _ ⟨fun h => ?_, fun h => ?_⟩
      · obtain ⟨u, hu, _⟩ | h' := aU p i
        · rw [bQ hu, bF]
          have := dJ hu
          refine ⟨u, hu, fun h1 => by simp [h1], fun h1 => ⟨_, mC u (by omega), fun h2 => by simp [h1, h2], fun h2 => ⟨by omega, ?_⟩⟩⟩
          simp only [h1, h2, beq_self_eq_true, Bool.true_and]
          exact ihm (i + 1) (by omega)
        · exact absurd h h'
      · rw [List.drop_of_length_le (by omega), bF]
  exact qj _ _ _ (loop p.length 0 (by omega))
theorem sn (p : List Tree) : (df p).length ≤ kbulk p := by
  unfold df; split
  · exact rI p 0 p
  · exact Nat.zero_le _
theorem rL {p : List Tree} (hp : bF p = true) (hb : kbulk p ≤ 100000000) : hI p (du p) := by
  have hl := sn p
  have hu : ∀ x ∈ df p, _ := fun x hx => xZ hp hx
  obtain ⟨T, hT⟩ : ∃ T, T = df p := ⟨_, rfl⟩
  have loop : ∀ m i l, T.length - i ≤ m → dY (m + 1) p T l i ((T.drop i).foldl (dy p) l) := fun m => by
    induction m with
    | zero =>
      intro i l hi
      refine lW 0 _ _ _ _ _ ⟨fun h => by omega, fun h => ?_⟩
      rw [List.drop_of_length_le (by omega)]; rfl
    | succ m ihm =>
      intro i l hi
      refine lW (m + 1) _ _ _ _ _ ⟨fun h => ?_, fun h => ?_⟩
      · obtain ⟨x, hx, _⟩ | h' := aU T i
        · rw [bQ hx, List.foldl_cons]
          obtain ⟨j, d, t, a, u, q, h1, h2, h3, h4, h5, h6, h7⟩ := hu x (hT ▸ List.mem_of_getElem? hx)
          have hs := nh l h1 h2 h3 h4
          rw [← hT] at hl
          refine ⟨x, hx, (d : Int), by rw [h4]; rfl, fun hf => ⟨j, h3, t, h1, d, rfl, a, h2, fun h3' => ⟨by omega, ?_⟩, fun h3' => ⟨by omega, ?_⟩⟩, fun hf => ⟨by omega, ?_⟩⟩
          · have := ihm (i + 1) (dy p l x) (by omega)
            rw [hs, if_pos ⟨hf, h3'⟩] at this ⊢
            rw [h3]; exact this
          · have := ihm (i + 1) (dy p l x) (by omega)
            rw [hs, if_neg (fun hc => h3' hc.2)] at this ⊢
            exact this
          · have := ihm (i + 1) (dy p l x) (by omega)
            rw [hs, if_neg (fun hc => by rw [hf] at hc; cases hc.1)] at this ⊢
            exact this
        · exact absurd h h'
      · rw [List.drop_of_length_le (by omega)]; rfl
  refine p9 (T.length + 1) _ _ ⟨T, hT ▸ xf p hb, ?_⟩
  have := loop T.length 0 [] (by omega)
  rw [List.drop_zero, hT] at this
  rw [hT]
  exact this
end Go.Proofs.YtiknldgpnhikhaaGreat
namespace Go.Proofs.YtiknldgpnhikhaaGreat
open Go.RowKit Lx Sx
set_option maxRecDepth 100000
set_option maxHeartbeats 1000000
theorem w5 {p : List Tree} {M : Int} {w : List UInt8} (hp : bF p = true) (h0 : 0 ≤ M) (h1 : M < p.length) (hb : kbulk p ≤ 100000000) (hw : w.length ≤ 1000000000) : lP p M w (ba p M w).1 (ba p M w).2.1 (ba p M w).2.2 :=
  rS_link_Lookup 0 _ _ _ _ _ _ ⟨_, rF p (by omega), fun h => (by rw [hp] at h; cases h), fun h => ⟨_, _, _, tk h0 h1 (by omega) hw, rfl, rfl, rfl⟩⟩
theorem sT : ∀ (k : Nat) (z : Int) (ks : List Tree) (i : Nat), i + k ≤ 1000000000 → fP (k + 1) z ks i ((i + k : Nat) : Int) (aL k (.node z [] [] ks)) 0
  | 0, z, ks, i, h => mv 0 _ _ _ _ _ _ ⟨fun h => by omega, fun _ => ⟨rfl, rfl⟩⟩
  | k + 1, z, ks, i, h => by
    have := sT k 8 [.node z [] [] ks] (i + 1) (by omega)
    rw [uh, show i + 1 + k = i + (k + 1) by omega] at this
    exact mv (k + 1) _ _ _ _ _ _ ⟨fun _ => ⟨by omega, this⟩, fun h => by omega⟩
theorem qC {seen : List (Int × Int)} {l : List ((Int × Int) × Bool)} (h : ∀ k, mlook k l = if k ∈ seen then some true else none) (a : Int × Int) : ∀ k, mlook k (mput a true l) = if k ∈ a :: seen then some true else none := fun k => by
  rw [j7, h k]
  by_cases e : k = a
  · rw [if_pos e, if_pos (by simp [e])]
  · rw [if_neg e]
    by_cases e2 : k ∈ seen
    · rw [if_pos e2, if_pos (by simp [e2])]
    · rw [if_neg e2, if_neg (by simp [e, e2])]
theorem lu {p : List Tree} {seen : List (Int × Int)} {i d : Nat} {t a : Tree} (h : kv p seen) (h1 : p[i]? = some t) (h2 : t.kids[d]? = some a) (h3 : ((i : Int), (d : Int)) ∉ seen) : kv p (((i : Int), (d : Int)) :: seen) :=
  ⟨List.nodup_cons.2 ⟨h3, h.1⟩, fun x hx => by
    rcases List.mem_cons.1 hx with rfl | hx
    · have := rU (j := 0) h1 h2; simpa using this
    · exact h.2 x hx⟩
theorem zd {p : List Tree} (hp : bF p = true) (hb : kbulk p ≤ 10000000) : ∀ (f : Nat) (seen : List (Int × Int)) (n : Nat) (M : Int) (u : Tree) (b : Bool) (a1 a2 : Int) (l : List ((Int × Int) × Bool)), kv p seen → kbulk p + 1 ≤ f + seen.length → tyK u → u.kind ≠ 8 → n ≤ 10000000 + eG (lR p) seen → (∀ k, mlook k l = if k ∈ seen then some true else none) → (u.kind = 9 → b = (ba p M u.text).2.2 ∧ (b = true → a1 = (ba p M u.text).1 ∧ a2 = (ba p M u.text).2.1)) → ∃ m, cS m p (du p) u n b a1 a2 l (eZ p f seen n M u).1 (eZ p f seen n M u).2
  | 0, seen, n, M, u, b, a1, a2, l, hs, hf, _, _, _, _, _ => by
    have := mA hs; omega
  | f + 1, seen, n, M, u, b, a1, a2, l, hs, hf, hu, h8, hn, hl, hq => by
    have hss := qd hs
    by_cases h9 : u.kind = 9
    · obtain ⟨q1, q2⟩ := hq h9
      rw [eZ, if_pos h9]
      by_cases hfd : (ba p M u.text).2.2 = false
      · rw [if_pos hfd]
        rw [hfd] at q1
        exact ⟨1, gr 0 _ _ _ _ _ _ _ _ _ _ ⟨fun _ => ⟨fun _ => ⟨rfl, rfl⟩, fun h => (by rw [q1] at h; cases h)⟩, fun h => absurd h9 h⟩⟩
      · rw [if_neg hfd]
        have hfd' : (ba p M u.text).2.2 = true := by simpa using hfd
        rw [hfd'] at q1
        obtain ⟨e1, e2⟩ := q2 q1
        subst q1
        obtain ⟨i, d, t, a, b', g1, g2, g3, g4, g5, g6, g7⟩ := oq hp h9 hu.1 hfd'
        rw [g1] at e1 ⊢
        rw [g2] at e2 ⊢
        subst e1 e2
        by_cases hm : ((i : Int), (d : Int)) ∈ seen
        · rw [if_pos hm]
          have hlk := hl ((i : Int), (d : Int))
          rw [if_pos hm] at hlk
          exact ⟨1, gr 0 _ _ _ _ _ _ _ _ _ _ ⟨fun _ => ⟨fun h => (by cases h), fun _ => ⟨fun h => (by rw [hlk] at h; cases h), fun d1 h => ⟨fun _ => ⟨rfl, rfl⟩, fun h' => (by rw [hlk] at h; cases h; cases h')⟩⟩⟩, fun h => absurd h9 h⟩⟩
        · rw [if_neg hm]
          have hlk := hl ((i : Int), (d : Int))
          rw [if_neg hm] at hlk
          have hal := nr g3 g4 g6
          rw [hal]
          obtain ⟨t1, t2, _⟩ := k0 b' g7
          have hs' := lu hs g3 g4 hm
          have hl' := qC hl ((i : Int), (d : Int))
          have hsum : eG (lR p) (((i : Int), (d : Int)) :: seen) = lisK b' + eG (lR p) seen := by simp only [eG, lR, hal]
          have hss' := qd hs'
          have hbb : tbulk b' ≤ 1000000000 := by
            have := dJ g3
            have := bU g4
            have := bU (t := a) (i := 0) (u := b') (by rw [g6]; rfl)
            omega
          have hlo := rz hp ((i : Int), (d : Int))
          rw [sG g3 g4 g5, hal] at hlo
          have step : ∀ m, ((mlook ((i : Int), (d : Int)) (du p) = none) → cS m p (du p) (leafK b') ((n : Int) + (lisK b' : Nat)) false 0 0 (mput ((i : Int), (d : Int)) true l) (eZ p f (((i : Int), (d : Int)) :: seen) (n + lisK b') i (leafK b')).1 (eZ p f (((i : Int), (d : Int)) :: seen) (n + lisK b') i (leafK b')).2) ∧ (∀ (d3 : GTypesAlias), mlook ((i : Int), (d : Int)) (du p) = some d3 → cS m p (du p) (leafK b') ((n : Int) + (lisK b' : Nat)) true d3.module d3.def_ (mput ((i : Int), (d : Int)) true l) (eZ p f (((i : Int), (d : Int)) :: seen) (n + lisK b') i (leafK b')).1 (eZ p f (((i : Int), (d : Int)) :: seen) (n + lisK b') i (leafK b')).2) → ∃ m, cS m p (du p) u n true i d l (eZ p f (((i : Int), (d : Int)) :: seen) (n + lisK b') i (leafK b')).1 (eZ p f (((i : Int), (d : Int)) :: seen) (n + lisK b') i (leafK b')).2 := fun m hk => by
            have h2 : hU (m + 1) p (du p) u n i d l (eZ p f (((i : Int), (d : Int)) :: seen) (n + lisK b') i (leafK b')).1 (eZ p f (((i : Int), (d : Int)) :: seen) (n + lisK b') i (leafK b')).2 :=
              rL2_types_Expand m _ _ _ _ _ _ _ _ _ ⟨i, rfl, t, g3, d, rfl, a, g4, b', by rw [g6]; rfl, leafK b', _, ry g7 hbb, by unfold InI; omega, hk.1, hk.2⟩
            exact ⟨m + 2, gr (m + 1) _ _ _ _ _ _ _ _ _ _ ⟨fun _ => ⟨fun h => (by cases h), fun _ => ⟨fun _ => h2, fun d1 h => ⟨fun _ => (by rw [hlk] at h; cases h), fun _ => (by rw [hlk] at h; cases h)⟩⟩⟩, fun h => absurd h9 h⟩⟩
          have ih := fun (b : Bool) (a1 a2 : Int) => zd hp hb f (((i : Int), (d : Int)) :: seen) (n + lisK b') i (leafK b') b a1 a2 _ hs' (by simp only [List.length_cons]; omega) t1 t2 (by omega) hl'
          rw [show (n : Int) + ((lisK b' : Nat) : Int) = ((n + lisK b' : Nat) : Int) by omega] at step
          cases hmm : mlook ((i : Int), (d : Int)) (du p) with
          | none =>
            rw [hmm] at hlo
            obtain ⟨m, hm⟩ := ih false 0 0 (fun h9' => ⟨(by
              cases hx : (ba p (i : Int) (leafK b').text).2.2 with
              | false => rfl
              | true => (rw [if_pos ⟨h9', hx⟩] at hlo; cases hlo)), fun h => (by cases h)⟩)
            rw [hmm] at step
            exact step m ⟨fun _ => hm, fun d3 h => (by cases h)⟩
          | some v =>
            rw [hmm] at hlo
            simp only [Option.map_some] at hlo
            split at hlo
            · rename_i hc
              simp only [Option.some.injEq, Prod.mk.injEq] at hlo
              obtain ⟨m, hm⟩ := ih true v.module v.def_ (fun _ => ⟨hc.2.symm, fun _ => hlo⟩)
              rw [hmm] at step
              exact step m ⟨fun h => (by cases h), fun d3 h => (by cases h; exact hm)⟩
            · cases hlo
    · rw [eZ, if_neg h9]
      have := sT n u.kind [] 0 (by omega)
      rw [Nat.zero_add] at this
      exact ⟨n + 2, gr (n + 1) _ _ _ _ _ _ _ _ _ _ ⟨fun h => absurd h h9, fun _ => this⟩⟩
def dZ (p : List Tree) (M : Int) (t : Tree) : Tree × Int := if bF p = true ∧ 0 ≤ M ∧ M < p.length ∧ fk t.kind = true ∧ shapeK t = true then eZ p (kbulk p + 1) [] (lisK t) M (leafK t) else (lw, 5)
theorem kW {p : List Tree} (hb : kbulk p ≤ 10000000) (M : Int) {t : Tree} (ht : tbulk t ≤ 10000000) : dp p M t (dZ p M t).1 (dZ p M t).2 := by
  by_cases hG : bF p = true ∧ 0 ≤ M ∧ M < p.length ∧ fk t.kind = true ∧ shapeK t = true
  · have hty : tyK t := ⟨hG.2.2.2.2, hG.2.2.2.1⟩
    have hk : 5 ≤ t.kind ∧ t.kind ≤ 9 := by simpa [fk] using hG.2.2.2.1
    obtain ⟨t1, t2, _⟩ := k0 t hty
    obtain ⟨b1, b2⟩ := ku t
    have hlx := cf (leafK t)
    rw [dZ, if_pos hG]
    have hnd : kv p [] := ⟨List.nodup_nil, fun x h => (by cases h)⟩
    by_cases h9 : (leafK t).kind = 9
    · obtain ⟨m, hm⟩ := zd hG.1 hb (kbulk p + 1) [] (lisK t) M (leafK t) (ba p M (leafK t).text).2.2 (ba p M (leafK t).text).1 (ba p M (leafK t).text).2.1 [] hnd (by simp) t1 t2 (by omega) (fun k => by simp [mlook]) (fun _ => ⟨rfl, fun _ => ⟨rfl, rfl⟩⟩)
      exact kE m _ _ _ _ _ ⟨_, gy p (by omega), fun h => (by rw [hG.1] at h; cases h), fun _ => ⟨fun h => by omega, fun _ => ⟨fun h => by omega, fun _ => ⟨fun h => by omega, fun _ => ⟨fun h => by omega, fun _ => ⟨_, mC t (by omega), fun h => (by rw [hG.2.2.2.2] at h; cases h), fun _ => ⟨leafK t, _, ry hty (by omega), fun _ => ⟨_, _, _, w5 hG.1 hG.2.1 hG.2.2.1 (by omega) (by omega), _, rL hG.1 (by omega), hm⟩, fun h => absurd h9 h⟩⟩⟩⟩⟩⟩⟩
    · have := sT (lisK t) (leafK t).kind [] 0 (by omega)
      rw [Nat.zero_add] at this
      rw [eZ, if_neg h9]
      exact kE (lisK t + 1) _ _ _ _ _ ⟨_, gy p (by omega), fun h => (by rw [hG.1] at h; cases h), fun _ => ⟨fun h => by omega, fun _ => ⟨fun h => by omega, fun _ => ⟨fun h => by omega, fun _ => ⟨fun h => by omega, fun _ => ⟨_, mC t (by omega), fun h => (by rw [hG.2.2.2.2] at h; cases h), fun _ => ⟨leafK t, _, ry hty (by omega), fun h => absurd h h9, fun _ => this⟩⟩⟩⟩⟩⟩⟩
  · rw [dZ, if_neg hG]
    refine kE 0 _ _ _ _ _ ⟨_, gy p (by omega), fun _ => ⟨rfl, rfl⟩, fun h1 => ⟨fun _ => ⟨rfl, rfl⟩, fun h2 => ⟨fun _ => ⟨rfl, rfl⟩, fun h3 => ⟨fun _ => ⟨rfl, rfl⟩, fun h4 => ⟨fun _ => ⟨rfl, rfl⟩, fun h5 => ⟨_, mC t (by omega), fun _ => ⟨rfl, rfl⟩, fun h6 => absurd ⟨h1, by omega, by omega, ?_, h6⟩ hG⟩⟩⟩⟩⟩⟩
    simp [fk]; omega
def ju (p : List Tree) (s : Int × Int) : Nat → List (Int × Int) → Option (Int × Int) → Bool
  | 0, _, _ => false
  | _ + 1, _, none => false
  | f + 1, seen, some a => if a = s then true else if a ∈ seen then false else ju p s f (a :: seen) (d5 p a)
theorem wY {p : List Tree} {k a : Int × Int} (h : d5 p k = some a) : ∃ (i d : Nat) (t x : Tree), a = ((i : Int), (d : Int)) ∧ p[i]? = some t ∧ t.kids[d]? = some x := by
  unfold d5 at h
  split at h
  · split at h
    · cases h
    · split at h
      · cases h
      · split at h
        · rename_i hc
          simp only [Option.some.injEq] at h
          obtain ⟨i, d, t, u, a1, a2, a3, a4⟩ := ya hc.2.2
          exact ⟨i, d, t, u, by rw [← h, a1, a2], a3, a4⟩
        · cases h
  · cases h
theorem xb {p : List Tree} (hp : bF p = true) (hb : kbulk p ≤ 10000000) (s1 s2 : Int) : ∀ (f : Nat) (seen : List (Int × Int)) (k : Int × Int) (b : Bool) (a1 a2 : Int) (l : List ((Int × Int) × Bool)), kv p seen → kbulk p + 1 ≤ f + seen.length → (s1, s2) ∉ seen → (∀ k, mlook k l = if k ∈ seen then some true else none) → (if b then some (a1, a2) else none) = d5 p k → ∃ m, bG m s1 s2 (du p) a1 a2 b l (ju p (s1, s2) f seen (d5 p k))
  | 0, seen, k, b, a1, a2, l, hs, hf, _, _, _ => by
    have := mA hs; omega
  | f + 1, seen, k, b, a1, a2, l, hs, hf, hns, hl, hq => by
    cases b with
    | false =>
      simp at hq
      rw [← hq, ju]
      exact ⟨1, fM 0 _ _ _ _ _ _ _ _ ⟨fun h => (by cases h), fun _ => rfl⟩⟩
    | true =>
      simp at hq
      obtain ⟨i, d, t, x, e, g3, g4⟩ := wY hq.symm
      cases e
      rw [← hq, ju]
      have hlk := hl ((i : Int), (d : Int))
      by_cases hm : ((i : Int), (d : Int)) ∈ seen
      · rw [if_pos hm] at hlk
        rw [if_neg (fun (e : ((i : Int), (d : Int)) = (s1, s2)) => hns (by rw [← e]; exact hm)), if_pos hm]
        exact ⟨1, fM 0 _ _ _ _ _ _ _ _ ⟨fun _ => ⟨fun h => (by rw [hlk] at h; cases h), fun d1 h => ⟨fun h' => (by rw [hlk] at h; cases h; cases h'), fun _ => rfl⟩⟩, fun h => (by cases h)⟩⟩
      · rw [if_neg hm] at hlk
        by_cases hst : ((i : Int), (d : Int)) = (s1, s2)
        · rw [if_pos hst]
          have h1 : ga 1 s1 s2 (du p) i d l true := lH 0 _ _ _ _ _ _ _ ⟨fun _ => rfl, fun h => absurd (Prod.mk.inj hst) h⟩
          exact ⟨2, fM 1 _ _ _ _ _ _ _ _ ⟨fun _ => ⟨fun _ => h1, fun d1 h => (by rw [hlk] at h; cases h)⟩, fun h => (by cases h)⟩⟩
        · rw [if_neg hst, if_neg hm]
          have hst' : ¬ ((i : Int) = s1 ∧ (d : Int) = s2) := fun h => hst (by rw [h.1, h.2])
          have hs' := lu hs g3 g4 hm
          have hl' := qC hl ((i : Int), (d : Int))
          have hlo := rz hp ((i : Int), (d : Int))
          have ih := fun (b : Bool) (a1 a2 : Int) => xb hp hb s1 s2 f (((i : Int), (d : Int)) :: seen) ((i : Int), (d : Int)) b a1 a2 _ hs' (by simp only [List.length_cons]; omega) (fun h => by
            rcases List.mem_cons.1 h with h | h
            · exact hst h.symm
            · exact hns h) hl'
          have fin : ∀ m, ((mlook ((i : Int), (d : Int)) (du p) = none) → bG m s1 s2 (du p) 0 0 false (mput ((i : Int), (d : Int)) true l) (ju p (s1, s2) f (((i : Int), (d : Int)) :: seen) (d5 p ((i : Int), (d : Int))))) ∧ (∀ (d2 : GTypesAlias), mlook ((i : Int), (d : Int)) (du p) = some d2 → bG m s1 s2 (du p) d2.module d2.def_ true (mput ((i : Int), (d : Int)) true l) (ju p (s1, s2) f (((i : Int), (d : Int)) :: seen) (d5 p ((i : Int), (d : Int))))) → ∃ m, bG m s1 s2 (du p) i d true l (ju p (s1, s2) f (((i : Int), (d : Int)) :: seen) (d5 p ((i : Int), (d : Int)))) := fun m hk =>
            ⟨m + 2, fM (m + 1) _ _ _ _ _ _ _ _ ⟨fun _ => ⟨fun _ => lH m _ _ _ _ _ _ _ ⟨fun h => absurd h hst', fun _ => hk⟩, fun d1 h => (by rw [hlk] at h; cases h)⟩, fun h => (by cases h)⟩⟩
          cases hmm : mlook ((i : Int), (d : Int)) (du p) with
          | none =>
            rw [hmm] at hlo fin
            obtain ⟨m, hm⟩ := ih false 0 0 (by rw [← hlo]; rfl)
            exact fin m ⟨fun _ => hm, fun d3 h => (by cases h)⟩
          | some v =>
            rw [hmm] at hlo fin
            obtain ⟨m, hm⟩ := ih true v.module v.def_ (by rw [← hlo]; rfl)
            exact fin m ⟨fun h => (by cases h), fun d3 h => (by cases h; exact hm)⟩
def od (p : List Tree) (M D : Int) : Bool := if bF p = true ∧ 0 ≤ M ∧ 0 ≤ D then ju p (M, D) (kbulk p + 1) [] (d5 p (M, D)) else false
theorem pJ {p : List Tree} (hb : kbulk p ≤ 10000000) (M D : Int) : fe p M D (od p M D) := by
  have nn : (∀ t x, 0 ≤ M → 0 ≤ D → p[M.toNat]? = some t → t.kids[D.toNat]? = some x → False) → od p M D = false := fun h => by
    unfold od
    split
    · rename_i hc
      have : d5 p (M, D) = none := by
        unfold d5
        rw [if_pos ⟨hc.2.1, hc.2.2⟩]
        split
        · rfl
        · rename_i t ht
          split
          · rfl
          · rename_i x hx
            exact (h t x hc.2.1 hc.2.2 ht hx).elim
      rw [this, ju]
    · rfl
  have hlen := fun (t : Tree) (ht : p[M.toNat]? = some t) => (List.getElem?_eq_some_iff.1 ht).1
  by_cases hp : bF p = true
  · by_cases h0 : M < 0
    · rw [nn fun _ _ h _ _ _ => by omega]
      exact rS_types_Circular 0 _ _ _ _ ⟨_, gy p (by omega), fun _ => rfl, fun _ => ⟨fun _ => rfl, fun h => absurd h0 h⟩⟩
    by_cases h1 : ((p.length : Nat) : Int) ≤ M
    · rw [nn fun t _ _ _ ht _ => by have := hlen t ht; omega]
      exact rS_types_Circular 0 _ _ _ _ ⟨_, gy p (by omega), fun _ => rfl, fun _ => ⟨fun _ => rfl, fun _ => ⟨fun _ => rfl, fun h => absurd h1 h⟩⟩⟩
    by_cases h2 : D < 0
    · rw [nn fun _ _ _ h _ _ => by omega]
      exact rS_types_Circular 0 _ _ _ _ ⟨_, gy p (by omega), fun _ => rfl, fun _ => ⟨fun _ => rfl, fun _ => ⟨fun _ => rfl, fun _ => ⟨fun _ => rfl, fun h => absurd h2 h⟩⟩⟩⟩
    obtain ⟨t, ht, _⟩ | h' := aU p M.toNat
    · by_cases h3 : ((t.kids.length : Nat) : Int) ≤ D
      · rw [nn fun t' x _ _ ht' hx => by
          rw [ht] at ht'; cases ht'
          have := (List.getElem?_eq_some_iff.1 hx).1
          omega]
        exact rS_types_Circular 0 _ _ _ _ ⟨_, gy p (by omega), fun _ => rfl, fun _ => ⟨fun _ => rfl, fun _ => ⟨fun _ => rfl, fun _ => ⟨fun _ => rfl, fun _ => ⟨M.toNat, by omega, t, ht, fun _ => rfl, fun h => absurd h3 h⟩⟩⟩⟩⟩
      · rw [od, if_pos ⟨hp, by omega, by omega⟩]
        have hlo := rz hp (M, D)
        have hc := fun (b : Bool) (a1 a2 : Int) => xb hp hb M D (kbulk p + 1) [] (M, D) b a1 a2 [] ⟨List.nodup_nil, fun x h => (by cases h)⟩ (by simp) (by simp) (fun k => by simp [mlook])
        have fin : ∀ m, ((mlook (M, D) (du p) = none) → bG m M D (du p) 0 0 false [] (ju p (M, D) (kbulk p + 1) [] (d5 p (M, D)))) ∧ (∀ (d2 : GTypesAlias), mlook (M, D) (du p) = some d2 → bG m M D (du p) d2.module d2.def_ true [] (ju p (M, D) (kbulk p + 1) [] (d5 p (M, D)))) → fe p M D (ju p (M, D) (kbulk p + 1) [] (d5 p (M, D))) := fun m hk =>
          rS_types_Circular m _ _ _ _ ⟨_, gy p (by omega), fun h => (by rw [hp] at h; cases h), fun _ => ⟨fun h => absurd h h0, fun _ => ⟨fun h => absurd h h1, fun _ => ⟨fun h => absurd h h2, fun _ => ⟨M.toNat, by omega, t, ht, fun h => absurd h h3, fun _ => ⟨_, rL hp (by omega), hk⟩⟩⟩⟩⟩⟩
        cases hmm : mlook (M, D) (du p) with
        | none =>
          rw [hmm] at hlo fin
          obtain ⟨m, hm⟩ := hc false 0 0 (by rw [← hlo]; rfl)
          exact fin m ⟨fun _ => hm, fun d3 h => (by cases h)⟩
        | some v =>
          rw [hmm] at hlo fin
          obtain ⟨m, hm⟩ := hc true v.module v.def_ (by rw [← hlo]; rfl)
          exact fin m ⟨fun h => (by cases h), fun d3 h => (by cases h; exact hm)⟩
    · omega
  · have hp' : bF p = false := by simpa using hp
    rw [od, if_neg (fun h => hp h.1)]
    exact rS_types_Circular 0 _ _ _ _ ⟨_, gy p (by omega), fun _ => rfl, fun h => absurd h hp⟩
end Go.Proofs.YtiknldgpnhikhaaGreat
namespace Go.Proofs.YtiknldgpnhikhaaGreat
open Go.RowKit Lx Sx
set_option maxRecDepth 100000
set_option maxHeartbeats 4000000
def fJ (p0 : Tree) (r0 : Tree) : Prop := aT Tryz.prog 26 [.agg (aj p0)] (.agg (aj r0))
def gE (p0 : Tree) (p1 : Tree) (r0 : Tree) : Prop := aT Tryz.prog 60 [.agg (aj p0), .agg (aj p1)] (.agg (aj r0))
def iQ (p0 : (List (Int × Int))) (p1 : (Int × Int)) (r0 : Bool) : Prop := d0 [0] Tryz.prog 28 [.sl 0, .agg [.int .i64 p1.1, .int .i64 p1.2]] ⟨1, [(0, .row 52 2 (List.map (fun x : Int × Int => V.agg [V.int .i64 x.1, V.int .i64 x.2]) p0))]⟩ (fun u G => u = .bool r0 ∧ G = ⟨1, [(0, .row 52 2 (List.map (fun x : Int × Int => V.agg [V.int .i64 x.1, V.int .i64 x.2]) p0))]⟩)
def eR (p0 : (List Tree)) (p1 : Int) (p2 : Tree) (r0 : Tree) (r1 : Int) : Prop := aT Tryz.prog 13 [.row 4 (kidsV p0), .int .i64 p1, .agg (aj p2)] (.tup [.agg (aj r0), .int .i64 r1])
def kJ (p0 : (List Tree)) (p1 : Int) (p2 : Tree) (r0 : Tree) (r1 : Int) : Prop := aT Tryz.prog 34 [.row 4 (kidsV p0), .int .i64 p1, .agg (aj p2)] (.tup [.agg (aj r0), .int .i64 r1])
def kQ (p0 : (List Tree)) (p1 : Int) (p2 : Tree) (p3 : Int) (p4 : Tree) (r0 : Bool) : Prop := aT Tryz.prog 17 [.row 4 (kidsV p0), .int .i64 p1, .agg (aj p2), .int .i64 p3, .agg (aj p4)] (.bool r0)
def ee (p0 : Tree) (r0 : Tree) : Prop := aT Tryz.prog 59 [.agg (aj p0)] (.agg (aj r0))
def cw (p0 : Tree) (p1 : Tree) (r0 : Bool) : Prop := aT Tryz.prog 14 [.agg (aj p0), .agg (aj p1)] (.bool r0)
def dV (p0 : Tree) (r0 : (List Tree)) : Prop := aT Tryz.prog 11 [.agg (aj p0)] (.row 4 (kidsV r0))
def ff (m : Nat) (t1v1 : Tree) (r0 : Tree) : Prop := ∀ (K : Ctx) (j1 : Nat), au K [] → m ≤ j1 → Go Tryz.prog K (bodyPost Tryz.prog Tryz.f26 (SP K (fun u _ => u = .agg (aj r0)))) (.code (cL (cK (cA (cB (ae Tryz.f26)))))) [.loop (cL (cK (cA (cB (ae Tryz.f26))))) j1, .blk 0, .seq (cB (cB (ae Tryz.f26)))] 11 (mkF 11 0 [(1, .ptr 0 0), (2, .ptr 1 0)]) ⟨2, [(1, .var 29 [.int .i64 0, .str [], .nils, .nils]), (0, .var 29 (aj t1v1))]⟩
theorem oI (m : Nat) (p0 : Tree) (r0 : Tree) (h : ff m p0 r0) : fJ p0 r0 := by
 refine ⟨rfl, rfl, ?_⟩
 refine ak 11 [] Tryz.func26 rfl rfl rfl (aC rfl) fun K hK => ?_
 refine gR 8 rfl ?_
 refine go_loop m ?_
 exact gJ (h K _ hK (by omega)) [0, 1] [] rfl hK ⟨⟨_, rfl, .rfl⟩, ⟨_, rfl, .rfl⟩, trivial⟩ ⟨⟨_, rfl, ⟨rfl, ah.rfl⟩⟩, ⟨⟨_, rfl, ⟨rfl, ah.rfl⟩⟩, trivial⟩⟩ rfl
theorem kA (m : Nat) (t1v1 : Tree) (r0 : Tree) (h : ((t1v1.kind = 8) → ∃ (t1_1 : Tree), t1v1.kids[0]? = some t1_1 ∧ ff m t1_1 r0) ∧ ((t1v1.kind ≠ 8) → t1v1 = r0)) : ff (m + 1) t1v1 r0 := by
 intro K j1 hK hj1
 obtain ⟨j1, rfl⟩ : ∃ j, j1 = j + 1 := ⟨j1 - 1, by omega⟩
 refine gR 8 rfl ?_
 refine gB 5 rfl rfl rfl (fun hd => ?_) (fun hd => ?_)
 replace hd := (eq_of_beq hd)
 replace h := h.1 hd
 refine gR 7 rfl ?_
 obtain ⟨t1_1, hxt1_1, h⟩ := h
 refine gY (aP (an hxt1_1) aa rfl rfl rfl rfl) rfl rfl ?_
 refine gR 4 rfl ?_
 refine aq ?_
 exact gJ (h K _ hK (by omega)) [0, 1] [] rfl hK ⟨⟨_, rfl, .rfl⟩, ⟨_, rfl, .rfl⟩, trivial⟩ ⟨⟨_, rfl, ⟨rfl, ah.rfl⟩⟩, ⟨⟨_, rfl, ⟨rfl, ah.rfl⟩⟩, trivial⟩⟩ rfl
 replace hd := (ne_of_beq_false hd)
 replace h := h.2 hd
 refine gR 3 rfl ?_
 refine av ?_
 refine gR 9 rfl ?_
 subst h
 refine ab (F' := (mkF 11 0 [(2, .ptr 0 0)])) (H' := ⟨1, [(0, .var 29 [.int .i64 t1v1.kind, .str t1v1.text, .row 1 (List.map V.str t1v1.leads), .row 4 (kidsV t1v1.kids)])]⟩) [1] [] rfl hK ⟨⟨_, rfl, .rfl⟩, trivial⟩ ⟨⟨_, rfl, ⟨rfl, ah.rfl⟩⟩, trivial⟩ rfl ?_
 exact ac aa (rs := [.cell 2 29]) rfl rfl rfl
theorem lT (m : Nat) (p0 : Tree) (p1 : Tree) (r0 : Tree) (h : ((p0.kind ≠ 8) → p1 = r0) ∧ ((p0.kind = 8) → ∃ (t0_1 : Tree), p0.kids[0]? = some t0_1 ∧ ∃ (t0_2 : Tree), gE t0_1 p1 t0_2 ∧ (Tree.node 8 [] [] [t0_2]) = r0)) : gE p0 p1 r0 := by
 refine ⟨rfl, rfl, ?_⟩
 refine ak 17 [] Tryz.func60 rfl rfl rfl (aC rfl) fun K hK => ?_
 refine gR 3 rfl ?_
 refine gFP 0 rfl rfl rfl rfl ?_
 refine gR 1 rfl ?_
 refine gFP 1 rfl rfl rfl rfl ?_
 refine gR 11 rfl ?_
 refine gB 7 rfl rfl rfl (fun hd => ?_) (fun hd => ?_)
 replace hd := (fb hd)
 replace h := h.1 hd
 refine gR 9 rfl ?_
 subst h
 refine ab (F' := (mkF 17 0 [(4, .ptr 0 0)])) (H' := ⟨1, [(0, .var 29 [.int .i64 p1.kind, .str p1.text, .row 1 (List.map V.str p1.leads), .row 4 (kidsV p1.kids)])]⟩) [2] [] rfl hK ⟨⟨_, rfl, .rfl⟩, trivial⟩ ⟨⟨_, rfl, ⟨rfl, ah.rfl⟩⟩, trivial⟩ rfl ?_
 exact ac aa (rs := [.cell 4 29]) rfl rfl rfl
 replace hd := (dC hd)
 replace h := h.2 hd
 refine gR 4 rfl ?_
 refine gDs [] 8 9 rfl (by kernel_rfl) (by kernel_rfl) ?_
 refine gDr [(0, 2), (1, 2)] (by kernel_rfl) rfl rfl ?_
 obtain ⟨t0_1, hxt0_1, h⟩ := h
 refine gYd 2 rfl (by kernel_rfl) (aP (an hxt0_1) aa rfl rfl rfl rfl) rfl rfl ?_
 refine gDr [(3, 2), (4, 0)] (by kernel_rfl) rfl rfl ?_
 obtain ⟨t0_2, hs2, h⟩ := h
 refine bH 5 hs2 (by kernel_rfl) rfl (by kernel_rfl) rfl rfl .rfl rfl rfl ?_
 refine gDr [(6, 0)] (by kernel_rfl) rfl rfl ?_
 refine gHR 3 (kidsV [t0_2]) rfl (iU t0_2) rfl ?_
 refine gDr [(7, 0), (8, 1)] (by kernel_rfl) rfl rfl ?_
 refine gDe (by kernel_rfl) ?_
 refine gR 2 rfl ?_
 refine gFR 3 rfl (cj _) rfl rfl ?_
 subst h
 refine ab (F' := (mkF 17 0 [(4, .ptr 0 0)])) (H' := ⟨1, [(0, .var 29 [.int .i64 ((Tree.node 8 [] [] [t0_2]).kind), .str ((Tree.node 8 [] [] [t0_2]).text), .row 1 (List.map V.str ((Tree.node 8 [] [] [t0_2]).leads)), .row 4 (kidsV ((Tree.node 8 [] [] [t0_2]).kids))])]⟩) [2] [] rfl hK ⟨⟨_, rfl, .rfl⟩, trivial⟩ ⟨⟨_, rfl, ⟨rfl, (.cons .rfl (.cons .rfl (.cons (.nil 1) (.cons .rfl .nil))))⟩⟩, trivial⟩ rfl ?_
 exact ac aa (rs := [.cell 4 29]) rfl rfl rfl
def fF (m : Nat) (p0 : (List (Int × Int))) (p1 : (Int × Int)) (i1v1 : Nat) (r0 : Bool) : Prop := ∀ (K : Ctx) (j1 : Nat), au K [0] → m ≤ j1 → Go Tryz.prog K (bodyPost Tryz.prog Tryz.f28 (SP K (fun u G => u = .bool r0 ∧ G = ⟨1, [(0, .row 52 2 (List.map (fun x : Int × Int => V.agg [V.int .i64 x.1, V.int .i64 x.2]) p0))]⟩))) (.code (cL (cK (cB (cA (cB (ae Tryz.f28))))))) [.loop (cL (cK (cB (cA (cB (ae Tryz.f28)))))) j1, .blk 0, .seq (cB (cB (ae Tryz.f28)))] 18 (mkF 18 0 [(0, .sl 0), (3, .box [.int .i64 p1.1, .int .i64 p1.2] 0), (5, .int .i64 ((i1v1 : Nat) : Int))]) ⟨1, [(0, .row 52 2 (List.map (fun x : Int × Int => V.agg [V.int .i64 x.1, V.int .i64 x.2]) p0))]⟩
theorem oW (m : Nat) (p0 : (List (Int × Int))) (p1 : (Int × Int)) (r0 : Bool) (h : fF m p0 p1 0 r0) : iQ p0 p1 r0 := by
 refine ak 18 [0] Tryz.func28 rfl rfl rfl (aC rfl) fun K hK => ?_
 refine gR 3 rfl ?_
 refine gFP 1 rfl rfl rfl rfl ?_
 refine gR 10 rfl ?_
 refine go_loop m ?_
 exact gJ (h K _ hK (by omega)) [0] [0] rfl hK ⟨⟨_, rfl, .rfl⟩, ⟨_, rfl, .rfl⟩, ⟨_, rfl, .rfl⟩, trivial⟩ ⟨⟨_, rfl, ⟨rfl, rfl, (am _ (fun x : Int × Int => V.agg [V.int .i64 x.1, V.int .i64 x.2]) (fun _ => rfl) p0).symm⟩⟩, trivial⟩ rfl
theorem kS (m : Nat) (p0 : (List (Int × Int))) (p1 : (Int × Int)) (i1v1 : Nat) (r0 : Bool) (h : ((i1v1 < p0.length) → ∃ (x1_1 : (Int × Int)), p0[i1v1]? = some x1_1 ∧ ((x1_1.1 = p1.1 ∧ x1_1.2 = p1.2) → true = r0) ∧ ((¬ (x1_1.1 = p1.1 ∧ x1_1.2 = p1.2)) → fF m p0 p1 (i1v1 + 1) r0)) ∧ ((¬ i1v1 < p0.length) → false = r0)) : fF (m + 1) p0 p1 i1v1 r0 := by
 intro K j1 hK hj1
 obtain ⟨j1, rfl⟩ : ∃ j, j1 = j + 1 := ⟨j1 - 1, by omega⟩
 refine gR 6 rfl ?_
 refine gV 8 (.int .i64 ((p0.length : Nat) : Int)) rfl (be (aV (fun x : Int × Int => V.agg [V.int .i64 x.1, V.int .i64 x.2]) _)) rfl ?_
 refine gLO 0 rfl (aV (fun x : Int × Int => V.agg [V.int .i64 x.1, V.int .i64 x.2]) _) fun hl3 => ?_
 refine gR 3 rfl ?_
 refine gB 9 rfl rfl rfl (fun hd => ?_) (fun hd => ?_)
 replace hd := (cO hd)
 replace h := h.1 hd
 refine gR 6 rfl ?_
 refine gDs [0] 5 6 rfl (by kernel_rfl) (by kernel_rfl) ?_
 refine gDr [(0, 2), (1, 2)] (by kernel_rfl) rfl rfl ?_
 obtain ⟨x1_1, hxx1_1, h⟩ := h
 refine gYd 2 rfl (by kernel_rfl) (yIO aa rfl rfl rfl rfl (by have := (mapget (f := (fun x : Int × Int => V.agg [V.int .i64 x.1, V.int .i64 x.2])) hxx1_1); exact (List.getElem?_eq_some_iff.1 this).1)) rfl rfl ?_
 refine Cb 3 rfl (by kernel_rfl) rfl aa rfl rfl rfl (mapget (f := (fun x : Int × Int => V.agg [V.int .i64 x.1, V.int .i64 x.2])) hxx1_1) rfl rfl ?_
 refine gDr [(4, 0)] (by kernel_rfl) rfl rfl ?_
 refine dh (v := .bool (x1_1.1 == p1.1 && x1_1.2 == p1.2)) 5 rfl (by kernel_rfl) (B8 (neg := false) Tryz.underlying52 Tryz.underlying3 (by kernel_rfl) (by kernel_rfl) (by kernel_rfl) rfl rfl) rfl rfl ?_
 refine gDe (by kernel_rfl) ?_
 refine gR 1 rfl ?_
 refine gB 17 rfl rfl rfl (fun hd => ?_) (fun hd => ?_)
 replace hd := (A1 hd)
 replace h := h.1 hd
 refine gR 9 rfl ?_
 refine aF ?_
 refine gR 2 rfl ?_
 subst h
 refine ab (F' := (mkF 18 0 [(4, .bool true)])) (H' := ⟨1, [(0, .row 52 2 (List.map (fun x : Int × Int => V.agg [V.int .i64 x.1, V.int .i64 x.2]) p0))]⟩) [0] [0] rfl hK ⟨⟨_, rfl, .rfl⟩, trivial⟩ ⟨⟨_, rfl, ⟨rfl, rfl, (am _ (fun x : Int × Int => V.agg [V.int .i64 x.1, V.int .i64 x.2]) (fun _ => rfl) p0).symm⟩⟩, trivial⟩ rfl ?_
 exact aB [] aa (rs := [.tmp 4]) rfl rfl ⟨rfl, rfl⟩
 replace hd := (Bg hd)
 replace h := h.2 hd
 refine gR 7 rfl ?_
 refine gV 11 (.int .i64 ((i1v1 + 1 : Nat) : Int)) rfl (ar (by have := hl3; omega) (by omega)) rfl ?_
 refine gR 2 rfl ?_
 refine aq ?_
 exact gJ (h K _ hK (by omega)) [0] [0] rfl hK ⟨⟨_, rfl, .rfl⟩, ⟨_, rfl, .rfl⟩, ⟨_, rfl, .rfl⟩, trivial⟩ ⟨⟨_, rfl, ⟨rfl, rfl, (am _ (fun x : Int × Int => V.agg [V.int .i64 x.1, V.int .i64 x.2]) (fun _ => rfl) p0).symm⟩⟩, trivial⟩ rfl
 replace hd := (cP hd)
 replace h := h.2 hd
 refine gR 3 rfl ?_
 refine av ?_
 refine gR 8 rfl ?_
 subst h
 refine ab (F' := (mkF 18 0 [(4, .bool false)])) (H' := ⟨1, [(0, .row 52 2 (List.map (fun x : Int × Int => V.agg [V.int .i64 x.1, V.int .i64 x.2]) p0))]⟩) [0] [0] rfl hK ⟨⟨_, rfl, .rfl⟩, trivial⟩ ⟨⟨_, rfl, ⟨rfl, rfl, (am _ (fun x : Int × Int => V.agg [V.int .i64 x.1, V.int .i64 x.2]) (fun _ => rfl) p0).symm⟩⟩, trivial⟩ rfl ?_
 exact aB [] aa (rs := [.tmp 4]) rfl rfl ⟨rfl, rfl⟩
theorem jO (m : Nat) (p0 : (List Tree)) (p1 : Int) (p2 : Tree) (r0 : Tree) (r1 : Int) (h : ∃ (b0_1 : Bool), eu p0 b0_1 ∧ ((b0_1 = false) → (Tree.node 0 [] [] []) = r0 ∧ 5 = r1) ∧ ((b0_1 = true) → ((p1 < 0) → (Tree.node 0 [] [] []) = r0 ∧ 5 = r1) ∧ ((¬ p1 < 0) → ((((p0.length : Nat) : Int) ≤ p1) → (Tree.node 0 [] [] []) = r0 ∧ 5 = r1) ∧ ((¬ ((p0.length : Nat) : Int) ≤ p1) → ∃ (b0_2 : Bool), dB p2.kind b0_2 ∧ ((b0_2 = false) → (Tree.node 0 [] [] []) = r0 ∧ 5 = r1) ∧ ((b0_2 = true) → ∃ (b0_3 : Bool), ch p2 b0_3 ∧ ((b0_3 = false) → (Tree.node 0 [] [] []) = r0 ∧ 5 = r1) ∧ ((b0_3 = true) → ∃ (t0_4 : Tree), ∃ (n0_5 : Int), kJ p0 p1 p2 t0_4 n0_5 ∧ t0_4 = r0 ∧ n0_5 = r1)))))) : eR p0 p1 p2 r0 r1 := by
 refine ⟨rfl, rfl, ?_⟩
 refine ak 39 [] Tryz.func13 rfl rfl rfl (aC rfl) fun K hK => ?_
 refine gR 3 rfl ?_
 refine gFP 0 rfl rfl rfl rfl ?_
 refine gR 8 rfl ?_
 obtain ⟨b0_1, hs6, h⟩ := h
 refine gC0 hs6 (by kernel_rfl) rfl rfl .rfl rfl ?_
 refine gR 2 rfl ?_
 refine gB 11 rfl rfl rfl (fun hd => ?_) (fun hd => ?_)
 refine gT 10 rfl hd rfl ?_
 replace hd := (bP hd)
 replace h := h.1 hd
 refine gR 32 rfl ?_
 obtain ⟨rfl, rfl⟩ := h
 refine ab (F' := (mkF 39 0 [(6, .ptr 0 0), (7, .int .i64 5)])) (H' := ⟨1, [(0, .var 29 [.int .i64 ((Tree.node 0 [] [] []).kind), .str ((Tree.node 0 [] [] []).text), .row 1 (List.map V.str ((Tree.node 0 [] [] []).leads)), .row 4 (kidsV ((Tree.node 0 [] [] []).kids))])]⟩) [1] [] rfl hK ⟨⟨_, rfl, .rfl⟩, ⟨_, rfl, .rfl⟩, trivial⟩ ⟨⟨_, rfl, ⟨rfl, (.cons .rfl (.cons .rfl (.cons (.nil 1) (.cons (.nil 4) .nil))))⟩⟩, trivial⟩ rfl ?_
 exact ac aa (rs := [.cell 6 29, .tmp 7]) rfl rfl rfl
 refine gF 10 rfl hd rfl ?_
 replace hd := (bO hd)
 replace h := h.2 hd
 refine gR 4 rfl ?_
 refine gB 15 rfl rfl rfl (fun hd => ?_) (fun hd => ?_)
 refine gT 14 rfl hd rfl ?_
 replace hd := (of_decide_eq_true hd)
 replace h := h.1 hd
 refine gR 28 rfl ?_
 obtain ⟨rfl, rfl⟩ := h
 refine ab (F' := (mkF 39 0 [(6, .ptr 0 0), (7, .int .i64 5)])) (H' := ⟨1, [(0, .var 29 [.int .i64 ((Tree.node 0 [] [] []).kind), .str ((Tree.node 0 [] [] []).text), .row 1 (List.map V.str ((Tree.node 0 [] [] []).leads)), .row 4 (kidsV ((Tree.node 0 [] [] []).kids))])]⟩) [1] [] rfl hK ⟨⟨_, rfl, .rfl⟩, ⟨_, rfl, .rfl⟩, trivial⟩ ⟨⟨_, rfl, ⟨rfl, (.cons .rfl (.cons .rfl (.cons (.nil 1) (.cons (.nil 4) .nil))))⟩⟩, trivial⟩ rfl ?_
 exact ac aa (rs := [.cell 6 29, .tmp 7]) rfl rfl rfl
 refine gF 14 rfl hd rfl ?_
 replace hd := (of_decide_eq_false hd)
 replace h := h.2 hd
 refine gR 3 rfl ?_
 refine gV 18 (.int .i64 ((p0.length : Nat) : Int)) rfl (be (aH _)) rfl ?_
 refine gLB 17 rfl (aH _) fun hl7 => ?_
 refine gR 3 rfl ?_
 refine gB 21 rfl rfl rfl (fun hd => ?_) (fun hd => ?_)
 refine gT 20 rfl hd rfl ?_
 replace hd := (of_decide_eq_true hd)
 replace h := h.1 hd
 refine gR 22 rfl ?_
 obtain ⟨rfl, rfl⟩ := h
 refine ab (F' := (mkF 39 0 [(6, .ptr 0 0), (7, .int .i64 5)])) (H' := ⟨1, [(0, .var 29 [.int .i64 ((Tree.node 0 [] [] []).kind), .str ((Tree.node 0 [] [] []).text), .row 1 (List.map V.str ((Tree.node 0 [] [] []).leads)), .row 4 (kidsV ((Tree.node 0 [] [] []).kids))])]⟩) [1] [] rfl hK ⟨⟨_, rfl, .rfl⟩, ⟨_, rfl, .rfl⟩, trivial⟩ ⟨⟨_, rfl, ⟨rfl, (.cons .rfl (.cons .rfl (.cons (.nil 1) (.cons (.nil 4) .nil))))⟩⟩, trivial⟩ rfl ?_
 exact ac aa (rs := [.cell 6 29, .tmp 7]) rfl rfl rfl
 refine gF 20 rfl hd rfl ?_
 replace hd := (of_decide_eq_false hd)
 replace h := h.2 hd
 refine gR 2 rfl ?_
 obtain ⟨b0_2, hs8, h⟩ := h
 refine gC0 hs8 (by kernel_rfl) rfl rfl .rfl rfl ?_
 refine gR 3 rfl ?_
 refine gB 27 rfl rfl rfl (fun hd => ?_) (fun hd => ?_)
 refine gT 26 rfl hd rfl ?_
 replace hd := (bP hd)
 replace h := h.1 hd
 refine gR 16 rfl ?_
 obtain ⟨rfl, rfl⟩ := h
 refine ab (F' := (mkF 39 0 [(6, .ptr 0 0), (7, .int .i64 5)])) (H' := ⟨1, [(0, .var 29 [.int .i64 ((Tree.node 0 [] [] []).kind), .str ((Tree.node 0 [] [] []).text), .row 1 (List.map V.str ((Tree.node 0 [] [] []).leads)), .row 4 (kidsV ((Tree.node 0 [] [] []).kids))])]⟩) [1] [] rfl hK ⟨⟨_, rfl, .rfl⟩, ⟨_, rfl, .rfl⟩, trivial⟩ ⟨⟨_, rfl, ⟨rfl, (.cons .rfl (.cons .rfl (.cons (.nil 1) (.cons (.nil 4) .nil))))⟩⟩, trivial⟩ rfl ?_
 exact ac aa (rs := [.cell 6 29, .tmp 7]) rfl rfl rfl
 refine gF 26 rfl hd rfl ?_
 replace hd := (bO hd)
 replace h := h.2 hd
 refine gR 1 rfl ?_
 obtain ⟨b0_3, hs9, h⟩ := h
 refine gC0 hs9 (by kernel_rfl) rfl rfl .rfl rfl ?_
 refine gR 4 rfl ?_
 refine gB 31 rfl rfl rfl (fun hd => ?_) (fun hd => ?_)
 replace hd := (bP hd)
 replace h := h.1 hd
 refine gR 10 rfl ?_
 obtain ⟨rfl, rfl⟩ := h
 refine ab (F' := (mkF 39 0 [(6, .ptr 0 0), (7, .int .i64 5)])) (H' := ⟨1, [(0, .var 29 [.int .i64 ((Tree.node 0 [] [] []).kind), .str ((Tree.node 0 [] [] []).text), .row 1 (List.map V.str ((Tree.node 0 [] [] []).leads)), .row 4 (kidsV ((Tree.node 0 [] [] []).kids))])]⟩) [1] [] rfl hK ⟨⟨_, rfl, .rfl⟩, ⟨_, rfl, .rfl⟩, trivial⟩ ⟨⟨_, rfl, ⟨rfl, (.cons .rfl (.cons .rfl (.cons (.nil 1) (.cons (.nil 4) .nil))))⟩⟩, trivial⟩ rfl ?_
 exact ac aa (rs := [.cell 6 29, .tmp 7]) rfl rfl rfl
 replace hd := (bO hd)
 replace h := h.2 hd
 refine gR 8 rfl ?_
 obtain ⟨t0_4, n0_5, hs10, h⟩ := h
 refine gC0 hs10 (by kernel_rfl) rfl rfl .rfl rfl ?_
 refine gR 7 rfl ?_
 obtain ⟨rfl, rfl⟩ := h
 refine ab (F' := (mkF 39 0 [(6, .ptr 0 0), (7, .int .i64 n0_5)])) (H' := ⟨1, [(0, .var 29 [.int .i64 t0_4.kind, .str t0_4.text, .row 1 (List.map V.str t0_4.leads), .row 4 (kidsV t0_4.kids)])]⟩) [1] [] rfl hK ⟨⟨_, rfl, .rfl⟩, ⟨_, rfl, .rfl⟩, trivial⟩ ⟨⟨_, rfl, ⟨rfl, ah.rfl⟩⟩, trivial⟩ rfl ?_
 exact ac aa (rs := [.cell 6 29, .tmp 7]) rfl rfl rfl
def eO (m : Nat) (p0 : (List Tree)) (z1v1 : Int) (t1v2 : Tree) (l1v3 : (List (Int × Int))) (r0 : Tree) (r1 : Int) : Prop := ∀ (K : Ctx) (j1 : Nat), au K [] → m ≤ j1 → Go Tryz.prog K (bodyPost Tryz.prog Tryz.f34 (SP K (fun u _ => u = .tup [.agg (aj r0), .int .i64 r1]))) (.code (cL (cK (cA (cB (cB (cB (ae Tryz.f34)))))))) [.loop (cL (cK (cA (cB (cB (cB (ae Tryz.f34))))))) j1, .blk 0, .seq (cB (cB (cB (cB (ae Tryz.f34)))))] 62 (mkF 62 0 [(0, .row 4 (kidsV p0)), (1, .int .i64 z1v1), (6, .ptr 0 0), (8, .ptr 1 0), (9, .sl 2)]) ⟨3, [(2, .row 52 2 (List.map (fun x : Int × Int => V.agg [V.int .i64 x.1, V.int .i64 x.2]) l1v3)), (1, .var 29 (aj t1v2)), (0, .var 29 [.int .i64 0, .str [], .nils, .nils])]⟩
theorem om (m : Nat) (p0 : (List Tree)) (p1 : Int) (p2 : Tree) (r0 : Tree) (r1 : Int) (h : ∃ (t0_1 : Tree), ee p2 t0_1 ∧ eO m p0 p1 t0_1 ([] : List (Int × Int)) r0 r1) : kJ p0 p1 p2 r0 r1 := by
 refine ⟨rfl, rfl, ?_⟩
 refine ak 62 [] Tryz.func34 rfl rfl rfl (aC rfl) fun K hK => ?_
 refine gR 3 rfl ?_
 refine gFP 0 rfl rfl rfl rfl ?_
 refine gR 7 rfl ?_
 obtain ⟨t0_1, hs15, h⟩ := h
 refine gC0 hs15 (by kernel_rfl) rfl rfl .rfl rfl ?_
 refine gR 11 rfl ?_
 refine go_loop m ?_
 refine gNS 9 52 2 rfl rfl rfl rfl ?_
 exact gJ (h K _ hK (by omega)) [1, 2, 3] [] rfl hK ⟨⟨_, rfl, .rfl⟩, ⟨_, rfl, .rfl⟩, ⟨_, rfl, .rfl⟩, ⟨_, rfl, .rfl⟩, ⟨_, rfl, .rfl⟩, trivial⟩ ⟨⟨_, rfl, ⟨rfl, rfl, rfl⟩⟩, ⟨⟨_, rfl, ⟨rfl, ah.rfl⟩⟩, ⟨⟨_, rfl, ⟨rfl, ah.rfl⟩⟩, trivial⟩⟩⟩ rfl
theorem eo (m : Nat) (p0 : (List Tree)) (z1v1 : Int) (t1v2 : Tree) (l1v3 : (List (Int × Int))) (r0 : Tree) (r1 : Int) (h : ∃ (t1_1 : Tree), fJ t1v2 t1_1 ∧ ((t1_1.kind = 9) → ∃ (t1_2 : Tree), fJ t1v2 t1_2 ∧ ∃ (n1_3 : Int), ∃ (n1_4 : Int), ∃ (b1_5 : Bool), iu p0 z1v1 t1_2.text n1_3 n1_4 b1_5 ∧ ((b1_5 = false) → (Tree.node 0 [] [] []) = r0 ∧ 7 = r1) ∧ ((b1_5 = true) → ∃ (b1_6 : Bool), iQ l1v3 (n1_3, n1_4) b1_6 ∧ ((b1_6 = true) → (Tree.node 0 [] [] []) = r0 ∧ 19 = r1) ∧ ((b1_6 = false) → (l1v3 ++ [(n1_3, n1_4)]).length ≤ 1000000000 ∧ ∃ (k1_7 : Nat), n1_3 = ((k1_7 : Nat) : Int) ∧ ∃ (t1_8 : Tree), p0[k1_7]? = some t1_8 ∧ ∃ (k1_9 : Nat), n1_4 = ((k1_9 : Nat) : Int) ∧ ∃ (t1_10 : Tree), t1_8.kids[k1_9]? = some t1_10 ∧ ∃ (t1_11 : Tree), t1_10.kids[0]? = some t1_11 ∧ ∃ (t1_12 : Tree), ee t1_11 t1_12 ∧ ∃ (t1_13 : Tree), gE t1v2 t1_12 t1_13 ∧ eO m p0 n1_3 t1_13 (l1v3 ++ [(n1_3, n1_4)]) r0 r1))) ∧ ((t1_1.kind ≠ 9) → t1v2 = r0 ∧ 0 = r1)) : eO (m + 1) p0 z1v1 t1v2 l1v3 r0 r1 := by
 intro K j1 hK hj1
 obtain ⟨j1, rfl⟩ : ∃ j, j1 = j + 1 := ⟨j1 - 1, by omega⟩
 refine gR 4 rfl ?_
 obtain ⟨t1_1, hs16, h⟩ := h
 refine gC0 hs16 (by kernel_rfl) rfl rfl .rfl rfl ?_
 refine gR 4 rfl ?_
 refine gB 18 rfl rfl rfl (fun hd => ?_) (fun hd => ?_)
 replace hd := (eq_of_beq hd)
 replace h := h.1 hd
 refine gR 9 rfl ?_
 obtain ⟨t1_2, hs17, h⟩ := h
 refine gC0 hs17 (by kernel_rfl) rfl rfl .rfl rfl ?_
 refine gR 1 rfl ?_
 obtain ⟨n1_3, n1_4, b1_5, hs18, h⟩ := h
 refine gC0 hs18 (by kernel_rfl) rfl rfl .rfl rfl ?_
 refine gR 18 rfl ?_
 refine gB 29 rfl rfl rfl (fun hd => ?_) (fun hd => ?_)
 refine gT 31 rfl hd rfl ?_
 replace hd := (bP hd)
 replace h := h.1 hd
 refine gR 12 rfl ?_
 refine aF ?_
 refine gR 2 rfl ?_
 obtain ⟨rfl, rfl⟩ := h
 refine ab (F' := (mkF 62 0 [(6, .ptr 0 0), (7, .int .i64 7)])) (H' := ⟨1, [(0, .var 29 [.int .i64 ((Tree.node 0 [] [] []).kind), .str ((Tree.node 0 [] [] []).text), .row 1 (List.map V.str ((Tree.node 0 [] [] []).leads)), .row 4 (kidsV ((Tree.node 0 [] [] []).kids))])]⟩) [0] [] rfl hK ⟨⟨_, rfl, .rfl⟩, ⟨_, rfl, .rfl⟩, trivial⟩ ⟨⟨_, rfl, ⟨rfl, (.cons .rfl (.cons .rfl (.cons (.nil 1) (.cons (.nil 4) .nil))))⟩⟩, trivial⟩ rfl ?_
 exact ac aa (rs := [.cell 6 29, .tmp 7]) rfl rfl rfl
 refine gF 31 rfl hd rfl ?_
 replace hd := (bO hd)
 replace h := h.2 hd
 refine gR 7 rfl ?_
 obtain ⟨b1_6, hs19, h⟩ := h
 refine gC hs19 [2] (by kernel_rfl) rfl rfl .rfl ⟨⟨_, rfl, ⟨rfl, rfl, (am _ (fun x : Int × Int => V.agg [V.int .i64 x.1, V.int .i64 x.2]) (fun _ => rfl) l1v3).symm⟩⟩, trivial⟩ rfl ?_
 rintro _ _ ⟨rfl, rfl⟩
 refine gHR 2 (List.map (fun x : Int × Int => V.agg [V.int .i64 x.1, V.int .i64 x.2]) l1v3) rfl (am _ (fun x : Int × Int => V.agg [V.int .i64 x.1, V.int .i64 x.2]) (fun _ => rfl) l1v3) rfl ?_
 refine gR 3 rfl ?_
 refine gB 33 rfl rfl rfl (fun hd => ?_) (fun hd => ?_)
 refine gT 38 rfl hd rfl ?_
 replace h := h.1 hd
 refine gR 12 rfl ?_
 refine aF ?_
 refine gR 2 rfl ?_
 obtain ⟨rfl, rfl⟩ := h
 refine ab (F' := (mkF 62 0 [(6, .ptr 0 0), (7, .int .i64 19)])) (H' := ⟨1, [(0, .var 29 [.int .i64 ((Tree.node 0 [] [] []).kind), .str ((Tree.node 0 [] [] []).text), .row 1 (List.map V.str ((Tree.node 0 [] [] []).leads)), .row 4 (kidsV ((Tree.node 0 [] [] []).kids))])]⟩) [0] [] rfl hK ⟨⟨_, rfl, .rfl⟩, ⟨_, rfl, .rfl⟩, trivial⟩ ⟨⟨_, rfl, ⟨rfl, (.cons .rfl (.cons .rfl (.cons (.nil 1) (.cons (.nil 4) .nil))))⟩⟩, trivial⟩ rfl ?_
 exact ac aa (rs := [.cell 6 29, .tmp 7]) rfl rfl rfl
 refine gF 38 rfl hd rfl ?_
 replace h := h.2 hd
 refine gR 11 rfl ?_
 obtain ⟨hb, h⟩ := h
 refine gDo (.repl 2 (.row 52 2 (List.map (fun x : Int × Int => V.agg [V.int .i64 x.1, V.int .i64 x.2]) (l1v3 ++ [(n1_3, n1_4)])))) (bL aa rfl rfl rfl rfl rfl (apM (fun x : Int × Int => V.agg [V.int .i64 x.1, V.int .i64 x.2]) l1v3 (n1_3, n1_4)) (by rw [aV]; exact hb)) (okR rfl) rfl rfl rfl ?_
 refine gR 4 rfl ?_
 refine gDs [1] 14 15 rfl (by kernel_rfl) (by kernel_rfl) ?_
 refine gDr [(0, 3), (1, 2), (2, 2)] (by kernel_rfl) rfl rfl ?_
 obtain ⟨k1_7, ek1_7, h⟩ := h
 refine gV 48 (.int .i64 ((k1_7 : Nat) : Int)) rfl (dw ek1_7) rfl ?_
 obtain ⟨t1_8, hxt1_8, h⟩ := h
 refine gYd 3 rfl (by kernel_rfl) (aP (an hxt1_8) aa rfl rfl rfl rfl) rfl rfl ?_
 refine gDr [(4, 2), (5, 2), (6, 0)] (by kernel_rfl) rfl rfl ?_
 obtain ⟨k1_9, ek1_9, h⟩ := h
 refine gV 52 (.int .i64 ((k1_9 : Nat) : Int)) rfl (dw ek1_9) rfl ?_
 obtain ⟨t1_10, hxt1_10, h⟩ := h
 refine dh 7 rfl (by kernel_rfl) (aP (an hxt1_10) aa rfl rfl rfl rfl) rfl rfl ?_
 refine gDr [(8, 0), (9, 0)] (by kernel_rfl) rfl rfl ?_
 obtain ⟨t1_11, hxt1_11, h⟩ := h
 refine dh 10 rfl (by kernel_rfl) (aP (an hxt1_11) aa rfl rfl rfl rfl) rfl rfl ?_
 refine gDr [(11, 0)] (by kernel_rfl) rfl rfl ?_
 obtain ⟨t1_12, hs20, h⟩ := h
 refine bH 12 hs20 (by kernel_rfl) rfl (by kernel_rfl) rfl rfl .rfl rfl rfl ?_
 obtain ⟨t1_13, hs21, h⟩ := h
 refine bH 13 hs21 (by kernel_rfl) rfl (by kernel_rfl) rfl rfl .rfl rfl rfl ?_
 refine gDr [(14, 1)] (by kernel_rfl) rfl rfl ?_
 refine gDe (by kernel_rfl) ?_
 refine gR 6 rfl ?_
 refine aq ?_
 exact gJ (h K _ hK (by omega)) [0, 1, 5] [] rfl hK ⟨⟨_, rfl, .rfl⟩, ⟨_, rfl, .rfl⟩, ⟨_, rfl, .rfl⟩, ⟨_, rfl, .rfl⟩, ⟨_, rfl, .rfl⟩, trivial⟩ ⟨⟨_, rfl, ⟨rfl, rfl, (am _ (fun x : Int × Int => V.agg [V.int .i64 x.1, V.int .i64 x.2]) (fun _ => rfl) (l1v3 ++ [(n1_3, n1_4)])).symm⟩⟩, ⟨⟨_, rfl, ⟨rfl, ah.rfl⟩⟩, ⟨⟨_, rfl, ⟨rfl, ah.rfl⟩⟩, trivial⟩⟩⟩ rfl
 replace hd := (ne_of_beq_false hd)
 replace h := h.2 hd
 refine gR 3 rfl ?_
 refine av ?_
 refine gR 10 rfl ?_
 obtain ⟨rfl, rfl⟩ := h
 refine ab (F' := (mkF 62 0 [(6, .ptr 0 0), (7, .int .i64 0)])) (H' := ⟨1, [(0, .var 29 [.int .i64 t1v2.kind, .str t1v2.text, .row 1 (List.map V.str t1v2.leads), .row 4 (kidsV t1v2.kids)])]⟩) [0] [] rfl hK ⟨⟨_, rfl, .rfl⟩, ⟨_, rfl, .rfl⟩, trivial⟩ ⟨⟨_, rfl, ⟨rfl, ah.rfl⟩⟩, trivial⟩ rfl ?_
 exact ac aa (rs := [.cell 6 29, .tmp 7]) rfl rfl rfl
theorem gu (m : Nat) (p0 : (List Tree)) (p1 : Int) (p2 : Tree) (p3 : Int) (p4 : Tree) (r0 : Bool) (h : ∃ (t0_1 : Tree), ∃ (n0_2 : Int), eR p0 p1 p2 t0_1 n0_2 ∧ ∃ (t0_3 : Tree), ∃ (n0_4 : Int), eR p0 p3 p4 t0_3 n0_4 ∧ ((n0_2 = 0) → ((n0_4 = 0) → ∃ (b0_5 : Bool), cw t0_1 t0_3 b0_5 ∧ b0_5 = r0) ∧ ((n0_4 ≠ 0) → false = r0)) ∧ ((n0_2 ≠ 0) → false = r0)) : kQ p0 p1 p2 p3 p4 r0 := by
 refine ⟨rfl, rfl, ?_⟩
 refine ak 40 [] Tryz.func17 rfl rfl rfl (aC rfl) fun K hK => ?_
 refine gR 3 rfl ?_
 refine gFP 0 rfl rfl rfl rfl ?_
 refine gR 1 rfl ?_
 refine gFP 1 rfl rfl rfl rfl ?_
 refine gR 8 rfl ?_
 obtain ⟨t0_1, n0_2, hs4, h⟩ := h
 refine gC0 hs4 (by kernel_rfl) rfl rfl .rfl rfl ?_
 refine gR 13 rfl ?_
 obtain ⟨t0_3, n0_4, hs5, h⟩ := h
 refine gC0 hs5 (by kernel_rfl) rfl rfl .rfl rfl ?_
 refine gR 13 rfl ?_
 refine gB 31 rfl rfl rfl (fun hd => ?_) (fun hd => ?_)
 refine gT 30 rfl hd rfl ?_
 replace hd := (eq_of_beq hd)
 replace h := h.1 hd
 refine gR 4 rfl ?_
 refine gB 35 rfl rfl rfl (fun hd => ?_) (fun hd => ?_)
 refine gT 34 rfl hd rfl ?_
 replace hd := (eq_of_beq hd)
 replace h := h.1 hd
 refine gR 2 rfl ?_
 obtain ⟨b0_5, hs6, h⟩ := h
 refine gC0 hs6 (by kernel_rfl) rfl rfl .rfl rfl ?_
 refine gR 5 rfl ?_
 subst h
 refine ab (F' := (mkF 40 0 [(10, .bool b0_5)])) (H' := ⟨0, []⟩) [] [] rfl hK ⟨⟨_, rfl, .rfl⟩, trivial⟩ trivial rfl ?_
 exact ac aa (rs := [.tmp 10]) rfl rfl rfl
 refine gF 34 rfl hd rfl ?_
 replace hd := (ne_of_beq_false hd)
 replace h := h.2 hd
 refine gR 8 rfl ?_
 subst h
 refine ab (F' := (mkF 40 0 [(10, .bool false)])) (H' := ⟨0, []⟩) [] [] rfl hK ⟨⟨_, rfl, .rfl⟩, trivial⟩ trivial rfl ?_
 exact ac aa (rs := [.tmp 10]) rfl rfl rfl
 refine gF 30 rfl hd rfl ?_
 replace hd := (ne_of_beq_false hd)
 replace h := h.2 hd
 refine gR 12 rfl ?_
 subst h
 refine ab (F' := (mkF 40 0 [(10, .bool false)])) (H' := ⟨0, []⟩) [] [] rfl hK ⟨⟨_, rfl, .rfl⟩, trivial⟩ trivial rfl ?_
 exact ac aa (rs := [.tmp 10]) rfl rfl rfl
def fp (m : Nat) (p0 : Tree) (l1v1 : (List Tree)) (i1v2 : Nat) (r0 : Tree) : Prop := ∀ (K : Ctx) (j1 : Nat), au K [] → m ≤ j1 → Go Tryz.prog K (bodyPost Tryz.prog Tryz.f59 (SP K (fun u _ => u = .agg (aj r0)))) (.code (cL (cK (cB (cA (cB (cB (ae Tryz.f59)))))))) [.loop (cL (cK (cB (cA (cB (cB (ae Tryz.f59))))))) j1, .blk 0, .seq (cB (cB (cB (ae Tryz.f59))))] 29 (mkF 29 0 [(1, .box (aj p0) 0), (2, .ptr 0 0), (3, .ptr 1 0), (4, .int .i64 ((i1v2 : Nat) : Int))]) ⟨3, [(2, .row 29 4 (kidsV l1v1)), (1, .var 29 [.int .i64 p0.kind, .str p0.text, .nils, .sl 2]), (0, .var 29 [.int .i64 0, .str [], .nils, .nils])]⟩
theorem oH (m : Nat) (p0 : Tree) (r0 : Tree) (h : fp m p0 ([] : List Tree) 0 r0) : ee p0 r0 := by
 refine ⟨rfl, rfl, ?_⟩
 refine ak 29 [] Tryz.func59 rfl rfl rfl (aC rfl) fun K hK => ?_
 refine gR 3 rfl ?_
 refine gFP 0 rfl rfl rfl rfl ?_
 refine gR 21 rfl ?_
 refine go_loop m ?_
 refine gNC 2 3 29 4 rfl rfl rfl rfl ?_
 exact gJ (h K _ hK (by omega)) [1, 2, 3] [] rfl hK ⟨⟨_, rfl, .rfl⟩, ⟨_, rfl, .rfl⟩, ⟨_, rfl, .rfl⟩, ⟨_, rfl, .rfl⟩, trivial⟩ ⟨⟨_, rfl, ⟨rfl, rfl, rfl⟩⟩, ⟨⟨_, rfl, ⟨rfl, ah.rfl⟩⟩, ⟨⟨_, rfl, ⟨rfl, ah.rfl⟩⟩, trivial⟩⟩⟩ rfl
theorem ky (m : Nat) (p0 : Tree) (l1v1 : (List Tree)) (i1v2 : Nat) (r0 : Tree) (h : ((i1v2 < p0.kids.length) → ∃ (t1_1 : Tree), p0.kids[i1v2]? = some t1_1 ∧ ∃ (t1_2 : Tree), ee t1_1 t1_2 ∧ (l1v1 ++ [t1_2]).length ≤ 1000000000 ∧ fp m p0 (l1v1 ++ [t1_2]) (i1v2 + 1) r0) ∧ ((¬ i1v2 < p0.kids.length) → (Tree.node p0.kind p0.text [] l1v1) = r0)) : fp (m + 1) p0 l1v1 i1v2 r0 := by
 intro K j1 hK hj1
 obtain ⟨j1, rfl⟩ : ∃ j, j1 = j + 1 := ⟨j1 - 1, by omega⟩
 refine gR 7 rfl ?_
 refine gV 13 (.int .i64 ((p0.kids.length : Nat) : Int)) rfl (be (aH _)) rfl ?_
 refine gLB 12 rfl (aH _) fun hl5 => ?_
 refine gR 3 rfl ?_
 refine gB 14 rfl rfl rfl (fun hd => ?_) (fun hd => ?_)
 replace hd := (cO hd)
 replace h := h.1 hd
 refine gR 5 rfl ?_
 refine gDs [1] 11 12 rfl (by kernel_rfl) (by kernel_rfl) ?_
 refine gDr [(0, 2), (1, 3), (2, 2), (3, 2), (4, 0)] (by kernel_rfl) rfl rfl ?_
 obtain ⟨t1_1, hxt1_1, h⟩ := h
 refine dh 5 rfl (by kernel_rfl) (aP (an hxt1_1) aa rfl rfl rfl rfl) rfl rfl ?_
 refine gDr [(6, 0)] (by kernel_rfl) rfl rfl ?_
 obtain ⟨t1_2, hs6, h⟩ := h
 refine bH 7 hs6 (by kernel_rfl) rfl (by kernel_rfl) rfl rfl .rfl rfl rfl ?_
 refine gDr [(8, 0)] (by kernel_rfl) rfl rfl ?_
 refine gHR 3 (kidsV [t1_2]) rfl (iU t1_2) rfl ?_
 obtain ⟨hb, h⟩ := h
 refine cQ 9 (.repl 2 (.row 29 4 (kidsV (l1v1 ++ [t1_2])))) rfl (by kernel_rfl) (bL aa rfl rfl rfl rfl rfl (eX l1v1 [t1_2]).symm (by rw [aH]; exact hb)) (okR rfl) rfl (by kernel_rfl) rfl rfl ?_
 refine gDr [(10, 0), (11, 1)] (by kernel_rfl) rfl rfl ?_
 refine gDe (by kernel_rfl) ?_
 refine gR 5 rfl ?_
 refine gV 16 (.int .i64 ((i1v2 + 1 : Nat) : Int)) rfl (ar (by have := hl5; omega) (by omega)) rfl ?_
 refine gR 2 rfl ?_
 refine aq ?_
 exact gJ (h K _ hK (by omega)) [0, 1, 4] [] rfl hK ⟨⟨_, rfl, .rfl⟩, ⟨_, rfl, .rfl⟩, ⟨_, rfl, .rfl⟩, ⟨_, rfl, .rfl⟩, trivial⟩ ⟨⟨_, rfl, ⟨rfl, rfl, (ey _ (l1v1 ++ [t1_2])).symm⟩⟩, ⟨⟨_, rfl, ⟨rfl, ah.rfl⟩⟩, ⟨⟨_, rfl, ⟨rfl, ah.rfl⟩⟩, trivial⟩⟩⟩ rfl
 replace hd := (cP hd)
 replace h := h.2 hd
 refine gR 3 rfl ?_
 refine av ?_
 refine gR 9 rfl ?_
 refine gFR 2 rfl (cj _) rfl rfl ?_
 subst h
 refine ab (F' := (mkF 29 0 [(2, .ptr 0 0)])) (H' := ⟨1, [(0, .var 29 [.int .i64 ((Tree.node p0.kind p0.text [] l1v1).kind), .str ((Tree.node p0.kind p0.text [] l1v1).text), .row 1 (List.map V.str ((Tree.node p0.kind p0.text [] l1v1).leads)), .row 4 (kidsV ((Tree.node p0.kind p0.text [] l1v1).kids))])]⟩) [0] [] rfl hK ⟨⟨_, rfl, .rfl⟩, trivial⟩ ⟨⟨_, rfl, ⟨rfl, (.cons .rfl (.cons .rfl (.cons (.nil 1) (.cons .rfl .nil))))⟩⟩, trivial⟩ rfl ?_
 exact ac aa (rs := [.cell 2 29]) rfl rfl rfl
def gQ (m : Nat) (p0 : Tree) (p1 : Tree) (i1v1 : Nat) (r0 : Bool) : Prop := ∀ (K : Ctx) (j1 : Nat), au K [] → m ≤ j1 → Go Tryz.prog K (bodyPost Tryz.prog Tryz.f14 (SP K (fun u _ => u = .bool r0))) (.code (cL (cK (cB (cA (cB (cB (ae Tryz.f14)))))))) [.loop (cL (cK (cB (cA (cB (cB (ae Tryz.f14))))))) j1, .blk 0, .seq (cB (cB (cB (ae Tryz.f14))))] 54 (mkF 54 0 [(2, .box (aj p0) 0), (3, .box (aj p1) 0), (5, .int .i64 ((i1v1 : Nat) : Int))]) ⟨0, []⟩
theorem dQ (m : Nat) (p0 : Tree) (p1 : Tree) (r0 : Bool) (h : ((p0.kind ≠ p1.kind) → false = r0) ∧ ((p0.kind = p1.kind) → ((p0.text ≠ p1.text) → false = r0) ∧ ((p0.text = p1.text) → ∃ (b0_1 : Bool), fB p0.leads p1.leads b0_1 ∧ ((b0_1 = false) → false = r0) ∧ ((b0_1 = true) → ((p0.kids.length ≠ p1.kids.length) → false = r0) ∧ ((p0.kids.length = p1.kids.length) → gQ m p0 p1 0 r0))))) : cw p0 p1 r0 := by
 refine ⟨rfl, rfl, ?_⟩
 refine ak 54 [] Tryz.func14 rfl rfl rfl (aC rfl) fun K hK => ?_
 refine gR 3 rfl ?_
 refine gFP 0 rfl rfl rfl rfl ?_
 refine gR 1 rfl ?_
 refine gFP 1 rfl rfl rfl rfl ?_
 refine gR 12 rfl ?_
 refine gB 11 rfl rfl rfl (fun hd => ?_) (fun hd => ?_)
 refine gT 10 rfl hd rfl ?_
 replace hd := (fb hd)
 replace h := h.1 hd
 refine gR 33 rfl ?_
 subst h
 refine ab (F' := (mkF 54 0 [(4, .bool false)])) (H' := ⟨0, []⟩) [] [] rfl hK ⟨⟨_, rfl, .rfl⟩, trivial⟩ trivial rfl ?_
 exact ac aa (rs := [.tmp 4]) rfl rfl rfl
 refine gF 10 rfl hd rfl ?_
 replace hd := (dC hd)
 replace h := h.2 hd
 refine gR 7 rfl ?_
 refine gB 18 rfl rfl rfl (fun hd => ?_) (fun hd => ?_)
 refine gT 17 rfl hd rfl ?_
 replace hd := (fb hd)
 replace h := h.1 hd
 refine gR 26 rfl ?_
 subst h
 refine ab (F' := (mkF 54 0 [(4, .bool false)])) (H' := ⟨0, []⟩) [] [] rfl hK ⟨⟨_, rfl, .rfl⟩, trivial⟩ trivial rfl ?_
 exact ac aa (rs := [.tmp 4]) rfl rfl rfl
 refine gF 17 rfl hd rfl ?_
 replace hd := (dC hd)
 replace h := h.2 hd
 refine gR 4 rfl ?_
 obtain ⟨b0_1, hs11, h⟩ := h
 refine gC0 hs11 (by kernel_rfl) rfl rfl .rfl rfl ?_
 refine gR 3 rfl ?_
 refine gB 26 rfl rfl rfl (fun hd => ?_) (fun hd => ?_)
 refine gT 25 rfl hd rfl ?_
 replace hd := (bP hd)
 replace h := h.1 hd
 refine gR 18 rfl ?_
 subst h
 refine ab (F' := (mkF 54 0 [(4, .bool false)])) (H' := ⟨0, []⟩) [] [] rfl hK ⟨⟨_, rfl, .rfl⟩, trivial⟩ trivial rfl ?_
 exact ac aa (rs := [.tmp 4]) rfl rfl rfl
 refine gF 25 rfl hd rfl ?_
 replace hd := (bO hd)
 replace h := h.2 hd
 refine gR 3 rfl ?_
 refine gV 29 (.int .i64 ((p0.kids.length : Nat) : Int)) rfl (be (aH _)) rfl ?_
 refine gLB 28 rfl (aH _) fun hl12 => ?_
 refine gR 3 rfl ?_
 refine gV 32 (.int .i64 ((p1.kids.length : Nat) : Int)) rfl (be (aH _)) rfl ?_
 refine gLB 31 rfl (aH _) fun hl13 => ?_
 refine gR 4 rfl ?_
 refine gB 34 rfl rfl rfl (fun hd => ?_) (fun hd => ?_)
 replace hd := (vX hd)
 replace h := h.1 hd
 refine gR 8 rfl ?_
 subst h
 refine ab (F' := (mkF 54 0 [(4, .bool false)])) (H' := ⟨0, []⟩) [] [] rfl hK ⟨⟨_, rfl, .rfl⟩, trivial⟩ trivial rfl ?_
 exact ac aa (rs := [.tmp 4]) rfl rfl rfl
 replace hd := (v5 hd)
 replace h := h.2 hd
 refine gR 10 rfl ?_
 refine go_loop m ?_
 exact gJ (h K _ hK (by omega)) [] [] rfl hK ⟨⟨_, rfl, .rfl⟩, ⟨_, rfl, .rfl⟩, ⟨_, rfl, .rfl⟩, trivial⟩ trivial rfl
theorem gm (m : Nat) (p0 : Tree) (p1 : Tree) (i1v1 : Nat) (r0 : Bool) (h : ((i1v1 < p0.kids.length) → ∃ (t1_1 : Tree), p0.kids[i1v1]? = some t1_1 ∧ ∃ (t1_2 : Tree), p1.kids[i1v1]? = some t1_2 ∧ ∃ (b1_3 : Bool), cw t1_1 t1_2 b1_3 ∧ ((b1_3 = false) → false = r0) ∧ ((b1_3 = true) → gQ m p0 p1 (i1v1 + 1) r0)) ∧ ((¬ i1v1 < p0.kids.length) → true = r0)) : gQ (m + 1) p0 p1 i1v1 r0 := by
 intro K j1 hK hj1
 obtain ⟨j1, rfl⟩ : ∃ j, j1 = j + 1 := ⟨j1 - 1, by omega⟩
 refine gR 7 rfl ?_
 refine gV 38 (.int .i64 ((p0.kids.length : Nat) : Int)) rfl (be (aH _)) rfl ?_
 refine gLB 37 rfl (aH _) fun hl14 => ?_
 refine gR 3 rfl ?_
 refine gB 39 rfl rfl rfl (fun hd => ?_) (fun hd => ?_)
 replace hd := (cO hd)
 replace h := h.1 hd
 refine gR 6 rfl ?_
 refine gDs [] 12 12 rfl (by kernel_rfl) (by kernel_rfl) ?_
 refine gDr [(0, 2), (1, 2), (2, 2)] (by kernel_rfl) rfl rfl ?_
 obtain ⟨t1_1, hxt1_1, h⟩ := h
 refine gYd 3 rfl (by kernel_rfl) (aP (an hxt1_1) aa rfl rfl rfl rfl) rfl rfl ?_
 refine gDr [(4, 2), (5, 2), (6, 2), (7, 0)] (by kernel_rfl) rfl rfl ?_
 obtain ⟨t1_2, hxt1_2, h⟩ := h
 refine dh 8 rfl (by kernel_rfl) (aP (an hxt1_2) aa rfl rfl rfl rfl) rfl rfl ?_
 refine gDr [(9, 0)] (by kernel_rfl) rfl rfl ?_
 obtain ⟨b1_3, hs15, h⟩ := h
 refine bH 10 hs15 (by kernel_rfl) rfl (by kernel_rfl) rfl rfl .rfl rfl rfl ?_
 refine gDr [(11, 0)] (by kernel_rfl) rfl rfl ?_
 refine gDe (by kernel_rfl) ?_
 refine gR 1 rfl ?_
 refine gB 53 rfl rfl rfl (fun hd => ?_) (fun hd => ?_)
 replace hd := (bP hd)
 replace h := h.1 hd
 refine gR 9 rfl ?_
 refine aF ?_
 refine gR 2 rfl ?_
 subst h
 refine ab (F' := (mkF 54 0 [(4, .bool false)])) (H' := ⟨0, []⟩) [] [] rfl hK ⟨⟨_, rfl, .rfl⟩, trivial⟩ trivial rfl ?_
 exact ac aa (rs := [.tmp 4]) rfl rfl rfl
 replace hd := (bO hd)
 replace h := h.2 hd
 refine gR 7 rfl ?_
 refine gV 41 (.int .i64 ((i1v1 + 1 : Nat) : Int)) rfl (ar (by have := hl14; omega) (by omega)) rfl ?_
 refine gR 2 rfl ?_
 refine aq ?_
 exact gJ (h K _ hK (by omega)) [] [] rfl hK ⟨⟨_, rfl, .rfl⟩, ⟨_, rfl, .rfl⟩, ⟨_, rfl, .rfl⟩, trivial⟩ trivial rfl
 replace hd := (cP hd)
 replace h := h.2 hd
 refine gR 3 rfl ?_
 refine av ?_
 refine gR 8 rfl ?_
 subst h
 refine ab (F' := (mkF 54 0 [(4, .bool true)])) (H' := ⟨0, []⟩) [] [] rfl hK ⟨⟨_, rfl, .rfl⟩, trivial⟩ trivial rfl ?_
 exact ac aa (rs := [.tmp 4]) rfl rfl rfl
def eK (m : Nat) (p0 : Tree) (l1v1 : (List Tree)) (i1v2 : Nat) (r0 : (List Tree)) : Prop := ∀ (K : Ctx) (j1 : Nat), au K [] → m ≤ j1 → Go Tryz.prog K (bodyPost Tryz.prog Tryz.f11 (SP K (fun u _ => u = .row 4 (kidsV r0)))) (.code (cL (cK (cB (cA (cB (cB (ae Tryz.f11)))))))) [.loop (cL (cK (cB (cA (cB (cB (ae Tryz.f11))))))) j1, .blk 0, .seq (cB (cB (cB (ae Tryz.f11))))] 23 (mkF 23 0 [(1, .box (aj p0) 0), (3, .sl 0), (4, .int .i64 ((i1v2 : Nat) : Int))]) ⟨1, [(0, .row 29 4 (kidsV l1v1))]⟩
theorem nP (m : Nat) (p0 : Tree) (r0 : (List Tree)) (h : eK m p0 [p0] 0 r0) : dV p0 r0 := by
 refine ⟨rfl, rfl, ?_⟩
 refine ak 23 [] Tryz.func11 rfl rfl rfl (aC rfl) fun K hK => ?_
 refine gR 3 rfl ?_
 refine gFP 0 rfl rfl rfl rfl ?_
 refine gR 7 rfl ?_
 refine gHR 1 (kidsV [p0]) rfl (iU p0) rfl ?_
 refine gR 10 rfl ?_
 refine go_loop m ?_
 exact gJ (h K _ hK (by omega)) [1] [] rfl hK ⟨⟨_, rfl, .rfl⟩, ⟨_, rfl, .rfl⟩, ⟨_, rfl, .rfl⟩, trivial⟩ ⟨⟨_, rfl, ⟨rfl, rfl, (ey _ [p0]).symm⟩⟩, trivial⟩ rfl
theorem jK (m : Nat) (p0 : Tree) (l1v1 : (List Tree)) (i1v2 : Nat) (r0 : (List Tree)) (h : ((i1v2 < p0.kids.length) → ∃ (t1_1 : Tree), p0.kids[i1v2]? = some t1_1 ∧ ∃ (r1_2 : (List Tree)), dV t1_1 r1_2 ∧ (l1v1 ++ r1_2).length ≤ 1000000000 ∧ eK m p0 (l1v1 ++ r1_2) (i1v2 + 1) r0) ∧ ((¬ i1v2 < p0.kids.length) → l1v1 = r0)) : eK (m + 1) p0 l1v1 i1v2 r0 := by
 intro K j1 hK hj1
 obtain ⟨j1, rfl⟩ : ∃ j, j1 = j + 1 := ⟨j1 - 1, by omega⟩
 refine gR 7 rfl ?_
 refine gV 10 (.int .i64 ((p0.kids.length : Nat) : Int)) rfl (be (aH _)) rfl ?_
 refine gLB 9 rfl (aH _) fun hl5 => ?_
 refine gR 3 rfl ?_
 refine gB 11 rfl rfl rfl (fun hd => ?_) (fun hd => ?_)
 replace hd := (cO hd)
 replace h := h.1 hd
 refine gR 10 rfl ?_
 obtain ⟨t1_1, hxt1_1, h⟩ := h
 refine gY (aP (an hxt1_1) aa rfl rfl rfl rfl) rfl rfl ?_
 refine gR 1 rfl ?_
 obtain ⟨r1_2, hs6, h⟩ := h
 refine gC0 hs6 (by kernel_rfl) rfl rfl .rfl rfl ?_
 obtain ⟨hb, h⟩ := h
 refine gDo (.repl 0 (.row 29 4 (kidsV (l1v1 ++ r1_2)))) (bL aa rfl rfl rfl rfl rfl (eX _ _).symm (by rw [aH]; exact hb)) (okR rfl) rfl rfl rfl ?_
 refine gR 7 rfl ?_
 refine gV 13 (.int .i64 ((i1v2 + 1 : Nat) : Int)) rfl (ar (by have := hl5; omega) (by omega)) rfl ?_
 refine gR 2 rfl ?_
 refine aq ?_
 exact gJ (h K _ hK (by omega)) [1] [] rfl hK ⟨⟨_, rfl, .rfl⟩, ⟨_, rfl, .rfl⟩, ⟨_, rfl, .rfl⟩, trivial⟩ ⟨⟨_, rfl, ⟨rfl, rfl, (ey _ (l1v1 ++ r1_2)).symm⟩⟩, trivial⟩ rfl
 replace hd := (cP hd)
 replace h := h.2 hd
 refine gR 3 rfl ?_
 refine av ?_
 refine gR 9 rfl ?_
 refine gFR 0 rfl (cj _) rfl rfl ?_
 subst h
 refine ab (F' := (mkF 23 0 [(2, .row 4 (kidsV l1v1))])) (H' := ⟨0, []⟩) [] [] rfl hK ⟨⟨_, rfl, .rfl⟩, trivial⟩ trivial rfl ?_
 exact ac aa (rs := [.tmp 2]) rfl rfl rfl
end Go.Proofs.YtiknldgpnhikhaaGreat
namespace Go.Proofs.YtiknldgpnhikhaaGreat
open Go.RowKit Lx Sx
set_option maxRecDepth 100000
set_option maxHeartbeats 1000000
theorem rM (t : Tree) : ∀ n m, aL n (aL m t) = aL (n + m) t
  | 0, m => by rw [aL, Nat.zero_add]
  | n + 1, m => by rw [aL, rM t n m, show n + 1 + m = n + m + 1 by omega, aL]
theorem zo {u : Tree} (h8 : u.kind ≠ 8) (n : Nat) : fJ (aL n u) u := by
  have loop : ∀ n, ff (n + 1) (aL n u) u := fun n => by
    induction n with
    | zero => exact kA _ _ _ ⟨fun h => absurd h h8, fun _ => rfl⟩
    | succ n ih => exact kA _ _ _ ⟨fun _ => ⟨aL n u, rfl, ih⟩, fun h => absurd rfl h⟩
  exact oI _ _ _ (loop n)
theorem At {u v : Tree} (h8 : u.kind ≠ 8) : ∀ n, gE (aL n u) v (aL n v)
  | 0 => lT 0 _ _ _ ⟨fun _ => rfl, fun h => absurd h h8⟩
  | n + 1 => lT 0 _ _ _ ⟨fun h => absurd rfl h, fun _ => ⟨aL n u, rfl, _, At h8 n, rfl⟩⟩
theorem BA (l : List (Int × Int)) (x : Int × Int) : iQ l x (decide (x ∈ l)) := by
  have loop : ∀ m i, l.length - i ≤ m → fF (m + 1) l x i (decide (x ∈ l.drop i)) := fun m => by
    induction m with
    | zero =>
      intro i hi
      refine kS 0 _ _ _ _ ⟨fun h => by omega, fun h => ?_⟩
      rw [List.drop_of_length_le (by omega)]; simp
    | succ m ihm =>
      intro i hi
      refine kS (m + 1) _ _ _ _ ⟨fun h => ?_, fun h => ?_⟩
      · obtain ⟨u, hu, _⟩ | h' := aU l i
        · rw [bQ hu]
          refine ⟨u, hu, fun h1 => ?_, fun h1 => ?_⟩
          · have : x = u := (Prod.ext h1.1 h1.2).symm
            simp [this]
          · have : x ≠ u := fun e => h1 (by rw [e]; exact ⟨rfl, rfl⟩)
            have e : decide (x ∈ u :: l.drop (i + 1)) = decide (x ∈ l.drop (i + 1)) := by simp [this]
            rw [e]
            exact ihm (i + 1) (by omega)
        · exact absurd h h'
      · rw [List.drop_of_length_le (by omega)]; simp
  have := loop l.length 0 (by omega)
  exact oW _ _ _ _ this
theorem wM : ∀ t : Tree, tbulk t ≤ 1000000000 → ee t (bareK t) := cr fun t ih hb => by
  have hk := di t
  have loop : ∀ m i l, t.kids.length - i ≤ m → l.length = i → i ≤ t.kids.length → fp (m + 1) t l i (.node t.kind t.text [] (l ++ baresK (t.kids.drop i))) := fun m => by
    induction m with
    | zero =>
      intro i l hi hl hle
      refine ky 0 _ _ _ _ ⟨fun h => by omega, fun h => ?_⟩
      rw [List.drop_of_length_le (by omega), baresK, List.append_nil]
    | succ m ihm =>
      intro i l hi hl hle
      refine ky (m + 1) _ _ _ _ ⟨fun h => ?_, fun h => ?_⟩
      · obtain ⟨u, hu, _⟩ | h' := aU t.kids i
        · have := bU hu
          rw [bQ hu, baresK]
          refine ⟨u, hu, _, ih i u hu (by omega), by simp; omega, ?_⟩
          have := ihm (i + 1) (l ++ [bareK u]) (by omega) (by simp [hl]) (by omega)
          rw [List.append_assoc] at this
          exact this
        · exact absurd h h'
      · rw [List.drop_of_length_le (by omega), baresK, List.append_nil]
  have := loop t.kids.length 0 [] (by omega) rfl (by omega)
  rw [List.nil_append, List.drop_zero, ← p8] at this
  exact oH _ _ _ this
theorem t7 {p : List Tree} (hp : bF p = true) (hb : kbulk p ≤ 10000000) : ∀ (f : Nat) (seen sl : List (Int × Int)) (n : Nat) (M : Int) (u : Tree), kv p seen → kbulk p + 1 ≤ f + seen.length → (∀ k, k ∈ sl ↔ k ∈ seen) → sl.length = seen.length → tyK u → u.kind ≠ 8 → 0 ≤ M → M < p.length → u.text.length ≤ 1000000000 → ∃ m, eO m p M (aL n (.node u.kind u.text [] [])) sl (eZ p f seen n M u).1 (eZ p f seen n M u).2
  | 0, seen, sl, n, M, u, hs, hf, _, _, _, _, _, _, _ => by
    have := mA hs; omega
  | f + 1, seen, sl, n, M, u, hs, hf, hsl, hll, hu, h8, h0, h1, hux => by
    have hsn := mA hs
    have hleaf := zo (u := .node u.kind u.text [] []) h8 n
    by_cases h9 : u.kind = 9
    · rw [eZ, if_pos h9]
      have hfind := A4 (p := p) (w := u.text) h0 h1 (by omega) hux
      by_cases hfd : (ba p M u.text).2.2 = false
      · rw [if_pos hfd]
        exact ⟨1, eo 0 _ _ _ _ _ _ ⟨_, hleaf, fun _ => ⟨_, hleaf, _, _, _, hfind, fun _ => ⟨rfl, rfl⟩, fun h => (by rw [hfd] at h; cases h)⟩, fun h => absurd h9 h⟩⟩
      · rw [if_neg hfd]
        have hfd' : (ba p M u.text).2.2 = true := by simpa using hfd
        obtain ⟨i, d, t, a, b', g1, g2, g3, g4, g5, g6, g7⟩ := oq hp h9 hu.1 hfd'
        rw [hfd'] at hfind
        rw [g1, g2] at hfind ⊢
        have hmet := BA sl ((i : Int), (d : Int))
        by_cases hm : ((i : Int), (d : Int)) ∈ seen
        · rw [if_pos hm]
          rw [decide_eq_true ((hsl _).2 hm)] at hmet
          exact ⟨1, eo 0 _ _ _ _ _ _ ⟨_, hleaf, fun _ => ⟨_, hleaf, _, _, _, hfind, fun h => (by cases h), fun _ => ⟨_, hmet, fun _ => ⟨rfl, rfl⟩, fun h => (by cases h)⟩⟩, fun h => absurd h9 h⟩⟩
        · rw [if_neg hm]
          rw [decide_eq_false (fun h => hm ((hsl _).1 h))] at hmet
          have hal := nr g3 g4 g6
          rw [hal]
          obtain ⟨t1, t2, t3⟩ := k0 b' g7
          have hs' := lu hs g3 g4 hm
          have hil := (List.getElem?_eq_some_iff.1 g3).1
          have hbb : tbulk b' ≤ 10000000 := by
            have := dJ g3
            have := bU g4
            have := bU (t := a) (i := 0) (u := b') (by rw [g6]; rfl)
            omega
          have hbare := wM b' (by omega)
          rw [t3] at hbare
          have hin := At (u := .node u.kind u.text [] []) (v := aL (lisK b') (.node (leafK b').kind (leafK b').text [] [])) h8 n
          rw [rM] at hin
          have hlb := (ku b').1
          have htl := cf (leafK b')
          obtain ⟨m, hm'⟩ := t7 hp hb f (((i : Int), (d : Int)) :: seen) (sl ++ [((i : Int), (d : Int))]) (n + lisK b') i (leafK b') hs' (by simp only [List.length_cons]; omega) (fun k => by simp [hsl k]; exact Or.comm) (by simp [hll]) t1 t2 (by omega) (by omega) (by omega)
          exact ⟨m + 1, eo m _ _ _ _ _ _ ⟨_, hleaf, fun _ => ⟨_, hleaf, _, _, _, hfind, fun h => (by cases h), fun _ => ⟨_, hmet, fun h => (by cases h), fun _ => ⟨by simp; omega, i, rfl, t, g3, d, rfl, a, g4, b', (by rw [g6]; rfl), _, hbare, _, hin, hm'⟩⟩⟩, fun h => absurd h9 h⟩⟩
    · rw [eZ, if_neg h9]
      have hx : u.text = [] := by
        rcases nt hu with ⟨h, _⟩ | ⟨_, _, h⟩
        · exact absurd h h8
        · exact h h9
      refine ⟨1, eo 0 _ _ _ _ _ _ ⟨_, hleaf, fun h => absurd h h9, fun _ => ⟨by rw [hx], rfl⟩⟩⟩
theorem sj {p : List Tree} (hb : kbulk p ≤ 10000000) (M : Int) {t : Tree} (ht : tbulk t ≤ 10000000) : eR p M t (dZ p M t).1 (dZ p M t).2 := by
  by_cases hG : bF p = true ∧ 0 ≤ M ∧ M < p.length ∧ fk t.kind = true ∧ shapeK t = true
  · have hty : tyK t := ⟨hG.2.2.2.2, hG.2.2.2.1⟩
    obtain ⟨t1, t2, t3⟩ := k0 t hty
    obtain ⟨b1, b2⟩ := ku t
    have hlx := cf (leafK t)
    rw [dZ, if_pos hG]
    have hbare := wM t (by omega)
    rw [t3] at hbare
    obtain ⟨m, hm⟩ := t7 hG.1 hb (kbulk p + 1) [] [] (lisK t) M (leafK t) ⟨List.nodup_nil, fun x h => by cases h⟩ (by simp) (fun k => Iff.rfl) rfl t1 t2 hG.2.1 hG.2.2.1 (by omega)
    exact jO 0 _ _ _ _ _ ⟨_, nO p (by omega), fun h => (by rw [hG.1] at h; cases h), fun _ => ⟨fun h => by omega, fun _ => ⟨fun h => by omega, fun _ => ⟨_, o7 _, fun h => (by rw [hG.2.2.2.1] at h; cases h), fun _ => ⟨_, lC t (by omega), fun h => (by rw [hG.2.2.2.2] at h; cases h), fun _ => ⟨_, _, om m _ _ _ _ _ ⟨_, hbare, hm⟩, rfl, rfl⟩⟩⟩⟩⟩⟩
  · rw [dZ, if_neg hG]
    exact jO 0 _ _ _ _ _ ⟨_, nO p (by omega), fun _ => ⟨rfl, rfl⟩, fun h1 => ⟨fun _ => ⟨rfl, rfl⟩, fun h2 => ⟨fun _ => ⟨rfl, rfl⟩, fun h3 => ⟨_, o7 _, fun _ => ⟨rfl, rfl⟩, fun h4 => ⟨_, lC t (by omega), fun _ => ⟨rfl, rfl⟩, fun h5 => absurd ⟨h1, by omega, by omega, h4, h5⟩ hG⟩⟩⟩⟩⟩
end Go.Proofs.YtiknldgpnhikhaaGreat
