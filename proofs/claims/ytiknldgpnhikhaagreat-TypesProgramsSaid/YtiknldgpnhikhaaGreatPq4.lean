/- Contracts of the functions that the law reaches, part 4. -/
import Derived.Test.YtiknldgpnhikhaaGreatPq3
set_option linter.unusedVariables false
set_option linter.unusedSimpArgs false
namespace Go.Proofs.YtiknldgpnhikhaaGreat
open Go.RowKit Lx
set_option maxRecDepth 100000
theorem lr : ∀ (b : Bool) (l : List UInt8) (n : Nat), (aN b l n).1 ≤ n + l.length
  | _, [], n => by simp [aN]
  | false, c :: r, n => by
    have h1 := lr false r (n + 1)
    have h2 := lr true r (n + 1)
    unfold aN
    simp only [List.length_cons]
    split
    · omega
    · split
      · omega
      · simp
  | true, c :: r, n => by
    have h1 := lr false r (n + 1)
    have h2 := lr true r (n + 1)
    unfold aN
    simp only [List.length_cons]
    split
    · omega
    · split
      · simp
      · omega
def yI (l : List UInt8) (w : World) (Rs : Scanned) (g : Nat) (s6 s7 : Value) (wx : World) : Prop :=
  ∃ (p F : Nat) (acc : List Tok), p ≤ l.length ∧ g = l.length - p ∧ s7 = .int .i64 p ∧ acc.length ≤ p ∧ l.length - p < F ∧
    scanT F (l.drop p) p acc = Rs ∧ wx.ownsRow w.heap.size 70 3 s6 acc.length (dj acc) ∧ Ext w wx
def ScanPost0 (Rs : Scanned) (w : World) (e : Ending) (w' : World) : Prop :=
  ∃ v, e = .returned (.tuple #[v, .string ⟨Rs.tail.toArray⟩, .int .i64 (Rs.place : Nat), .int .i64 (Rs.err : Nat)]) ∧ nX w' v Rs.toks ∧ Ext w w'
theorem mD {Rs : Scanned} {w w' : World} {v : Value} {r : Scanned} {tail : List UInt8} {p e : Int} (h : Rs = r) (ht : r.tail = tail) (hp : (r.place : Int) = p) (he : (r.err : Int) = e) (hr : nX w' v r.toks) (hx : Ext w w') :
    ScanPost0 Rs w (.returned (.tuple #[v, .string ⟨tail.toArray⟩, .int .i64 p, .int .i64 e])) w' := by
  subst h; subst ht; subst hp; subst he
  exact ⟨v, rfl, hr, hx⟩
set_option maxHeartbeats 4000000 in
theorem BF (l : List UInt8) (w : World) (hl : l.length ≤ 4096) : Calls Tryz.prog 123 #[.string ⟨l.toArray⟩] w (ScanPost0 (scanT (l.length + 1) l 0 []) w) := by
  obtain ⟨Rs, hR⟩ : ∃ Rs, scanT (l.length + 1) l 0 [] = Rs := ⟨_, rfl⟩
  rw [hR]
  have H0 := Lib.hid (show scanT (l.length + 1) (l.drop 0) 0 [] = Rs from by rw [← hR]; simp)
  clear hR
  have hx := qx; have hx2 := mc
  go_enter Tryz.func123, Tryz.ntmps123
  go_wp2_with fail
  go_loopg [6, 7] l.length (fun g s6 s7 wx => yI l w Rs g s6 s7 wx)
  case atStart => exact ⟨0, l.length + 1, [], Nat.zero_le _, by omega, rfl, Nat.le_refl _, by omega, H0.out, World.ownsRow_nil _ _ _ _, Ext.refl _⟩
  case round =>
    obtain ⟨p, F, acc, hpl, rfl, rfl, hacc, hF, hscan, hown, hext⟩ := hrel
    have HSc := Lib.hid hscan; clear hscan
    have HO := Lib.hid hown; clear hown
    have HE := Lib.hid hext; clear hext
    obtain ⟨F', rfl⟩ : ∃ F', F = F' + 1 := ⟨F - 1, by omega⟩
    obtain ⟨n, b, hLd⟩ : ∃ n b, aN false (l.drop p) 0 = (n, b) := ⟨_, _, rfl⟩
    have hnl : p + n ≤ l.length := by have h := lr false (l.drop p) 0; rw [hLd] at h; simp at h; omega
    have HLd := Lib.hid hLd; clear hLd
    go_wp2_with fail
    refine (zU _ _ p rfl _ hpl (by omega)).mono ?_
    rintro e w' ⟨rfl, rfl⟩
    rw [HLd.out]
    cases b with
    | some q =>
      have hq : (0 : Int) ≤ ((p + q : Nat) : Int) := by omega
      have hq2 : qn p (some q) = ((p + q : Nat) : Int) := rfl
      rw [hq2]
      generalize hz : ((p + q : Nat) : Int) = z at *
      have HZ := Lib.hid hz; clear hz hq2
      go_wp2
      exact bodyPost_ret (v := .tuple #[.slice none 0 0, .string ⟨([] : List UInt8).toArray⟩, .int .i64 z, .int .i64 1]) (by simp [results, Tryz.results123, go_sem]) rfl (mD (r := ⟨[], [], p + q, 1⟩) (HSc.out.symm.trans (x4 HLd.out)) rfl (by rw [HZ.out]) rfl (oy _) HE.out)
    | none =>
      have hq2 : qn p none = -1 := rfl
      rw [hq2]
      clear hq2
      obtain ⟨E, hE⟩ : ∃ E, p + n = E := ⟨_, rfl⟩
      have hE1 : (p : Int) + n = (E : Nat) := by omega
      have hE2 : E - p = n := by omega
      have HEE := Lib.hid hE
      have hpE : p ≤ E := by omega
      have hEl : E ≤ l.length := by omega
      clear hE hnl
      by_cases hend : E = l.length
      · have hendb : ((E : Int) == (l.length : Int)) = true := by simp; omega
        have hb0 : (0 : Int) ≤ (p : Int) := by omega
        have hb1 : (p : Int) ≤ (l.length : Int) := by omega
        have HEnd := Lib.hid hend; clear hend
        go_wp2
        go_quiet (fail)
        go_wp2
        exact bodyPost_ret (v := .tuple #[u6, .string ⟨(l.drop p).toArray⟩, .int .i64 0, .int .i64 0]) (by simp [results, Tryz.results123, go_sem]) rfl (mD (r := ⟨acc, l.drop p, 0, 0⟩) (HSc.out.symm.trans (xE HLd.out (by have := HEnd.out; have := HEE.out; simp; omega))) rfl rfl rfl (xh HO.out) (Ext.drewN HE.out _))
      · have hEt : E < l.length := by omega
        have hendb : ((E : Int) == (l.length : Int)) = false := by simp; omega
        clear hend
        obtain ⟨kd, m, e, hT⟩ : ∃ kd m e, tokenT (l.drop E) = (kd, m, e) := ⟨_, _, _, rfl⟩
        have hlen := wh (l := l.drop E) (by simp; omega)
        rw [hT] at hlen
        simp only [List.length_drop] at hlen
        obtain ⟨hm1, hm2⟩ := hlen
        have HM := Lib.hid hm2; clear hm2
        have HT := Lib.hid hT; clear hT
        have HDp := Lib.hid (show (l.drop p).drop n = l.drop E from by rw [List.drop_drop, HEE.out])
        have CN := Lib.hid (fun w => zF l (E : Nat) E rfl w hEt (by omega))
        have HnE := Lib.hid (show ¬ n = (l.drop p).length from by have := HEE.out; simp; omega)
        go_wp2_with fail
        refine (CN.out _).mono ?_
        rintro e0 w1 ⟨rfl, hext1⟩
        rw [HT.out]
        by_cases he : e = 0
        rotate_left
        · have HI := Lib.hid (show jP E (kd, m, e) = .agg #[.int .i64 0, .int .i64 0, .int .i64 e, .int .i64 ((E + m : Nat) : Int)] from by simp [jP, he])
          rw [HI.out]
          have heb : ((e : Int) != 0) = true := by simp; omega
          have HX1 := Lib.hid (HE.out.trans hext1); clear hext1
          generalize hz : ((E + m : Nat) : Int) = z at *
          have HZ := Lib.hid hz; clear hz
          clear HI
          go_wp2
          go_quiet (fail)
          go_wp2
          exact bodyPost_ret (v := .tuple #[.slice none 0 0, .string ⟨([] : List UInt8).toArray⟩, .int .i64 z, .int .i64 e]) (by simp [results, Tryz.results123, go_sem]) rfl (mD (r := ⟨[], [], p + n + m, e⟩) (HSc.out.symm.trans (xy HLd.out HnE.out (by rw [HDp.out]; exact HT.out) he)) rfl (by rw [← HZ.out]; have := HEE.out; simp; omega) rfl (oy _) (Ext.drewN (HX1.out.alloc _) _))
        · subst he
          have HI := Lib.hid (show jP E (kd, m, 0) = .agg #[.int .i64 m, .int .i64 kd, .int .i64 0, .int .i64 0] from by simp [jP])
          rw [HI.out]
          have hmp : 0 < m := HM.out rfl
          have hown := Ab HO.out hext1
          have hx1 := hext1.size
          have hsz := HE.out.size
          have HX1 := Lib.hid (HE.out.trans hext1)
          have hne : ∀ k, u6.ownBlock = some k → k < wr.heap.size := fun k hk => (HO.out.lt k hk).2
          have hneB : u6.ownBlock ≠ some w1.heap.size := fun h => by have := hne _ h; omega
          clear hext1 HI CN HM
          go_wp2
          obtain ⟨W2, hW2⟩ : ∃ W2, w1.alloc (.cells #[.int .i64 m, .int .i64 kd, .int .i64 0, .int .i64 0] 124) = W2 := ⟨_, rfl⟩
          rw [hW2]
          have hc0 : W2.cell? ⟨w1.heap.size, 0, none⟩ = some (.int .i64 m) := by rw [← hW2]; simp
          have hc1 : W2.cell? ⟨w1.heap.size, 1, none⟩ = some (.int .i64 kd) := by rw [← hW2]; simp
          have hown2 : W2.ownsRow w.heap.size 70 3 u6 acc.length (dj acc) := by rw [← hW2]; exact hown.alloc _
          have hBW : w1.heap.size < W2.heap.size := by rw [← hW2]; simp
          have HX2 := Lib.hid (show Ext w W2 from by rw [← hW2]; exact HX1.out.alloc _)
          obtain ⟨B, hB⟩ : ∃ B, w1.heap.size = B := ⟨_, rfl⟩
          have hwB : w.heap.size ≤ B := by omega
          rw [hB] at hc0 hc1 hBW hneB
          rw [hB]
          clear hW2 hB hown hne hx1 hsz HX1 HE HO
          have hb0 : (0 : Int) ≤ (p : Int) := by omega
          have hb1 : (p : Int) ≤ (E : Int) := by omega
          have hb2 : (E : Int) ≤ (l.length : Int) := by omega
          have hb3 : (E : Int) + m ≤ (l.length : Int) := by omega
          have hb4 : (E : Int) ≤ (E : Int) + m := by omega
          have hwr0 : IntKind.i64.wrap (E : Int) = (E : Int) := IntWalk.i64_in _ (by omega)
          have hwr : IntKind.i64.wrap ((E : Int) + m) = (E : Int) + m := IntWalk.i64_in _ (by omega)
          have hb5 : (0 : Int) ≤ (E : Int) + m := by omega
          have hb6 : ((E : Int) + m).toNat = E + m := by omega
          have hsz2 : (acc.length + 1) * 40 ≤ 140737488355328 := by omega
          have hsz3 : acc.length + 1 ≤ maxLen := by unfold maxLen; omega
          have hbs : w.heap.size ≤ W2.heap.size := by omega
          obtain ⟨i0, hi0, hz0, hz1, hz2⟩ := uS An
          go_region_held3 (fun w' => w'.cell? ⟨B, 0, none⟩ = some (.int .i64 m) ∧ w'.cell? ⟨B, 1, none⟩ = some (.int .i64 kd))
            (first | go_keep | (go_split_ands; refine ⟨?_, ?_⟩ <;> (rw [hgrow.cell_far _ (by simp; omega) (Ne.symm hneB)]; simp [*])))
            ((refine step_append_lies _ (by rfl) _ _ _ (by rfl) w.heap.size 70 i0 _ 3 40 Tryz.underlying63 hi0 hz0 hz1 hz2 rfl (by omega) u6 acc.length (dj acc) (by rfl) ((hown2.alloc _).drew) ⟨W2.heap.size, 0, none⟩ 1 1 [.int .i64 kd, .string ⟨((l.drop p).take n).toArray⟩, .string ⟨((l.drop E).take m).toArray⟩] (by rfl) (by rfl) (World.news_of_block (cs := #[.int .i64 kd, .string ⟨((l.drop p).take n).toArray⟩, .string ⟨((l.drop E).take m).toArray⟩]) (t := 70) (fr := (0, 0)) (heap_alloc_new W2 _)) (by simp [Value.oneCell']) (by omega) hsz3 hsz2 (by simp; omega) (W2.heap.size + 1) (by simp) ?_; intro gg cap w3 hown3 hgrow hat hlt3))
          have hc03 : w3.cell? ⟨B, 0, none⟩ = some (.int .i64 m) := by rename_i hh; exact hh.1
          have HX := Lib.hid (((HX2.out.alloc _).drew).grown hgrow (fun k hk => (hown2.lt k hk).1))
          have HO1 := Lib.hid (show w3.ownsRow w.heap.size 70 3 (.slice (some ⟨gg, 0, none⟩) (acc.length + 1) cap) (acc ++ [Tok.mk kd ((l.drop p).take n) ((l.drop E).take m)]).length (dj (acc ++ [Tok.mk kd ((l.drop p).take n) ((l.drop E).take m)])) from by
            rw [sN, List.length_append]; exact hown3)
          clear hown3 hgrow hat hown2 hsz2 hsz3 hi0 hz0 hz1 hz2 hwr hwr0 hb6 hc0 hc1
          go_wp2
          go_roundg (l.length - (E + m))
          case measure => omega
          case rel =>
            refine ⟨E + m, F', acc ++ [Tok.mk kd ((l.drop p).take n) ((l.drop E).take m)], by omega, rfl, by go_num, by simp; omega, by omega, ?_, HO1.out, HX.out⟩
            rw [← HSc.out, xK HLd.out HnE.out (by rw [HDp.out]; exact HT.out), HDp.out, List.drop_drop, ← HEE.out]
            congr 2 <;> omega
theorem Cq (l : List UInt8) (w : World) (hl : l.length ≤ 281474976710656) : Calls Tryz.prog 107 #[.string ⟨l.toArray⟩] w (ScanPost l w) := by
  by_cases h4 : 4096 < l.length
  · have HS := Lib.hid (show scan l = ⟨[], [], 4096, 3⟩ from by simp [scan, h4])
    go_enter Tryz.func107, Tryz.ntmps107
    go_wp2
    exact bodyPost_ret (v := .tuple #[.slice none 0 0, .string ⟨([] : List UInt8).toArray⟩, .int .i64 4096, .int .i64 3]) (by simp [results, Tryz.results107, go_sem]) rfl (uK HS.out rfl rfl rfl (oy _) (Ext.refl _))
  · have HS := Lib.hid (show scan l = scanT (l.length + 1) l 0 [] from by simp [scan, h4])
    go_enter Tryz.func107, Tryz.ntmps107
    go_wp2_with fail
    refine (BF _ _ (by omega)).mono ?_
    rintro e w' ⟨v, rfl, htr, hext⟩
    obtain ⟨A, c, rfl, hc1, hc2, hrow⟩ := htr
    have HR := Lib.hid hrow; clear hrow
    have HX := Lib.hid hext; clear hext
    rw [← HS.out] at HR hc1 ⊢
    go_wp2
    exact bodyPost_ret (v := .tuple #[.slice A (scan l).toks.length c, .string ⟨(scan l).tail.toArray⟩, .int .i64 ((scan l).place : Nat), .int .i64 ((scan l).err : Nat)]) (by simp [results, Tryz.results107, go_sem]) rfl ⟨_, rfl, ⟨A, c, rfl, hc1, hc2, HR.out⟩, HX.out⟩
end Go.Proofs.YtiknldgpnhikhaaGreat
namespace Go.Proofs.YtiknldgpnhikhaaGreat
open Go.RowKit Lx
set_option maxRecDepth 100000
theorem qg : ∀ (l : List Tok) (k : Nat) (h : k < l.length), (dj l)[k * 3]? = some (.int .i64 l[k].kind) ∧ (dj l)[k * 3 + 1]? = some (.string ⟨l[k].lead.toArray⟩) ∧ (dj l)[k * 3 + 2]? = some (.string ⟨l[k].text.toArray⟩)
  | t :: l, 0, _ => ⟨rfl, rfl, rfl⟩
  | t :: l, k + 1, h => by
    have ih := qg l k (by simpa using h)
    have e : dj (t :: l) = [.int .i64 t.kind, .string ⟨t.lead.toArray⟩, .string ⟨t.text.toArray⟩] ++ dj l := rfl
    rw [e]
    refine ⟨?_, ?_, ?_⟩
    · rw [List.getElem?_append_right (by simp; omega)]; simpa [Nat.succ_mul] using ih.1
    · rw [List.getElem?_append_right (by simp; omega)]
      have : (k + 1) * 3 + 1 - 3 = k * 3 + 1 := by omega
      simpa [this] using ih.2.1
    · rw [List.getElem?_append_right (by simp; omega)]
      have : (k + 1) * 3 + 2 - 3 = k * 3 + 2 := by omega
      simpa [this] using ih.2.2
theorem r8 {w : World} {A : Option Addr} {l : List Tok} (h : Row w 3 A l.length (dj l)) {k : Nat} (hk : k < l.length) :
    ∃ b off, A = some ⟨b, off, none⟩ ∧ b < w.heap.size ∧ w.cell? ⟨b, off + k * 3, none⟩ = some (.int .i64 l[k].kind) ∧ w.cell? ⟨b, off + k * 3 + 1, none⟩ = some (.string ⟨l[k].lead.toArray⟩) ∧ w.cell? ⟨b, off + k * 3 + 2, none⟩ = some (.string ⟨l[k].text.toArray⟩) := by
  obtain ⟨b, off, rfl, hb, hc⟩ := h.2 (by omega)
  obtain ⟨h0, h1, h2⟩ := qg l k hk
  refine ⟨b, off, rfl, hb, ?_, ?_, ?_⟩
  · rw [hc _ (by omega), h0]
  · rw [Nat.add_assoc, hc _ (by omega), h1]
  · rw [Nat.add_assoc, hc _ (by omega), h2]
end Go.Proofs.YtiknldgpnhikhaaGreat
namespace Go.Proofs.YtiknldgpnhikhaaGreat
open Go.RowKit Lx
set_option maxRecDepth 100000
set_option maxHeartbeats 1000000 in
theorem BO (l : List UInt8) (w : World) (hl : l.length ≤ 281474976710656) : Calls Tryz.prog 80 #[.string ⟨l.toArray⟩] w fun e w' => e = .returned (.int .i64 (bi l : Nat)) ∧ w = w' := by
  by_cases h0 : l = []
  · subst h0
    go_enter Tryz.func80, Tryz.ntmps80
    go_wp2
    go_ret
    exact ⟨rfl, rfl⟩
  · have hb1 : (l == []) = false := by simpa using h0
    have hb2 : l.isEmpty = false := by simpa using h0
    have hpos : 0 < l.length := List.length_pos_iff.2 h0
    obtain ⟨k, n, e, hT⟩ : ∃ k n e, tokenT l = (k, n, e) := ⟨_, _, _, rfl⟩
    have HT := Lib.hid hT
    have HC := Lib.hid (show bi l = if e = 0 ∧ n = l.length then k else 0 from by simp only [bi, if_neg h0, hT])
    clear hT h0
    go_enter Tryz.func80, Tryz.ntmps80
    go_wp2_with fail
    refine (A2 _ _ hpos hl).mono ?_
    rintro e0 w' ⟨rfl, rfl⟩
    rw [HT.out]
    by_cases he : e = 0
    · subst he
      by_cases hn : n = l.length
      · have hnb : ((n : Int) != (l.length : Int)) = false := by simp; omega
        have HR := Lib.hid (HC.out.trans (if_pos ⟨rfl, hn⟩))
        clear hn
        go_wp2
        go_ret
        exact ⟨bq (by rw [HR.out]), rfl⟩
      · have hnb : ((n : Int) != (l.length : Int)) = true := by simp; omega
        have HR := Lib.hid (HC.out.trans (if_neg (fun h => hn h.2)))
        clear hn
        go_wp2
        go_ret
        exact ⟨bq (by rw [HR.out]; rfl), rfl⟩
    · have heb : ((e : Int) != 0) = true := by simp; omega
      have HR := Lib.hid (HC.out.trans (if_neg (fun h => he h.1)))
      go_wp2
      go_ret
      exact ⟨bq (by rw [HR.out]; rfl), rfl⟩
theorem po {l : List UInt8} {c : UInt8} (h0 : 0 < l.length) (hc : l[0] = c) (h : bS c = true ∨ c.toNat = 35) : tokenT l = (0, 0, 2) := by
  have hv : c.toNat = 9 ∨ c.toNat = 10 ∨ c.toNat = 13 ∨ c.toNat = 32 ∨ c.toNat = 35 := by
    rcases h with h | h
    · simp [bS] at h; omega
    · omega
  have ha : aX c = true := by
    rcases hv with h | h | h | h | h <;> simp [aX, bS, dn, h]
  have hs : signs.contains c = false := by
    have h : ∀ n : UInt8, (c == n) = (c.toNat == n.toNat) := fun n => by rw [Bool.eq_iff_iff]; simp [UInt8.toNat_inj]
    simp only [signs, List.contains_cons, List.contains_nil, Bool.or_false, h]
    rcases hv with h | h | h | h | h <;> rw [h] <;> rfl
  rw [pB h0 hc, if_neg (by simp [ha]), if_neg (by simp [bj, cb, upperB]; omega), if_neg (by simp [bC]; omega), if_neg (by omega), if_neg (by omega), if_neg (by rw [hs]; simp)]
set_option maxHeartbeats 1000000 in
theorem tH (l : List UInt8) (w : World) (hl : l.length ≤ 281474976710656) : Calls Tryz.prog 88 #[.string ⟨l.toArray⟩] w fun e w' => e = .returned (.int .i64 (bi l : Nat)) ∧ Ext w w' := by
  by_cases h0 : l = []
  · subst h0
    go_enter Tryz.func88, Tryz.ntmps88
    go_wp2
    go_ret
    exact ⟨rfl, Ext.refl _⟩
  · have hb1 : (l == []) = false := by simpa using h0
    have hb2 : l.isEmpty = false := by simpa using h0
    have hpos : 0 < l.length := List.length_pos_iff.2 h0
    obtain ⟨k, n, e, hT⟩ : ∃ k n e, tokenT l = (k, n, e) := ⟨_, _, _, rfl⟩
    have HT := Lib.hid hT
    have HC := Lib.hid (show bi l = if e = 0 ∧ n = l.length then k else 0 from by simp only [bi, if_neg h0, hT])
    clear hT h0
    obtain ⟨c, hc⟩ : ∃ c, ({ data := l.toArray } : ByteArray)[0]'hpos = c := ⟨_, rfl⟩
    have HC0 := Lib.hid (show l[0] = c from hc)
    cases hw : bS c
    rotate_left
    · have hz : (k, n, e) = (0, 0, 2) := HT.out.symm.trans (po hpos HC0.out (.inl hw))
      have HR := Lib.hid (show bi l = 0 from by simp only [Prod.mk.injEq] at hz; rw [HC.out, if_neg (by omega)])
      clear hz
      go_enter Tryz.func88, Tryz.ntmps88
      go_wp2_with (first | (go_at_call 112; refine (gI _ _).mono ?_; rintro e w' ⟨rfl, rfl⟩))
      go_ret
      exact ⟨bq (by rw [HR.out]; rfl), Ext.refl _⟩
    cases h35 : ((c.toNat : Int) == 35)
    rotate_left
    · have hz : (k, n, e) = (0, 0, 2) := HT.out.symm.trans (po hpos HC0.out (.inr (cV (m := 35) h35)))
      have HR := Lib.hid (show bi l = 0 from by simp only [Prod.mk.injEq] at hz; rw [HC.out, if_neg (by omega)])
      clear hz
      go_enter Tryz.func88, Tryz.ntmps88
      go_wp2_with (first | (go_at_call 112; refine (gI _ _).mono ?_; rintro e w' ⟨rfl, rfl⟩))
      go_ret
      exact ⟨bq (by rw [HR.out]; rfl), Ext.refl _⟩
    have CN := Lib.hid (fun w => zF l 0 0 rfl w hpos hl)
    go_enter Tryz.func88, Tryz.ntmps88
    go_wp2_with (first | (go_at_call 112; refine (gI _ _).mono ?_; rintro e w' ⟨rfl, rfl⟩))
    refine (CN.out _).mono ?_
    rintro e0 w1 ⟨rfl, hext⟩
    rw [List.drop_zero, HT.out]
    have HX := Lib.hid hext; clear hext CN
    by_cases he : e = 0
    · subst he
      have HI := Lib.hid (show jP 0 (k, n, 0) = .agg #[.int .i64 n, .int .i64 k, .int .i64 0, .int .i64 0] from by simp [jP])
      rw [HI.out]
      clear HI
      by_cases hn : n = l.length
      · have hnb : ((n : Int) != (l.length : Int)) = false := by simp; omega
        have HR := Lib.hid (HC.out.trans (if_pos ⟨rfl, hn⟩))
        clear hn
        go_wp2
        go_ret
        exact ⟨bq (by rw [HR.out]), HX.out.alloc _⟩
      · have hnb : ((n : Int) != (l.length : Int)) = true := by simp; omega
        have HR := Lib.hid (HC.out.trans (if_neg (fun h => hn h.2)))
        clear hn
        go_wp2
        go_ret
        exact ⟨bq (by rw [HR.out]; rfl), HX.out.alloc _⟩
    · have HI := Lib.hid (show jP 0 (k, n, e) = .agg #[.int .i64 0, .int .i64 0, .int .i64 e, .int .i64 ((0 + n : Nat) : Int)] from by simp [jP, he])
      rw [HI.out]
      clear HI
      have heb : ((e : Int) != 0) = true := by simp; omega
      have HR := Lib.hid (HC.out.trans (if_neg (fun h => he h.1)))
      go_wp2
      go_ret
      exact ⟨bq (by rw [HR.out]; rfl), HX.out.alloc _⟩
end Go.Proofs.YtiknldgpnhikhaaGreat
namespace Go.Proofs.YtiknldgpnhikhaaGreat
open Go.RowKit Lx Sx
theorem sum0_calls {fid : FuncId} {us : List V} {v : V} (hp1 : pureL us = true) (hp2 : v.pure = true) (h : ∀ (S : Nat → Prop) w ρ xs, LRel S w ρ us xs → Calls Tryz.prog fid xs.toArray w fun e w' => ∃ x, e = .returned x ∧ VRel S w' ρ v x ∧ Chg [] w w') : aP Tryz.prog fid us v :=
  ⟨hp1, hp2, fun S w ρ xs hr hx => (h S w ρ xs hx).mono fun e w' ⟨x, h1, h2, hc⟩ =>
    ⟨x, S, ρ, v, _, h1, rfl, hr.chg0 hc, ⟨ChgP.of0 hc, fun _ h => h, fun _ h => .inl h, fun id b hb => .inl ⟨id, hb⟩, fun id x h => by
      simp only [qL] at h
      split at h
      · exact h
      · cases h⟩, h2⟩⟩
theorem vj {w w' : World} (h : Ext w w') : Chg [] w w' := Chg.of_ext h []
theorem AR (l : List UInt8) (hl : l.length ≤ 281474976710656) : aP Tryz.prog 80 [.str l] (.int .i64 (bi l : Nat)) :=
  sum0_calls rfl rfl fun S w ρ xs hx => by
    simp only [LRel] at hx
    obtain ⟨x, ys, rfl, h1, rfl⟩ := hx
    simp only [VRel] at h1; subst h1
    exact (BO l w hl).mono fun e w' ⟨h1, h2⟩ => ⟨_, h1, by simp only [VRel], h2 ▸ Chg.refl _ _⟩
theorem yQ (l : List UInt8) (hl : l.length ≤ 281474976710656) : aP Tryz.prog 88 [.str l] (.int .i64 (bi l : Nat)) :=
  sum0_calls rfl rfl fun S w ρ xs hx => by
    simp only [LRel] at hx
    obtain ⟨x, ys, rfl, h1, rfl⟩ := hx
    simp only [VRel] at h1; subst h1
    exact (tH l w hl).mono fun e w' ⟨h1, h2⟩ => ⟨_, h1, by simp only [VRel], vj h2⟩
end Go.Proofs.YtiknldgpnhikhaaGreat
namespace Go.Proofs.YtiknldgpnhikhaaGreat
open Go.RowKit Lx Sx
def lsum : List (List UInt8) → Nat
  | [] => 0
  | l :: r => l.length + 1 + lsum r
mutual
def tbulk : Tree → Nat
  | .node _ s ls ks => s.length + lsum ls + kbulk ks + 1
def kbulk : List Tree → Nat
  | [] => 0
  | t :: r => tbulk t + kbulk r
end
theorem bu (t : Tree) : 0 < tbulk t := by cases t; simp only [tbulk]; omega
theorem gh : ∀ (ks : List Tree), ks.length ≤ kbulk ks
  | [] => Nat.le_refl _
  | t :: r => by have := gh r; have := bu t; simp only [kbulk, List.length_cons]; omega
theorem dz : ∀ {ks : List Tree} {i : Nat} {t : Tree}, ks[i]? = some t → tbulk t ≤ kbulk ks
  | [], i, t, h => by simp at h
  | u :: r, 0, t, h => by simp only [List.getElem?_cons_zero, Option.some.injEq] at h; subst h; simp only [kbulk]; omega
  | u :: r, i + 1, t, h => by have := dz (ks := r) (i := i) (by simpa using h); simp only [kbulk]; omega
theorem ep : ∀ (a b : List Tree), kbulk (a ++ b) = kbulk a + kbulk b
  | [], b => by simp [kbulk]
  | t :: r, b => by simp only [List.cons_append, kbulk, ep r b]; omega
theorem qw : ∀ (l : List (List UInt8)), l.length ≤ lsum l
  | [] => Nat.le_refl _
  | x :: r => by have := qw r; simp only [lsum, List.length_cons]; omega
theorem qj : ∀ {l : List (List UInt8)} {i : Nat} {x : List UInt8}, l[i]? = some x → x.length + 1 ≤ lsum l
  | [], i, x, h => by simp at h
  | u :: r, 0, x, h => by simp only [List.getElem?_cons_zero, Option.some.injEq] at h; subst h; simp only [lsum]; omega
  | u :: r, i + 1, x, h => by have := qj (l := r) (i := i) (by simpa using h); simp only [lsum]; omega
theorem bv (t : Tree) : tbulk t = t.text.length + lsum t.leads + kbulk t.kids + 1 := by cases t; simp [tbulk, Tree.text, Tree.leads, Tree.kids]
theorem bE {t u : Tree} {i : Nat} (h : t.kids[i]? = some u) : tbulk u < tbulk t := by
  have := dz h; rw [bv t]; omega
theorem dk (t : Tree) : t.kids.length < tbulk t := by
  have := gh t.kids; rw [bv t]; omega
theorem cd (t : Tree) : t.text.length < tbulk t := by rw [bv t]; omega
theorem sH (t : Tree) : t.leads.length < tbulk t := by
  have := qw t.leads; rw [bv t]; omega
theorem cm {C : Tree → Prop} (h : ∀ t : Tree, (∀ (i : Nat) (u : Tree), t.kids[i]? = some u → C u) → C t) : ∀ t, C t := fun t => by
  have : ∀ n t, tbulk t ≤ n → C t := fun n => by
    induction n with
    | zero => intro t ht; have := bu t; omega
    | succ n ih => intro t ht; exact h t fun i u hu => ih u (by have := bE hu; omega)
  exact this _ t (Nat.le_refl _)
theorem aS {α : Type} (l : List α) (i : Nat) : (∃ x, l[i]? = some x ∧ i < l.length) ∨ (¬ i < l.length) := by
  by_cases h : i < l.length
  · exact .inl ⟨l[i], by simp [h], h⟩
  · exact .inr h
theorem bO {α : Type} {l : List α} {i : Nat} {x : α} (h : l[i]? = some x) : l.drop i = x :: l.drop (i + 1) := by
  obtain ⟨hl, rfl⟩ := List.getElem?_eq_some_iff.1 h
  exact List.drop_eq_getElem_cons hl
end Go.Proofs.YtiknldgpnhikhaaGreat
namespace Go.Proofs.YtiknldgpnhikhaaGreat
open Go.RowKit Lx Sx
set_option maxHeartbeats 1000000
def f0 (n : Int) (least leads list : Nat) (most : Int) : Int := if 0 ≤ most ∧ most < n then -1 else if n < least then -1 else if most < 0 ∧ (list : Int) < n then leads + (n - list - 1) else leads
def dd (k n : Int) : Int := if k = 1 then (if n < 0 then -1 else 3) else if k = 2 then f0 n 2 6 2 (-1) else if k = 16 then f0 n 0 3 0 (-1) else if k = 18 then f0 n 1 2 0 (-1) else if k = 3 then f0 n 1 3 0 1 else if k = 4 then f0 n 1 2 0 1 else if k = 8 then f0 n 1 2 0 1 else if k = 22 then f0 n 1 2 0 1 else if k = 17 then f0 n 1 0 0 1 else if k = 19 then f0 n 3 3 0 3 else if k = 20 then f0 n 2 4 0 2 else if k = 21 then f0 n 2 1 0 2 else if k = 5 ∨ k = 6 ∨ k = 7 ∨ k = 9 ∨ k = 10 ∨ k = 11 ∨ k = 12 ∨ k = 13 ∨ k = 14 ∨ k = 15 then f0 n 0 1 0 0 else -1
theorem nj (a b c : Int) : ea a b c (if a < b then -1 else c) := p8 0 _ _ _ _ ⟨fun h => by rw [if_pos h], fun h => by rw [if_neg h]⟩
theorem A6 (a b c : Int) : bY a b c (if a = b then c else -1) := o5 0 _ _ _ _ ⟨fun h => by rw [if_pos h], fun h => by rw [if_neg h]⟩
theorem Bo (m : Nat) {n : Int} (h0 : 0 ≤ n) (h1 : n ≤ 1000000000) (a b c : Nat) (z : Int) (hb : b ≤ 10) (hc : c ≤ 2) (hz : ¬ (0 ≤ z ∧ z < n)) : ix (m + 1) n a b c z (f0 n a b c z) := by
  refine qK m _ _ _ _ _ _ ⟨fun h => ⟨fun h' => ⟨by omega, by omega, by omega, _, nj _ _ _, ?_⟩, fun h' => ⟨_, nj _ _ _, ?_⟩⟩, fun h => ⟨_, nj _ _ _, ?_⟩⟩
  · simp only [f0, if_neg hz, h, h', true_and, if_true]
  · simp only [f0, if_neg hz, h, h', true_and, if_false]
  · simp only [f0, if_neg hz, h, false_and, if_false]
theorem Bi (m : Nat) {n : Int} (h0 : 0 ≤ n) (h1 : n ≤ 1000000000) (a b c : Nat) (z : Int) (hb : b ≤ 10) (hc : c ≤ 2) : aJ (m + 2) n a b c z (f0 n a b c z) := by
  refine qC (m + 1) _ _ _ _ _ _ ⟨fun h => ⟨fun h' => ?_, fun h' => Bo m h0 h1 _ _ _ _ hb hc (by omega)⟩, fun h => Bo m h0 h1 _ _ _ _ hb hc (by omega)⟩
  simp [f0, h, h']
theorem zZ {k n : Int} (h0 : 0 ≤ n) (h1 : n ≤ 1000000000) : lq k n (dd k n) := by
  have l0 : ∀ {r : Int} (a b c : Nat) (z : Int), b ≤ 10 → c ≤ 2 → r = f0 n a b c z → aJ 3 n a b c z r := fun a b c z hb hc e => by rw [e]; exact Bi 1 h0 h1 a b c z hb hc
  have l0' : ∀ {r : Int} (a b c : Nat) (z : Int), b ≤ 10 → c ≤ 2 → r = f0 n a b c z → aJ 4 n a b c z r := fun a b c z hb hc e => by rw [e]; exact Bi 2 h0 h1 a b c z hb hc
  refine ru 4 _ _ _ ?_
  repeat' first | (refine ⟨_, nj _ _ _, ?_⟩) | (refine And.intro (fun _ => ?_) (fun _ => ?_)) | (refine qJ 3 _ _ _ _ ?_)
  all_goals first | (refine l0' _ _ _ _ (by decide) (by decide) ?_) | (refine l0 _ _ _ _ (by decide) (by decide) ?_) | skip
  all_goals simp_all [dd]
theorem oC {k n : Int} (h0 : 0 ≤ n) (h1 : n ≤ 1000000000) : d6 k n (dd k n) := by
  refine oq 2 _ _ _ ?_
  repeat' first | (refine ⟨_, A6 _ _ _, ?_⟩) | (refine And.intro (fun _ => ?_) (fun _ => ?_)) | (refine nQ 1 _ _ _ _ ?_) | (refine nW 0 _ _ _ _ ?_) | (refine And.intro (by omega) ?_)
  all_goals simp_all [dd]
  all_goals (try unfold f0)
  all_goals (repeat' split)
  all_goals omega
def rh (x : List UInt8) : Bool := x == [43] || x == [45] || x == [42] || x == [60] || x == [61, 61]
def jK (k : Int) (x : List UInt8) : Bool := if k = 1 ∨ k = 3 then (bi x : Int) == 2 else if k = 2 ∨ k = 4 ∨ k = 12 ∨ k = 20 then (bi x : Int) == 1 else if k = 9 then (bi x : Int) == 2 || (bi x : Int) == 4 else if k = 16 then (bi x : Int) == 1 || (bi x : Int) == 3 else if k = 10 then (bi x : Int) == 5 else if k = 11 then (bi x : Int) == 6 else if k = 21 then rh x else x == []
theorem wM (x : List UInt8) : jd x (rh x) := by
  refine pH 0 _ _ ?_
  repeat' (refine And.intro (fun _ => ?_) (fun _ => ?_))
  all_goals simp_all [rh]
theorem uL (x : List UInt8) : fk x (rh x) := by
  refine ms 0 _ _ ?_
  repeat' (refine And.intro (fun _ => ?_) (fun _ => ?_))
  all_goals simp_all [rh]
theorem zo (k : Int) (x : List UInt8) (hx : x.length ≤ 281474976710656) : kD k x (jK k x) := by
  refine qM 2 _ _ _ ?_
  refine ⟨_, AR x hx, ?_⟩
  repeat' first | (refine ⟨_, wM _, ?_⟩) | (refine And.intro (fun _ => ?_) (fun _ => ?_)) | (refine p9 1 _ _ _ _ _ ?_) | (refine p6 0 _ _ _ _ _ ?_)
  all_goals simp_all [jK]
theorem yn (k : Int) (x : List UInt8) (hx : x.length ≤ 281474976710656) : gk k x (jK k x) := by
  refine nf 2 _ _ _ ?_
  refine ⟨_, yQ x hx, ?_⟩
  repeat' first | (refine ⟨_, uL _, ?_⟩) | (refine And.intro (fun _ => ?_) (fun _ => ?_)) | (refine m6 1 _ _ _ _ _ ?_) | (refine mY 0 _ _ _ _ _ ?_)
  all_goals simp_all [jK]
def ga (k : Int) : Bool := decide (5 ≤ k ∧ k ≤ 9)
def kW (k : Int) : Bool := decide (10 ≤ k ∧ k ≤ 22 ∧ k ≠ 17)
def pT (k : Int) : Bool := kW k && decide (k ≠ 19 ∧ k ≠ 20 ∧ k ≠ 21)
theorem zr (k : Int) : iE k (ga k) := qF 0 _ _ ⟨fun h => by simp [ga, h], fun h => by simp [ga, h]⟩
theorem pC (k : Int) : dG k (ga k) := nY 0 _ _ ⟨fun h => by simp [ga, h], fun h => by simp [ga, h]⟩
theorem pO (a b : Int) : (a != b) = decide (a ≠ b) := by by_cases h : a = b <;> simp [h]
theorem tA (k : Int) : ds k (kW k) := nM 0 _ _ ⟨fun h => ⟨fun h' => by simp [kW, h, h', pO], fun h' => by simp [kW, h, h']⟩, fun h => by simp [kW, h]⟩
theorem sg (k : Int) : dI k (kW k) := nR 0 _ _ ⟨fun h => ⟨fun h' => by simp [kW, h, h', pO], fun h' => by simp [kW, h, h']⟩, fun h => by simp [kW, h]⟩
theorem zb (k : Int) : kH k (pT k) := by
  refine qy 0 _ _ ⟨_, tA k, ?_⟩
  repeat' (refine And.intro (fun _ => ?_) (fun _ => ?_))
  all_goals simp_all [pT, pO]
theorem pc (k : Int) : eV k (pT k) := by
  refine nZ 0 _ _ ⟨_, sg k, ?_⟩
  repeat' (refine And.intro (fun _ => ?_) (fun _ => ?_))
  all_goals simp_all [pT, pO]
def jQ (k n : Int) (i : Int) (kk : Int) : Bool := if k = 1 then kk == 2 || kk == 3 else if k = 2 then (if i = n - 1 then kW kk else if i = n - 2 then ga kk else kk == 4) else if k = 3 ∨ k = 4 ∨ k = 8 then ga kk else if k = 16 then kk == 17 else if k = 21 then pT kk || (decide (i = 0) && kk == 21) else kW kk
theorem Am {t u : Tree} {i : Nat} (hu : t.kids[i]? = some u) : lI t i (jQ t.kind t.kids.length i u.kind) := by
  refine ry 1 _ _ _ ⟨i, rfl, u, hu, ?_⟩
  repeat' first | (refine ⟨_, tA _, ?_⟩) | (refine ⟨_, zr _, ?_⟩) | (refine ⟨_, zb _, ?_⟩) | (refine And.intro (fun _ => ?_) (fun _ => ?_)) | (refine ql 0 _ _ _ _ _ ?_)
  all_goals simp_all [jQ]
theorem B2 (t : Tree) (i : Nat) (kk : Int) : jc t i kk (jQ t.kind t.kids.length i kk) := by
  refine pL 1 _ _ _ _ ?_
  repeat' first | (refine ⟨_, sg _, ?_⟩) | (refine ⟨_, pC _, ?_⟩) | (refine ⟨_, pc _, ?_⟩) | (refine And.intro (fun _ => ?_) (fun _ => ?_)) | (refine o6 0 _ _ _ _ _ ?_)
  all_goals simp_all [jQ]
mutual
def shapeK : Tree → Bool
  | .node k s _ ks => decide (0 ≤ dd k ks.length) && jK k s && shapeKs k ks.length 0 ks
def shapeKs (k n : Int) : Nat → List Tree → Bool
  | _, [] => true
  | i, t :: r => jQ k n i t.kind && shapeK t && shapeKs k n (i + 1) r
end
theorem dP (t : Tree) : shapeK t = (decide (0 ≤ dd t.kind t.kids.length) && jK t.kind t.text && shapeKs t.kind t.kids.length 0 t.kids) := by cases t; simp only [shapeK]; rfl
theorem mO : ∀ t : Tree, tbulk t ≤ 1000000000 → eE t (shapeK t) := cm fun t ih hb => by
  have hk := dk t
  have ht := cd t
  have loop : ∀ m i, t.kids.length - i ≤ m → (0 ≤ dd t.kind t.kids.length ∧ jK t.kind t.text = true) → gZ (m + 1) t i (shapeKs t.kind t.kids.length i (t.kids.drop i)) := fun m => by
    induction m with
    | zero =>
      intro i hi hw
      refine ml 0 _ _ _ ⟨fun h => by omega, fun h => ?_⟩
      rw [List.drop_of_length_le (by omega), shapeKs]
    | succ m ihm =>
      intro i hi hw
      refine ml (m + 1) _ _ _ ⟨fun h => ?_, fun h => ?_⟩
      · obtain ⟨u, hu, _⟩ | h' := aS t.kids i
        · rw [bO hu, shapeKs]
          have hbu := bE hu
          refine ⟨u, hu, _, Am hu, fun h1 => by simp [h1], fun h1 => ⟨_, ih i u hu (by omega), fun h2 => by simp [h1, h2], fun h2 => ⟨by omega, ?_⟩⟩⟩
          simp only [h1, h2, Bool.true_and]
          exact ihm (i + 1) (by omega) hw
        · exact absurd h h'
      · rw [List.drop_of_length_le (by omega), shapeKs]
  rw [dP]
  refine qN (t.kids.length + 1) _ _ ⟨_, zZ (by omega) (by omega), fun h => ?_, fun h => ⟨_, zo _ _ (by omega), fun h1 => by simp [h1], fun h1 => ?_⟩⟩
  · rw [decide_eq_false (by omega)]; rfl
  · rw [decide_eq_true (by omega), h1]
    exact loop _ 0 (by omega) ⟨by omega, h1⟩
theorem lZ : ∀ t : Tree, tbulk t ≤ 1000000000 → cj t (shapeK t) := cm fun t ih hb => by
  have hk := dk t
  have ht := cd t
  have loop : ∀ m i, t.kids.length - i ≤ m → eF (m + 1) t i (shapeKs t.kind t.kids.length i (t.kids.drop i)) := fun m => by
    induction m with
    | zero =>
      intro i hi
      refine jq 0 _ _ _ ⟨fun h => by omega, fun h => ?_⟩
      rw [List.drop_of_length_le (by omega), shapeKs]
    | succ m ihm =>
      intro i hi
      refine jq (m + 1) _ _ _ ⟨fun h => ?_, fun h => ?_⟩
      · obtain ⟨u, hu, _⟩ | h' := aS t.kids i
        · rw [bO hu, shapeKs]
          have hbu := bE hu
          refine ⟨u, hu, _, B2 _ _ _, fun h1 => by simp [h1], fun h1 => ⟨u, hu, _, ih i u hu (by omega), fun h2 => by simp [h1, h2], fun h2 => ?_⟩⟩
          simp only [h1, h2, Bool.true_and]
          exact ihm (i + 1) (by omega)
        · exact absurd h h'
      · rw [List.drop_of_length_le (by omega), shapeKs]
  rw [dP]
  refine nT (t.kids.length + 1) _ _ ⟨_, oC (by omega) (by omega), fun h => ?_, fun h => ⟨_, yn _ _ (by omega), fun h1 => by simp [h1], fun h1 => ?_⟩⟩
  · rw [decide_eq_false (by omega)]; rfl
  · rw [decide_eq_true (by omega), h1]
    exact loop _ 0 (by omega)
end Go.Proofs.YtiknldgpnhikhaaGreat
namespace Go.Proofs.YtiknldgpnhikhaaGreat
open Go.RowKit
set_option maxRecDepth 100000
set_option maxHeartbeats 1000000 in
theorem vE (s : ByteArray) (c : Int) (w : World) : Calls Tryz.prog 118 #[.string s, .int .u8 c] w fun e w' => e = .returned (.int .i64 (Lib.indexByte s.data.toList c.toNat.toUInt8)) ∧ w = w' := by
  go_enter Tryz.func118, Tryz.ntmps118
  go_wp2
  rw [run_callFunc_extern Tryz.func132 (by kernel_rfl) (by kernel_rfl) (by kernel_rfl) (e := Extern.BytealgIndexByte.indexByte) (by kernel_rfl), Lib.run_indexByteString]
  simp only [Result.andThen]
  rw [Oper.upon_value]
  go_wp2
  go_ret
  exact ⟨rfl, rfl⟩
theorem wQ (s : ByteArray) (c : Int) (w : World) : Calls Tryz.prog 97 #[.string s, .int .u8 c] w fun e w' => e = .returned (.int .i64 (Lib.indexByte s.data.toList c.toNat.toUInt8)) ∧ w = w' := by
  go_enter Tryz.func97, Tryz.ntmps97
  go_wp2_with (go_at_call 118; refine (vE _ _ _).mono ?_; rintro e w' ⟨rfl, rfl⟩)
  go_ret
  exact ⟨rfl, rfl⟩
end Go.Proofs.YtiknldgpnhikhaaGreat
namespace Go.Proofs.YtiknldgpnhikhaaGreat
open Go.RowKit Lx Sx
set_option maxHeartbeats 1000000
def bz (s : List UInt8) : List Tree → Nat → Int
  | [], _ => -1
  | t :: r, i => if t.text = s then (i : Int) else bz s r (i + 1)
theorem mE (s : List UInt8) : ∀ (l : List Tree) (i : Nat), bz s l i = -1 ∨ ∃ k t, bz s l i = ((i + k : Nat) : Int) ∧ l[k]? = some t ∧ t.text = s ∧ ∀ j u, j < k → l[j]? = some u → u.text ≠ s
  | [], i => .inl rfl
  | t :: r, i => by
    simp only [bz]
    split
    · rename_i h
      exact .inr ⟨0, t, rfl, rfl, h, fun j u hj _ => by omega⟩
    · rename_i h
      rcases mE s r (i + 1) with h1 | ⟨k, u, h1, h2, h3, h4⟩
      · exact .inl h1
      · refine .inr ⟨k + 1, u, by rw [h1]; congr 1; omega, by simpa using h2, h3, fun j x hj hx => ?_⟩
        cases j with
        | zero => simp at hx; subst hx; exact h
        | succ j => exact h4 j x (by omega) (by simpa using hx)
theorem yN (t : Tree) (s : List UInt8) : lp t s (t.text == s) := rp 0 _ _ _ rfl
theorem uW (l : List Tree) (s : List UInt8) (hl : l.length ≤ 1000000000) : iI l s (bz s l 0) := by
  have loop : ∀ m i, l.length - i ≤ m → fz (m + 1) l s i (bz s (l.drop i) i) := fun m => by
    induction m with
    | zero =>
      intro i hi
      refine kX 0 _ _ _ _ ⟨fun h => by omega, fun h => ?_⟩
      rw [List.drop_of_length_le (by omega), bz]
    | succ m ihm =>
      intro i hi
      refine kX (m + 1) _ _ _ _ ⟨fun h => ?_, fun h => ?_⟩
      · obtain ⟨u, hu, _⟩ | h' := aS l i
        · rw [bO hu, bz]
          refine ⟨u, hu, _, yN u s, fun h1 => ?_, fun h1 => ⟨by omega, ?_⟩⟩
          · rw [if_pos (by simpa using h1)]
          · rw [if_neg (by simpa using h1)]; exact ihm (i + 1) (by omega)
        · exact absurd h h'
      · rw [List.drop_of_length_le (by omega), bz]
  exact pa _ _ _ _ (loop l.length 0 (by omega))
theorem vt (l : List Tree) (s : List UInt8) (hl : l.length ≤ 1000000000) : kR l s (bz s l 0) := sT 0 _ _ _ ⟨_, uW l s hl, rfl⟩
def cr : List UInt8 → Nat → Int
  | [], _ => -1
  | c :: r, i => if c = 46 then (i : Int) else cr r (i + 1)
theorem oS : ∀ (l : List UInt8) (i : Nat), cr l i = -1 ∨ ∃ k, cr l i = ((i + k : Nat) : Int) ∧ k < l.length
  | [], i => .inl rfl
  | c :: r, i => by
    simp only [cr]
    split
    · exact .inr ⟨0, rfl, by simp⟩
    · rcases oS r (i + 1) with h1 | ⟨k, h1, h2⟩
      · exact .inl h1
      · exact .inr ⟨k + 1, by rw [h1]; congr 1; omega, by simp; omega⟩
theorem zK (c : UInt8) : ∀ (l : List UInt8), -1 ≤ Lib.indexByte l c
  | [] => by simp [Lib.indexByte]
  | b :: r => by
    have := zK c r
    simp only [Lib.indexByte]
    split
    · omega
    · split <;> omega
theorem oY : ∀ (l : List UInt8) (i : Nat), cr l i = if Lib.indexByte l 46 = -1 then -1 else Lib.indexByte l 46 + (i : Int)
  | [], i => by simp [cr, Lib.indexByte]
  | c :: r, i => by
    have ih := oY r (i + 1)
    have := zK 46 r
    simp only [cr, Lib.indexByte, ih]
    by_cases h : c = 46
    · simp [h]
    · have h' : (c == 46) = false := by simpa using h
      simp only [if_neg h, h']
      by_cases h2 : Lib.indexByte r 46 = -1
      · simp [h2]
      · have h3 : (Lib.indexByte r 46 == -1) = false := by simpa using h2
        simp only [if_neg h2, h3, Bool.false_eq_true, if_false]
        rw [if_neg (by omega)]; omega
theorem u5 (l : List UInt8) : fq l 46 (cr l 0) := sum0_calls rfl rfl fun S w ρ xs hx => by
  simp only [LRel] at hx
  obtain ⟨x, ys, rfl, h1, y, zs, rfl, h2, rfl⟩ := hx
  simp only [VRel] at h1 h2; subst h1 h2
  refine (vE _ _ w).mono fun e w' ⟨h1, h2⟩ => ⟨_, h1, ?_, h2 ▸ Chg.refl _ _⟩
  simp only [VRel]
  have e : cr l 0 = Lib.indexByte l 46 := by
    rw [oY]; split
    · rename_i h; rw [h]
    · simp
  rw [e]; rfl
theorem AB (l : List UInt8) : dl l (cr l 0) := by
  refine jG 1 _ _ ⟨fun h => ?_, fun h => ja 0 _ _ ?_⟩
  · subst h; rfl
  · exact ⟨_, u5 l, rfl⟩
theorem A3 (l : List UInt8) (hl : l.length ≤ 1000000000) : jf l (if 0 ≤ cr l 0 then l.take (cr l 0).toNat else l) (if 0 ≤ cr l 0 then l.drop ((cr l 0).toNat + 1) else []) (decide (0 ≤ cr l 0)) := by
  refine px 0 _ _ _ _ ⟨_, _, _, ?_, rfl, rfl, rfl⟩
  refine kn 0 _ _ _ _ ⟨_, AB l, fun h => ?_, fun h => ?_⟩
  · rcases oS l 0 with h1 | ⟨k, h1, h2⟩
    · rw [h1] at h; omega
    · rw [h1]
      exact ⟨k, by simp, by omega, by omega, k + 1, by simp, by omega, by simp, by simp, by simp⟩
  · simp [h]
def inK (p : List Tree) (m : Int) (w : List UInt8) : Int × Int × Bool := if m < 0 then (0, 0, false) else match p[m.toNat]? with
  | none => (0, 0, false)
  | some t => if bz w t.kids 0 < 0 then (0, 0, false) else (m, bz w t.kids 0, true)
def aY (p : List Tree) (m : Int) (w : List UInt8) : Int × Int × Bool := if 0 ≤ cr w 0 then inK p (bz (w.take (cr w 0).toNat) p 0) (w.drop ((cr w 0).toNat + 1)) else inK p m w
theorem vJ {p : List Tree} {m : Int} {w : List UInt8} (hm : m < p.length) (hp : kbulk p ≤ 1000000000) : i4 1 p m w (inK p m w).1 (inK p m w).2.1 (inK p m w).2.2 := by
  refine ri 0 _ _ _ _ _ _ ⟨fun h => by simp [inK, h], fun h => ?_⟩
  obtain ⟨t, ht, _⟩ | h' := aS p m.toNat
  · have := dz ht
    have := dk t
    refine ⟨m.toNat, by omega, t, ht, _, vt _ _ (by omega), fun h1 => ?_, fun h1 => ?_⟩
    · simp [inK, h, ht, h1]
    · simp [inK, h, ht, h1]
  · omega
theorem tp {p : List Tree} {m : Int} {w : List UInt8} (h0 : 0 ≤ m) (hm : m < p.length) (hp : kbulk p ≤ 1000000000) (hw : w.length ≤ 1000000000) : jJ p m w (aY p m w).1 (aY p m w).2.1 (aY p m w).2.2 := by
  have hpl := gh p
  refine rW 1 _ _ _ _ _ _ ⟨fun h => by omega, fun h => ⟨fun h => by omega, fun h => ⟨_, _, _, A3 w hw, fun h1 => ?_, fun h1 => ?_⟩⟩⟩
  · have h1 : 0 ≤ cr w 0 := by simpa using h1
    simp only [if_pos h1, aY]
    refine ⟨_, vt _ _ (by omega), ?_⟩
    refine vJ ?_ hp
    rcases mE (w.take (cr w 0).toNat) p 0 with h2 | ⟨k, t, h2, h3, _⟩
    · rw [h2]; omega
    · have := (List.getElem?_eq_some_iff.1 h3).1
      rw [h2]; omega
  · have h1 : ¬ 0 ≤ cr w 0 := by simpa using h1
    simp only [aY, if_neg h1]
    exact vJ hm hp
theorem zV (l : List UInt8) (hl : l.length ≤ 1000000000) : je l (cr l 0) := by
  have loop : ∀ m i, l.length - i ≤ m → f6 (m + 1) l i (cr (l.drop i) i) := fun m => by
    induction m with
    | zero =>
      intro i hi
      refine lh 0 _ _ _ ⟨fun h => by omega, fun h => ?_⟩
      rw [List.drop_of_length_le (by omega), cr]
    | succ m ihm =>
      intro i hi
      refine lh (m + 1) _ _ _ ⟨fun h => ?_, fun h => ?_⟩
      · obtain ⟨u, hu, _⟩ | h' := aS l i
        · rw [bO hu, cr]
          refine ⟨u, hu, fun h1 => ?_, fun h1 => ⟨by omega, ?_⟩⟩
          · rw [if_pos (UInt8.toNat_inj.1 (by show u.toNat = 46; omega))]
          · rw [if_neg (fun e => h1 (by subst e; rfl))]; exact ihm (i + 1) (by omega)
        · exact absurd h h'
      · rw [List.drop_of_length_le (by omega), cr]
  exact pr _ _ _ (loop l.length 0 (by omega))
theorem AN {p : List Tree} {m k : Nat} {t : Tree} {w : List UInt8} (ht : p[k]? = some t) : ∀ i, t.kids.length - i ≤ m → da (m + 1) p i (k : Int) w (if bz w (t.kids.drop i) i < 0 then 0 else (k : Int)) (if bz w (t.kids.drop i) i < 0 then 0 else bz w (t.kids.drop i) i) (decide (¬ bz w (t.kids.drop i) i < 0)) := by
  induction m with
  | zero =>
    intro i hi
    refine kU 0 _ _ _ _ _ _ _ ⟨k, rfl, t, ht, fun h => by omega, fun h => ?_⟩
    rw [List.drop_of_length_le (by omega), bz]; simp
  | succ m ihm =>
    intro i hi
    refine kU (m + 1) _ _ _ _ _ _ _ ⟨k, rfl, t, ht, fun h => ?_, fun h => ?_⟩
    · obtain ⟨u, hu, _⟩ | h' := aS t.kids i
      · rw [bO hu, bz]
        refine ⟨k, rfl, t, ht, u, hu, fun h1 => ?_, fun h1 => ?_⟩
        · have h2 : ¬ ((i : Int) < 0) := by omega
          simp only [if_pos h1, if_neg h2]; simp [h2]
        · simp only [if_neg h1]; exact ihm (i + 1) (by omega)
      · exact absurd h h'
    · rw [List.drop_of_length_le (by omega), bz]; simp
theorem x9 {p : List Tree} {m : Int} {w : List UInt8} (h0 : 0 ≤ m) (hm : m < p.length) (hp : kbulk p ≤ 1000000000) (hw : w.length ≤ 1000000000) : fY p m w (aY p m w).1 (aY p m w).2.1 (aY p m w).2.2 := by
  have hpl := gh p
  have one : ∀ (k : Nat) (x : List UInt8) t, p[k]? = some t → ∃ M, ∀ m', M ≤ m' → da m' p 0 (k : Int) x (inK p k x).1 (inK p k x).2.1 (inK p k x).2.2 := fun k x t ht => by
    refine ⟨t.kids.length + 1, fun m' hm' => ?_⟩
    obtain ⟨q, rfl⟩ : ∃ q, m' = q + 1 := ⟨m' - 1, by omega⟩
    have := AN (w := x) (m := q) ht 0 (by omega)
    have e : inK p k x = (if bz x (t.kids.drop 0) 0 < 0 then 0 else (k : Int), if bz x (t.kids.drop 0) 0 < 0 then 0 else bz x (t.kids.drop 0) 0, decide (¬ bz x (t.kids.drop 0) 0 < 0)) := by
      simp only [inK, show ¬ ((k : Int) < 0) by omega, if_false, Int.toNat_natCast, ht, List.drop_zero]
      split <;> simp_all
    rw [e]; exact this
  by_cases hd : 0 ≤ cr w 0
  · rcases oS w 0 with h1 | ⟨k, h1, h2⟩
    · rw [h1] at hd; omega
    have hk : (cr w 0).toNat = k := by rw [h1]; simp
    simp only [aY, if_pos hd, hk]
    -- the module
    have loop : ∀ n i, p.length - i ≤ n → i ≤ p.length → ∃ M, ∀ m', M ≤ m' → d8 m' p w (cr w 0) i (inK p (bz (w.take k) (p.drop i) i) (w.drop (k + 1))).1 (inK p (bz (w.take k) (p.drop i) i) (w.drop (k + 1))).2.1 (inK p (bz (w.take k) (p.drop i) i) (w.drop (k + 1))).2.2 := fun n => by
      have last : ∀ i, i = p.length → ∃ M, ∀ m', M ≤ m' → d8 m' p w (cr w 0) i (inK p (bz (w.take k) (p.drop i) i) (w.drop (k + 1))).1 (inK p (bz (w.take k) (p.drop i) i) (w.drop (k + 1))).2.1 (inK p (bz (w.take k) (p.drop i) i) (w.drop (k + 1))).2.2 := fun i hi => by
        refine ⟨2, fun m' hm' => ?_⟩
        obtain ⟨q, rfl⟩ : ∃ q, m' = q + 2 := ⟨m' - 2, by omega⟩
        refine hU (q + 1) _ _ _ _ _ _ _ ⟨fun h => by omega, fun _ => kA q _ _ _ _ _ _ _ ⟨fun _ => ?_, fun h => absurd hi h⟩⟩
        rw [List.drop_of_length_le (by omega), bz]; simp [inK]
      induction n with
      | zero => intro i hi hle; exact last i (by omega)
      | succ n ih =>
        intro i hi hle
        obtain ⟨u, hu, hlt⟩ | h' := aS p i
        · by_cases ht : u.text = w.take k
          · obtain ⟨M, hM⟩ := one i (w.drop (k + 1)) u hu
            refine ⟨M + 2, fun m' hm' => ?_⟩
            obtain ⟨q, rfl⟩ : ∃ q, m' = q + 2 := ⟨m' - 2, by omega⟩
            rw [bO hu, bz, if_pos ht]
            refine hU (q + 1) _ _ _ _ _ _ _ ⟨fun _ => ⟨u, hu, k, by rw [h1]; simp, by omega, fun h => absurd ht h, fun _ => ?_⟩, fun h => absurd hlt h⟩
            refine kA q _ _ _ _ _ _ _ ⟨fun h => by omega, fun _ => ⟨by rw [h1]; omega, k + 1, by rw [h1]; omega, by omega, hM q (by omega)⟩⟩
          · obtain ⟨M, hM⟩ := ih (i + 1) (by omega) (by omega)
            refine ⟨M + 1, fun m' hm' => ?_⟩
            obtain ⟨q, rfl⟩ : ∃ q, m' = q + 1 := ⟨m' - 1, by omega⟩
            rw [bO hu, bz, if_neg ht]
            exact hU q _ _ _ _ _ _ _ ⟨fun _ => ⟨u, hu, k, by rw [h1]; simp, by omega, fun _ => hM q (by omega), fun h => absurd h ht⟩, fun h => absurd hlt h⟩
        · exact last i (by omega)
    obtain ⟨M, hM⟩ := loop p.length 0 (by omega) (by omega)
    exact lc M _ _ _ _ _ _ ⟨_, zV w hw, fun _ => hM M (Nat.le_refl _), fun h => absurd hd h⟩
  · simp only [aY, if_neg hd]
    obtain ⟨t, ht, _⟩ | h' := aS p m.toNat
    · obtain ⟨M, hM⟩ := one m.toNat w t ht
      have := hM M (Nat.le_refl _)
      rw [show ((m.toNat : Nat) : Int) = m by omega] at this
      exact lc M _ _ _ _ _ _ ⟨_, zV w hw, fun h => absurd h hd, fun _ => this⟩
    · omega
end Go.Proofs.YtiknldgpnhikhaaGreat
namespace Go.Proofs.YtiknldgpnhikhaaGreat
open Go.RowKit Lx Sx
set_option maxHeartbeats 1000000
mutual
def nodK : Tree → List Int → List (List Int × Tree)
  | .node k s ls ks, q => (q, .node k s ls ks) :: nodKs ks q 0
def nodKs : List Tree → List Int → Nat → List (List Int × Tree)
  | [], _, _ => []
  | t :: r, q, i => nodK t (q ++ [(i : Int)]) ++ nodKs r q (i + 1)
end
theorem mw (t : Tree) (q : List Int) : nodK t q = (q, t) :: nodKs t.kids q 0 := by cases t; simp only [nodK]; rfl
mutual
theorem nodK_len : ∀ (t : Tree) (q : List Int), (nodK t q).length ≤ tbulk t
  | .node k s ls ks, q => by have := nodKs_len ks q 0; simp only [nodK, tbulk, List.length_cons]; omega
theorem nodKs_len : ∀ (l : List Tree) (q : List Int) (i : Nat), (nodKs l q i).length ≤ kbulk l
  | [], _, _ => by simp [nodKs, kbulk]
  | t :: r, q, i => by have := nodK_len t (q ++ [(i : Int)]); have := nodKs_len r q (i + 1); simp only [nodKs, kbulk, List.length_append]; omega
end
def atK : Tree → List Int → Option Tree
  | t, [] => some t
  | t, i :: r => if i < 0 then none else match t.kids[i.toNat]? with
    | none => none
    | some u => atK u r
theorem va : ∀ (t : Tree) (q r : List Int), atK t (q ++ r) = (atK t q).bind fun u => atK u r
  | t, [], r => rfl
  | t, i :: q, r => by
    simp only [List.cons_append, atK]
    split
    · rfl
    · split
      · rfl
      · rename_i u hu; exact va u q r
theorem Aq {t u : Tree} {i : Nat} (h : t.kids[i]? = some u) : atK t [(i : Int)] = some u := by
  simp [atK, h, show ¬ ((i : Int) < 0) by omega]
mutual
theorem nodK_at (root : Tree) : ∀ (t : Tree) (q : List Int), atK root q = some t → ∀ x ∈ nodK t q, atK root x.1 = some x.2
  | .node k s ls ks, q, h, x, hx => by
    simp only [nodK, List.mem_cons] at hx
    rcases hx with rfl | hx
    · exact h
    · exact nodKs_at root (.node k s ls ks) q h ks 0 rfl x hx
theorem nodKs_at (root t : Tree) (q : List Int) (h : atK root q = some t) : ∀ (l : List Tree) (i : Nat), t.kids.drop i = l → ∀ x ∈ nodKs l q i, atK root x.1 = some x.2
  | [], _, _, x, hx => by simp [nodKs] at hx
  | u :: r, i, hd, x, hx => by
    simp only [nodKs, List.mem_append] at hx
    have hu : t.kids[i]? = some u := by
      have := congrArg (·[0]?) hd
      simpa using this
    rcases hx with hx | hx
    · exact nodK_at root u (q ++ [(i : Int)]) (by rw [va, h]; exact Aq hu) x hx
    · exact nodKs_at root t q h r (i + 1) (by rw [← List.tail_drop, hd]; rfl) x hx
end
mutual
theorem nodK_bnd : ∀ (t : Tree) (q : List Int), ∀ x ∈ nodK t q, x.1.length + tbulk x.2 ≤ q.length + tbulk t
  | .node k s ls ks, q, x, hx => by
    simp only [nodK, List.mem_cons] at hx
    rcases hx with rfl | hx
    · exact Nat.le_refl _
    · have := nodKs_bnd ks q 0 x hx; simp only [tbulk]; omega
theorem nodKs_bnd : ∀ (l : List Tree) (q : List Int) (i : Nat), ∀ x ∈ nodKs l q i, x.1.length + tbulk x.2 ≤ q.length + kbulk l + 1
  | [], _, _, x, hx => by simp [nodKs] at hx
  | t :: r, q, i, x, hx => by
    simp only [nodKs, List.mem_append] at hx
    rcases hx with hx | hx
    · have := nodK_bnd t (q ++ [(i : Int)]) x hx; simp only [kbulk, List.length_append, List.length_singleton] at *; omega
    · have := nodKs_bnd r q (i + 1) x hx; simp only [kbulk]; omega
end
theorem zf (l : List Int) (hl : l.length ≤ 1000000000) : jR l l := p7 0 _ _ fun b hb => ⟨fun h => (List.length_eq_zero_iff.1 (hb h)).symm, fun _ => ⟨hl, rfl⟩⟩
theorem qe (l : List (List UInt8)) : fO l l true := by
  have loop : ∀ m i, l.length - i ≤ m → dH (m + 1) l l i true := fun m => by
    induction m with
    | zero => intro i hi; exact iy 0 _ _ _ _ ⟨fun h => by omega, fun h => rfl⟩
    | succ m ihm =>
      intro i hi
      refine iy (m + 1) _ _ _ _ ⟨fun h => ?_, fun h => rfl⟩
      obtain ⟨u, hu, _⟩ | h' := aS l i
      · exact ⟨u, hu, u, hu, fun h => absurd rfl h, fun _ => ihm (i + 1) (by omega)⟩
      · exact absurd h h'
  exact mW (l.length + 1) _ _ _ ⟨fun h => absurd rfl h, fun _ => loop l.length 0 (by omega)⟩
end Go.Proofs.YtiknldgpnhikhaaGreat
namespace Go.Proofs.YtiknldgpnhikhaaGreat
open Go.RowKit Lx Sx
set_option maxHeartbeats 1000000
def lx (u : Tree) : Bool := u.kind == 16 || u.kind == 9
def tgK (p : List Tree) (m : Int) (q : List Int) (u : Tree) : GTarget := ⟨⟨m, q⟩, (aY p m u.text).1, (aY p m u.text).2.1, !(aY p m u.text).2.2⟩
def im (p : List Tree) (m : Int) : List (List Int × Tree) → List GTarget
  | [] => []
  | x :: r => (if lx x.2 then [tgK p m x.1 x.2] else []) ++ im p m r
theorem tE (p : List Tree) (m : Int) : ∀ a b, im p m (a ++ b) = im p m a ++ im p m b
  | [], b => rfl
  | x :: r, b => by simp only [List.cons_append, im, tE p m r b, List.append_assoc]
theorem oV (p : List Tree) (m : Int) : ∀ a, (im p m a).length ≤ a.length
  | [] => Nat.le_refl _
  | x :: r => by have := oV p m r; simp only [im, List.length_append, List.length_cons]; split <;> simp <;> omega
theorem AC {p : List Tree} {M : Int} (h0 : 0 ≤ M) (hM : M < p.length) (hp : kbulk p ≤ 1000000000) : ∀ (t : Tree) (q : List Int) (fd : List GTarget), q.length + tbulk t ≤ 1000000000 → fd.length + tbulk t ≤ 1000000000 → ec p M q fd t p M q (fd ++ im p M (nodK t q)) := cm fun t ih q fd hq hf => by
  have hk := dk t
  have ht := cd t
  have hb := bv t
  have loop : ∀ k i fd, t.kids.length - i ≤ k → fd.length + kbulk (t.kids.drop i) ≤ 1000000000 → cS (k + 1) t fd p M q i p M q (fd ++ im p M (nodKs (t.kids.drop i) q i)) := fun k => by
    induction k with
    | zero =>
      intro i fd hi hf
      refine iW 0 _ _ _ _ _ _ _ _ _ _ ⟨fun h => by omega, fun h => ⟨rfl, rfl, rfl, ?_⟩⟩
      rw [List.drop_of_length_le (by omega)]; simp [nodKs, im]
    | succ k ihk =>
      intro i fd hi hf
      refine iW (k + 1) _ _ _ _ _ _ _ _ _ _ ⟨fun h => ?_, fun h => ⟨rfl, rfl, rfl, ?_⟩⟩
      · obtain ⟨u, hu, _⟩ | h' := aS t.kids i
        · have hd := bO hu
          rw [hd, kbulk] at hf
          have hbu := bE hu
          have hl := nodK_len u (q ++ [(i : Int)])
          have hl2 := oV p M (nodK u (q ++ [(i : Int)]))
          refine ⟨u, hu, by simp; omega, _, _, _, _, ih i u hu (q ++ [(i : Int)]) fd (by simp; omega) (by omega), q.length, by simp, by simp, by omega, ?_⟩
          have := ihk (i + 1) (fd ++ im p M (nodK u (q ++ [(i : Int)]))) (by omega) (by simp; omega)
          rw [hd, nodKs, tE, ← List.append_assoc]
          simpa using this
        · exact absurd h h'
      · rw [List.drop_of_length_le (by omega)]; simp [nodKs, im]
  have key : ∀ b, b = lx t → dV (t.kids.length + 3) p M q fd t b p M q (fd ++ im p M (nodK t q)) := fun b hbb => by
    rw [mw, im]
    refine mU (t.kids.length + 2) _ _ _ _ _ _ _ _ _ _ ⟨fun h => ?_, fun h => ?_⟩
    · rw [if_pos (by rw [← hbb]; exact h)]
      refine ⟨_, _, _, tp h0 hM hp (by omega), _, zf q (by omega), m7 (t.kids.length + 1) _ _ _ _ _ _ _ _ _ _ _ _ _ ⟨by simp; omega, ?_⟩⟩
      have := loop t.kids.length 0 (fd ++ [tgK p M q t]) (by omega) (by simp; omega)
      rw [← List.append_assoc]
      exact this
    · rw [if_neg (by rw [← hbb, h]; simp)]
      have := loop (t.kids.length + 1) 0 fd (by omega) (by simp; omega)
      simpa using this
  refine m8 (t.kids.length + 3) _ _ _ _ _ _ _ _ _ ⟨fun h => key _ (by simp [lx, h]), fun h => key _ (by simp [lx, h])⟩
def bG : List Tree → Bool
  | [] => true
  | t :: r => t.kind == 1 && shapeK t && bG r
theorem r7 (p : List Tree) (hp : kbulk p ≤ 1000000000) : i2 p (bG p) := by
  have hl := gh p
  have loop : ∀ m i, p.length - i ≤ m → iB (m + 1) p i (bG (p.drop i)) := fun m => by
    induction m with
    | zero =>
      intro i hi
      refine mI 0 _ _ _ ⟨fun h => by omega, fun h => ?_⟩
      rw [List.drop_of_length_le (by omega), bG]
    | succ m ihm =>
      intro i hi
      refine mI (m + 1) _ _ _ ⟨fun h => ?_, fun h => ?_⟩
      · obtain ⟨u, hu, _⟩ | h' := aS p i
        · rw [bO hu, bG]
          have := dz hu
          refine ⟨u, hu, fun h1 => by simp [h1], fun h1 => ⟨_, mO u (by omega), fun h2 => by simp [h1, h2], fun h2 => ⟨by omega, ?_⟩⟩⟩
          simp only [h1, h2, beq_self_eq_true, Bool.true_and]
          exact ihm (i + 1) (by omega)
        · exact absurd h h'
      · rw [List.drop_of_length_le (by omega), bG]
  exact rf _ _ _ (loop p.length 0 (by omega))
theorem ff (p : List Tree) (hp : kbulk p ≤ 1000000000) : eG p (bG p) := by
  have hl := gh p
  have loop : ∀ m i, p.length - i ≤ m → eg (m + 1) p i (bG (p.drop i)) := fun m => by
    induction m with
    | zero =>
      intro i hi
      refine i8 0 _ _ _ ⟨fun h => by omega, fun h => ?_⟩
      rw [List.drop_of_length_le (by omega), bG]
    | succ m ihm =>
      intro i hi
      refine i8 (m + 1) _ _ _ ⟨fun h => ?_, fun h => ?_⟩
      · obtain ⟨u, hu, _⟩ | h' := aS p i
        · rw [bO hu, bG]
          have := dz hu
          refine ⟨u, hu, fun h1 => by simp [h1], fun h1 => ⟨u, hu, _, lZ u (by omega), fun h2 => by simp [h1, h2], fun h2 => ?_⟩⟩
          simp only [h1, h2, beq_self_eq_true, Bool.true_and]
          exact ihm (i + 1) (by omega)
        · exact absurd h h'
      · rw [List.drop_of_length_le (by omega), bG]
  exact nD _ _ _ (loop p.length 0 (by omega))
def kO (p : List Tree) : Nat → List Tree → List GTarget
  | _, [] => []
  | i, t :: r => im p i (nodK t []) ++ kO p (i + 1) r
theorem r9 (p : List Tree) : ∀ (i : Nat) (l : List Tree), (kO p i l).length ≤ kbulk l
  | _, [] => Nat.le_refl _
  | i, t :: r => by
    have := r9 p (i + 1) r
    have := oV p i (nodK t [])
    have := nodK_len t []
    simp only [kO, kbulk, List.length_append]; omega
def dm (p : List Tree) : List GTarget := if bG p then kO p 0 p else []
theorem xc (p : List Tree) (hp : kbulk p ≤ 100000000) : lz p (dm p) := by
  have hl := gh p
  have loop : ∀ m i z fd, p.length - i ≤ m → fd.length + kbulk (p.drop i) ≤ 1000000000 → iD (m + 1) p p z [] fd i (fd ++ kO p i (p.drop i)) := fun m => by
    induction m with
    | zero =>
      intro i z fd hi hf
      refine mQ 0 _ _ _ _ _ _ _ ⟨fun h => by omega, fun h => ?_⟩
      rw [List.drop_of_length_le (by omega)]; simp [kO]
    | succ m ihm =>
      intro i z fd hi hf
      refine mQ (m + 1) _ _ _ _ _ _ _ ⟨fun h => ?_, fun h => ?_⟩
      · obtain ⟨u, hu, _⟩ | h' := aS p i
        · have := dz hu
          have hd := bO hu
          rw [hd, kbulk] at hf
          have := oV p i (nodK u [])
          have := nodK_len u []
          refine ⟨u, hu, _, _, _, _, AC (p := p) (M := (i : Int)) (by omega) (by omega) (by omega) u [] fd (by simp; omega) (by omega), by omega, ?_⟩
          rw [hd, kO, ← List.append_assoc]
          exact ihm (i + 1) _ _ (by omega) (by simp; omega)
        · exact absurd h h'
      · rw [List.drop_of_length_le (by omega)]; simp [kO]
  refine rq (p.length + 1) _ _ ⟨_, r7 p (by omega), fun h => by simp [dm, h], fun h => ?_⟩
  have := loop p.length 0 0 [] (by omega) (by simp; omega)
  simpa [dm, h] using this
end Go.Proofs.YtiknldgpnhikhaaGreat
namespace Go.Proofs.YtiknldgpnhikhaaGreat
open Go.RowKit Lx Sx
set_option maxRecDepth 100000
theorem rv {p : List Tree} {M : Int} {w : List UInt8} (h : (inK p M w).2.2 = true) : ∃ (i d : Nat) (t u : Tree), M = (i : Int) ∧ (inK p M w).1 = (i : Int) ∧ (inK p M w).2.1 = (d : Int) ∧ p[i]? = some t ∧ t.kids[d]? = some u ∧ u.text = w ∧ ∀ j v, j < d → t.kids[j]? = some v → v.text ≠ w := by
  unfold inK at h ⊢
  by_cases hM : M < 0
  · rw [if_pos hM] at h; cases h
  · rw [if_neg hM] at h ⊢
    cases ht : p[M.toNat]? with
    | none => rw [ht] at h; cases h
    | some t =>
      rw [ht] at h
      simp only at h ⊢
      rcases mE w t.kids 0 with e | ⟨k, u, e1, e2, e3, e4⟩
      · simp [e] at h
      · have hn : ¬ bz w t.kids 0 < 0 := by omega
        rw [if_neg hn]
        exact ⟨M.toNat, k, t, u, by omega, by simp only []; omega, by simp only []; omega, ht, e2, e3, e4⟩
theorem zi {p : List Tree} {M : Int} {w : List UInt8} (h : (aY p M w).2.2 = true) : ∃ (i d : Nat) (t u : Tree), (aY p M w).1 = (i : Int) ∧ (aY p M w).2.1 = (d : Int) ∧ p[i]? = some t ∧ t.kids[d]? = some u := by
  unfold aY at h ⊢
  split at h
  · rename_i hd
    rw [if_pos hd]
    obtain ⟨i, d, t, u, _, a1, a2, a3, a4, _⟩ := rv h
    exact ⟨i, d, t, u, a1, a2, a3, a4⟩
  · rename_i hd
    rw [if_neg hd]
    obtain ⟨i, d, t, u, _, a1, a2, a3, a4, _⟩ := rv h
    exact ⟨i, d, t, u, a1, a2, a3, a4⟩
theorem sm {w : List UInt8} {k : Nat} (h : bi w = k) (hk : 0 < k ∧ k < 5) : (bx w).2.1 = w.length ∧ (bx w).1 = k := by
  unfold bi at h
  split at h
  · omega
  · split at h
    · rename_i hc
      have e : tokenT w = bx w := by
        unfold tokenT at h ⊢
        simp only [] at h ⊢
        repeat' split at h
        all_goals simp_all
        all_goals omega
      rw [e] at hc h
      exact ⟨hc.2, h⟩
    · omega
theorem zI {w : List UInt8} {k : Nat} (h : bi w = k) (hk : k = 1 ∨ k = 2) : spanN aU w = w.length ∧ (k = 1 ↔ cb (w.getD 0 0) = true) := by
  obtain ⟨h1, h2⟩ := sm h (by omega)
  unfold bx at h1 h2
  split at h1
  · rename_i hc
    rw [if_pos hc] at h2
    unfold di at h2
    repeat' split at h2
    all_goals simp only at h2
    all_goals omega
  · rename_i hc
    rw [if_neg hc] at h2
    unfold bw at h1 h2
    split at h2
    · simp only at h2; omega
    · rename_i a1
      rw [if_neg a1] at h1
      split at h2
      · simp only at h2; omega
      · rename_i a2
        rw [if_neg a2] at h1
        split at h2
        · rename_i a3
          rw [if_pos a3] at h1
          simp only at h1 h2
          exact ⟨h1, fun _ => a3, fun _ => h2.symm⟩
        · rename_i a3
          rw [if_neg a3] at h1
          simp only at h1 h2
          exact ⟨h1, fun h => by omega, fun h => absurd h a3⟩
theorem zQ {w : List UInt8} {k : Nat} (h : bi w = k) (hk : k = 3 ∨ k = 4) : spanN aU w < w.length ∧ w.getD (spanN aU w) 0 = 46 ∧ (k = 3 ↔ cb (w.getD (spanN aU w + 1) 0) = true) := by
  obtain ⟨h1, h2⟩ := sm h (by omega)
  unfold bx at h1 h2
  split at h1
  · rename_i hc
    rw [if_pos hc] at h2
    have hc' := hc
    simp only [cy, Bool.and_eq_true, decide_eq_true_eq, beq_iff_eq] at hc'
    refine ⟨by omega, ?_, ?_⟩
    · have := hc'.1.2
      exact UInt8.toNat_inj.1 (by rw [this]; rfl)
    · unfold di at h2
      repeat' split at h2
      all_goals simp only at h2
      all_goals first
        | omega
        | (rename_i a3; exact ⟨fun _ => a3, fun _ => h2.symm⟩)
        | (rename_i a3; exact ⟨fun h => by omega, fun h => absurd h a3⟩)
  · rename_i hc
    rw [if_neg hc] at h2
    unfold bw at h2
    repeat' split at h2
    all_goals simp only at h2
    all_goals omega
theorem ro (c : UInt8) (r : List UInt8) : spanN aU (c :: r) = if aU c = true then spanN aU r + 1 else 0 := by
  unfold spanN; rw [List.takeWhile_cons]; split <;> simp
theorem t6 : ∀ (w : List UInt8) (i : Nat), spanN aU w = w.length → cr w i = -1
  | [], i, h => rfl
  | c :: r, i, h => by
    rw [ro] at h
    split at h
    · rename_i hc
      have : c ≠ 46 := fun e => by subst e; revert hc; decide
      rw [cr, if_neg this]
      exact t6 r (i + 1) (by simpa using h)
    · simp at h
theorem xo : ∀ (w : List UInt8) (i : Nat), spanN aU w < w.length → w.getD (spanN aU w) 0 = 46 → cr w i = ((i + spanN aU w : Nat) : Int)
  | [], i, h, _ => by simp at h
  | c :: r, i, h, h2 => by
    rw [ro] at h h2 ⊢
    split at h
    · rename_i hc
      rw [if_pos hc] at h2 ⊢
      have : c ≠ 46 := fun e => by subst e; revert hc; decide
      rw [cr, if_neg this, xo r (i + 1) (by simpa using h) (by simpa using h2)]
      congr 1; omega
    · rename_i hc
      rw [if_neg hc] at h2 ⊢
      have : c = 46 := by simpa using h2
      rw [cr, if_pos this]; rfl
theorem mt {k n : Int} : ∀ {l : List Tree} {i j : Nat} {u : Tree}, shapeKs k n i l = true → l[j]? = some u → jQ k n ((i + j : Nat) : Int) u.kind = true ∧ shapeK u = true
  | [], i, j, u, _, h => by simp at h
  | t :: r, i, 0, u, h, hj => by
    simp only [shapeKs, Bool.and_eq_true] at h
    simp only [List.getElem?_cons_zero, Option.some.injEq] at hj
    subst hj
    exact ⟨by simpa using h.1.1, h.1.2⟩
  | t :: r, i, j + 1, u, h, hj => by
    simp only [shapeKs, Bool.and_eq_true] at h
    have := mt (i := i + 1) (j := j) h.2 (by simpa using hj)
    exact ⟨by rw [show i + (j + 1) = i + 1 + j by omega]; exact this.1, this.2⟩
theorem kc : ∀ {p : List Tree} {i : Nat} {t : Tree}, bG p = true → p[i]? = some t → t.kind = 1 ∧ shapeK t = true
  | [], i, t, _, h => by simp at h
  | v :: r, 0, t, h, hi => by
    simp only [bG, Bool.and_eq_true, beq_iff_eq] at h
    simp only [List.getElem?_cons_zero, Option.some.injEq] at hi
    subst hi; exact h.1
  | v :: r, i + 1, t, h, hi => by
    simp only [bG, Bool.and_eq_true] at h
    exact kc h.2 (by simpa using hi)
end Go.Proofs.YtiknldgpnhikhaaGreat
namespace Go.Proofs.YtiknldgpnhikhaaGreat
open Go.RowKit Lx Sx
set_option maxRecDepth 100000
mutual
def leafK : Tree → Tree
  | .node k s ls ks => if k = 8 then leafH (.node k s ls ks) ks else .node k s ls ks
def leafH (d : Tree) : List Tree → Tree
  | [] => d
  | t :: _ => leafK t
end
mutual
def lisK : Tree → Nat
  | .node k s ls ks => if k = 8 then lisH ks + 1 else 0
def lisH : List Tree → Nat
  | [] => 0
  | t :: _ => lisK t
end
def bH : Nat → Tree → Tree
  | 0, t => t
  | n + 1, t => .node 8 [] [] [bH n t]
mutual
def bareK : Tree → Tree
  | .node k s _ ks => .node k s [] (baresK ks)
def baresK : List Tree → List Tree
  | [] => []
  | t :: r => bareK t :: baresK r
end
theorem mx {t u : Tree} {r : List Tree} (h8 : t.kind = 8) (hk : t.kids = u :: r) : leafK t = leafK u ∧ lisK t = lisK u + 1 := by
  cases t
  simp only [Tree.kind, Tree.kids] at h8 hk
  subst h8 hk
  constructor
  · rw [leafK, if_pos rfl, leafH]
  · rw [lisK, if_pos rfl, lisH]
theorem mB {t : Tree} (h : t.kind ≠ 8) : leafK t = t ∧ lisK t = 0 := by
  cases t
  simp only [Tree.kind] at h
  constructor
  · rw [leafK, if_neg h]
  · rw [lisK, if_neg h]
theorem qB (t : Tree) : bareK t = .node t.kind t.text [] (baresK t.kids) := by cases t; simp only [bareK]; rfl
def tyK (t : Tree) : Prop := shapeK t = true ∧ ga t.kind = true
theorem my {t : Tree} (h : tyK t) : (t.kind = 8 ∧ t.text = [] ∧ ∃ u, t.kids = [u] ∧ tyK u) ∨ (t.kind ≠ 8 ∧ t.kids = [] ∧ (t.kind ≠ 9 → t.text = [])) := by
  obtain ⟨hs, hk⟩ := h
  rw [dP] at hs
  simp only [Bool.and_eq_true, decide_eq_true_eq] at hs
  have hk' : 5 ≤ t.kind ∧ t.kind ≤ 9 := by simpa [ga] using hk
  by_cases h8 : t.kind = 8
  · refine .inl ⟨h8, ?_, ?_⟩
    · have := hs.1.2; rw [h8] at this; simpa [jK] using this
    · have hl := hs.1.1
      have e : dd t.kind t.kids.length = f0 t.kids.length 1 2 0 1 := by rw [h8]; rfl
      rw [e] at hl
      have hn : t.kids.length = 1 := by
        unfold f0 at hl
        split at hl
        · omega
        · split at hl
          · omega
          · omega
      obtain ⟨u, hu⟩ : ∃ u, t.kids = [u] := by
        match hkk : t.kids, hn with
        | [u], _ => exact ⟨u, rfl⟩
      refine ⟨u, hu, ?_⟩
      have hss := hs.2
      rw [hu] at hss
      simp only [shapeKs, Bool.and_eq_true] at hss
      refine ⟨hss.1.2, ?_⟩
      have := hss.1.1
      rw [h8] at this
      simpa [jQ] using this
  · refine .inr ⟨h8, ?_, fun h9 => ?_⟩
    · have hl := hs.1.1
      have e : dd t.kind t.kids.length = f0 t.kids.length 0 1 0 0 := by
        have : t.kind = 5 ∨ t.kind = 6 ∨ t.kind = 7 ∨ t.kind = 9 := by omega
        rcases this with e | e | e | e <;> rw [e] <;> rfl
      rw [e] at hl
      have : t.kids.length = 0 := by
        unfold f0 at hl
        split at hl
        · omega
        · omega
      exact List.length_eq_zero_iff.1 this
    · have : t.kind = 5 ∨ t.kind = 6 ∨ t.kind = 7 := by omega
      have hw := hs.1.2
      rcases this with e | e | e <;> (rw [e] at hw; simpa [jK] using hw)
theorem j4 : ∀ t, tyK t → tyK (leafK t) ∧ (leafK t).kind ≠ 8 ∧ bareK t = bH (lisK t) (.node (leafK t).kind (leafK t).text [] []) := cm fun t ih h => by
  rcases my h with ⟨h8, hx, u, hu, hty⟩ | ⟨h8, hk, _⟩
  · obtain ⟨e1, e2⟩ := mx h8 hu
    obtain ⟨g1, g2, g3⟩ := ih 0 u (by rw [hu]; rfl) hty
    rw [e1, e2]
    refine ⟨g1, g2, ?_⟩
    rw [qB, h8, hx, hu, bH]
    simp only [baresK, g3]
  · obtain ⟨e1, e2⟩ := mB h8
    rw [e1, e2]
    refine ⟨h, h8, ?_⟩
    rw [qB, hk, bH, baresK]
theorem iZ : ∀ t, tbulk (leafK t) ≤ tbulk t ∧ lisK t ≤ tbulk t := cm fun t ih => by
  by_cases h8 : t.kind = 8
  · cases hk : t.kids with
    | nil =>
      have hp := bu t
      cases t
      simp only [Tree.kind, Tree.kids] at h8 hk
      subst h8 hk
      rw [leafK, if_pos rfl, leafH, lisK, if_pos rfl, lisH]
      exact ⟨Nat.le_refl _, hp⟩
    | cons u r =>
      obtain ⟨e1, e2⟩ := mx h8 hk
      have h0 : t.kids[0]? = some u := by rw [hk]; rfl
      obtain ⟨g1, g2⟩ := ih 0 u h0
      have := bE h0
      rw [e1, e2]
      omega
  · obtain ⟨e1, e2⟩ := mB h8
    rw [e1, e2]
    exact ⟨Nat.le_refl _, Nat.zero_le _⟩
theorem qP {t u : Tree} {d : Nat} (ht : t.kind = 1) (hs : shapeK t = true) (hu : t.kids[d]? = some u) : (u.kind = 2 ∧ bi u.text = 1) ∨ (u.kind = 3 ∧ bi u.text = 2) := by
  rw [dP] at hs
  simp only [Bool.and_eq_true] at hs
  obtain ⟨h1, h2⟩ := mt hs.2 hu
  rw [ht] at h1
  simp [jQ] at h1
  rw [dP] at h2
  simp only [Bool.and_eq_true] at h2
  have h3 := h2.1.2
  rcases h1 with e | e
  · rw [e] at h3
    simp [jK] at h3
    exact .inl ⟨e, by omega⟩
  · rw [e] at h3
    simp [jK] at h3
    exact .inr ⟨e, by omega⟩
theorem Ar {w : List UInt8} {k : Nat} (h : bi w = k) (hk : k = 3 ∨ k = 4) : cr w 0 = ((spanN aU w : Nat) : Int) := by
  obtain ⟨h1, h2, _⟩ := zQ h hk
  have := xo w 0 h1 h2
  simpa using this
theorem mu {p : List Tree} {m : Int} {u : Tree} (hp : bG p = true) (h9 : u.kind = 9) (hu : shapeK u = true) (h : (aY p m u.text).2.2 = true) : ∃ (i d : Nat) (t a b : Tree), (aY p m u.text).1 = (i : Int) ∧ (aY p m u.text).2.1 = (d : Int) ∧ p[i]? = some t ∧ t.kids[d]? = some a ∧ a.kind = 3 ∧ a.kids = [b] ∧ tyK b := by
  have hw : bi u.text = 2 ∨ bi u.text = 4 := by
    rw [dP, h9] at hu
    simp only [Bool.and_eq_true] at hu
    have := hu.1.2
    simp only [jK] at this
    simp at this
    omega
  have fin : ∀ (i d : Nat) (t a : Tree), p[i]? = some t → t.kids[d]? = some a → ¬ a.kind = 2 → a.kind = 3 ∧ ∃ b, a.kids = [b] ∧ tyK b := fun i d t a ht ha hn => by
    obtain ⟨t1, t2⟩ := kc hp ht
    rcases qP t1 t2 ha with ⟨k2, _⟩ | ⟨k3, _⟩
    · exact absurd k2 hn
    · refine ⟨k3, ?_⟩
      rw [dP] at t2
      simp only [Bool.and_eq_true] at t2
      obtain ⟨_, g2⟩ := mt t2.2 ha
      rw [dP, k3] at g2
      simp only [Bool.and_eq_true, decide_eq_true_eq] at g2
      have hl := g2.1.1
      have e : dd 3 a.kids.length = f0 a.kids.length 1 3 0 1 := rfl
      rw [e] at hl
      have hn : a.kids.length = 1 := by
        unfold f0 at hl
        split at hl
        · omega
        · split at hl
          · omega
          · omega
      match hkk : a.kids, hn with
      | [b], _ =>
        have hss := g2.2
        rw [hkk] at hss
        simp only [shapeKs, Bool.and_eq_true] at hss
        exact ⟨b, rfl, hss.1.2, by have := hss.1.1; simpa [jQ] using this⟩
  unfold aY at h ⊢
  rcases hw with hw | hw
  · have hd : cr u.text 0 = -1 := t6 _ _ (zI hw (.inr rfl)).1
    rw [if_neg (by omega)] at h ⊢
    obtain ⟨i, d, t, a, _, a1, a2, a3, a4, a5, _⟩ := rv h
    obtain ⟨t1, t2⟩ := kc hp a3
    obtain ⟨f1, b, f2, f3⟩ := fin i d t a a3 a4 fun k2 => by
      rcases qP t1 t2 a4 with ⟨_, k⟩ | ⟨k, _⟩
      · rw [a5, hw] at k; cases k
      · omega
    exact ⟨i, d, t, a, b, a1, a2, a3, a4, f1, f2, f3⟩
  · have hd := Ar hw (.inr rfl)
    rw [if_pos (by omega)] at h ⊢
    obtain ⟨i, d, t, a, _, a1, a2, a3, a4, a5, _⟩ := rv h
    obtain ⟨t1, t2⟩ := kc hp a3
    obtain ⟨f1, b, f2, f3⟩ := fin i d t a a3 a4 fun k2 => by
      rcases qP t1 t2 a4 with ⟨_, k⟩ | ⟨k, _⟩
      · have g := (zI k (.inl rfl)).2.1 rfl
        have g3 := (zQ hw (.inr rfl)).2.2
        rw [a5, hd, Int.toNat_natCast] at g
        have e : (u.text.drop (spanN aU u.text + 1)).getD 0 0 = u.text.getD (spanN aU u.text + 1) 0 := by
          simp [List.getD_eq_getElem?_getD, List.getElem?_drop]
        rw [e] at g
        have := g3.2 g
        cases this
      · omega
    exact ⟨i, d, t, a, b, a1, a2, a3, a4, f1, f2, f3⟩
end Go.Proofs.YtiknldgpnhikhaaGreat
namespace Go.Proofs.YtiknldgpnhikhaaGreat
open Go.RowKit Lx Sx
set_option maxRecDepth 100000
def lN : Tree := .node 0 [] [] []
def kC (p : List Tree) (i d : Int) : Tree := match p[i.toNat]? with
  | none => lN
  | some t => match t.kids[d.toNat]? with
    | none => lN
    | some a => match a.kids with
      | [] => lN
      | b :: _ => b
def fM (p : List Tree) : Nat → List (Int × Int) → Nat → Int → Tree → Tree × Int
  | 0, _, _, _, _ => (lN, 0)
  | f + 1, seen, n, m, u =>
    if u.kind = 9 then
      if (aY p m u.text).2.2 = false then (lN, 7)
      else if ((aY p m u.text).1, (aY p m u.text).2.1) ∈ seen then (lN, 19)
      else fM p f (((aY p m u.text).1, (aY p m u.text).2.1) :: seen) (n + lisK (kC p (aY p m u.text).1 (aY p m u.text).2.1)) (aY p m u.text).1 (leafK (kC p (aY p m u.text).1 (aY p m u.text).2.1))
    else (bH n (.node u.kind [] [] []), 0)
theorem sq {α : Type} [BEq α] [LawfulBEq α] : ∀ (l m : List α), l.Nodup → (∀ x ∈ l, x ∈ m) → l.length ≤ m.length
  | [], m, _, _ => Nat.zero_le _
  | x :: l, m, hn, hs => by
    obtain ⟨h1, h2⟩ := List.nodup_cons.1 hn
    have hx : x ∈ m := hs x (by simp)
    have ih := sq l (m.erase x) h2 fun y hy => by
      have hne : y ≠ x := fun e => h1 (e ▸ hy)
      exact (List.mem_erase_of_ne hne).2 (hs y (by simp [hy]))
    rw [List.length_erase_of_mem hx] at ih
    have := List.length_pos_of_mem hx
    simp only [List.length_cons]; omega
def pI (i : Nat) (l : List Tree) : List (Int × Int) := (List.range l.length).map fun (d : Nat) => ((i : Int), (d : Int))
def mo : Nat → List Tree → List (Int × Int)
  | _, [] => []
  | i, t :: r => pI i t.kids ++ mo (i + 1) r
theorem sd : ∀ (i : Nat) (p : List Tree), (mo i p).length ≤ kbulk p
  | _, [] => Nat.le_refl _
  | i, t :: r => by
    have := sd (i + 1) r
    have := dk t
    simp only [mo, List.length_append, pI, List.length_map, List.length_range, kbulk]; omega
theorem sn : ∀ {j : Nat} {p : List Tree} {i d : Nat} {t a : Tree}, p[i]? = some t → t.kids[d]? = some a → (((j + i : Nat) : Int), (d : Int)) ∈ mo j p
  | j, [], i, d, t, a, h, _ => by simp at h
  | j, u :: r, 0, d, t, a, h, ha => by
    simp only [List.getElem?_cons_zero, Option.some.injEq] at h
    subst h
    have := (List.getElem?_eq_some_iff.1 ha).1
    simp only [mo, List.mem_append, pI, List.mem_map, List.mem_range]
    exact .inl ⟨d, this, rfl⟩
  | j, u :: r, i + 1, d, t, a, h, ha => by
    have := sn (j := j + 1) (p := r) (i := i) (by simpa using h) ha
    simp only [mo, List.mem_append]
    rw [show j + (i + 1) = j + 1 + i by omega]
    exact .inr this
theorem mA {p : List Tree} {i d : Nat} {t a b : Tree} (h1 : p[i]? = some t) (h2 : t.kids[d]? = some a) (h3 : a.kids = [b]) : kC p i d = b := by
  unfold kC
  rw [Int.toNat_natCast, h1]
  simp only [Int.toNat_natCast, h2, h3]
def jD (p : List Tree) (l : List (Int × Int)) : Prop := l.Nodup ∧ ∀ x ∈ l, x ∈ mo 0 p
theorem jT {p : List Tree} {l : List (Int × Int)} (h : jD p l) : l.length ≤ kbulk p := Nat.le_trans (sq _ _ h.1 h.2) (sd 0 p)
end Go.Proofs.YtiknldgpnhikhaaGreat
namespace Go.Proofs.YtiknldgpnhikhaaGreat
open Go.RowKit Lx Sx
section
variable {P : Program} {T : Tab} {K : Ctx} {Q : Exit → Act → World → Prop} {s : List EI} {n : Nat} {F F1 : Fm} {H : Hp} {all : Array Oper} {L : List Nat} {m fuel : Nat} {listed : Array Bool}
theorem CC {t e : TypeId} {x : Operand} {id sz j o' : Nat} {els : List V} {v0 v : V} {td : TD} {d : Option Tmp} {ty : TypeId} {ps : String} {af : Array Edge} {g : Option (Nat × Bool)} (i : Nat) (hi : all[i]? = some ⟨d, .load t x, ty, ps, af, g⟩)
    (hc : (!Nat.beq i m && pN .any all m i && !(listed.getD m false) && Region.free .any all listed i && (Region.ready .any all listed).contains i && L.contains id) = true) (hw : bp F all g = some true) (hT : TabOk P T) (ht : T.ty t = some td) (hx : aI F x = some (.el id sz j o')) (ho : H.get id = .row e sz els) (hj : els[j]? = some v0) (hv : kp td v0.cells o' = some v)
    (h1 : F.puto d (some v) _root_.id = F1) (k : Go P K Q (.drw all L m fuel (listed.setIfInBounds i true)) s n F1 H) : Go P K Q (.drw all L m (fuel + 1) listed) s n F H := by
  rw [Fm.puto_eq] at h1; subst h1
  simp only [Bool.and_eq_true, Bool.not_eq_true'] at hc
  obtain ⟨⟨⟨⟨⟨c1, c2⟩, c3⟩, c4⟩, c5⟩, c6⟩ := hc
  have he : iP T H.get F H.nx (.load t x) = some (some v, .nop) := by
    have hb : Nat.beq sz sz = true := Nat.beq_refl sz
    unfold iP
    simp only [hx, ht, ho, hb, jA, hj, hv]
  exact wU (o := ⟨d, .load t x, ty, ps, af, g⟩) (id := id) hT c1 c2 c3 hi c4 c5 hw (by show l8 F (.load t x) = some id; unfold l8; simp only [hx]) c6 he k
end
end Go.Proofs.YtiknldgpnhikhaaGreat
namespace Go.Proofs.YtiknldgpnhikhaaGreat
open Go.RowKit Lx Sx
section
variable {α β : Type} [DecidableEq α]
def mlook (a : α) : List (α × β) → Option β
  | [] => none
  | p :: r => if p.1 = a then some p.2 else mlook a r
def mput (a : α) (b : β) : List (α × β) → List (α × β)
  | [] => [(a, b)]
  | p :: r => if p.1 = a then (a, b) :: r else p :: mput a b r
theorem kQ (a c : α) (b : β) : ∀ l : List (α × β), mlook c (mput a b l) = if c = a then some b else mlook c l
  | [] => by
    simp only [mput, mlook]
    by_cases h : c = a
    · rw [if_pos h, if_pos h.symm]
    · rw [if_neg h, if_neg (fun e => h e.symm)]
  | p :: r => by
    simp only [mput]
    split
    · rename_i hp
      simp only [mlook]
      by_cases h : c = a
      · rw [if_pos h, if_pos h.symm]
      · rw [if_neg h, if_neg (fun e => h e.symm), if_neg (fun e => h (by rw [← e, hp]))]
    · rename_i hp
      simp only [mlook, kQ a c b r]
      by_cases h : p.1 = c
      · rw [if_pos h, if_pos h, if_neg (fun e => hp (by rw [h, e]))]
      · rw [if_neg h, if_neg h]
def kS (a : α) : List (α × β) → List MapEntry → Nat → Option (Nat × Value)
  | p :: r, e :: es, i => if p.1 = a then some (i, e.val) else kS a r es (i + 1)
  | _, _, _ => none
end
structure KeyT (P : Program) (kt : TypeId) (α : Type) [DecidableEq α] (enc : α → V) where
  val : α → Value
  rel : ∀ a S w ρ x, VRel S w ρ (enc a) x ↔ x = val a
  chk : ∀ w em a, (Instr.checkKey em 10000 kt (val a)).run P w = .ok () w
  fnd : ∀ w a (β : Type) (l : List (α × β)) (es : List MapEntry), es.map (·.key) = l.map (fun p => val p.1) → (Instr.findKey kt (val a) es).run P w = .ok (kS a l es 0) w
  stay : ∀ w a, (Instr.keyThatStays (val a) (val a)).run P w = .ok (val a) w
section
variable {P : Program} {α β : Type} [DecidableEq α] {enc : α → V} {kt : TypeId}
theorem pu (val : α → Value) (a : α) : ∀ (l : List (α × β)) (es : List MapEntry) (i : Nat), es.map (·.key) = l.map (fun p => val p.1) →
    (kS a l es i = none ∧ mlook a l = none ∧ ∀ b, mput a b l = l ++ [(a, b)]) ∨ ∃ j e d, kS a l es i = some (i + j, e.val) ∧ es[j]? = some e ∧ e.key = val a ∧ l[j]? = some (a, d) ∧ mlook a l = some d ∧ ∀ b, mput a b l = l.set j (a, b)
  | [], [], i, h => .inl ⟨rfl, rfl, fun b => rfl⟩
  | [], e :: es, i, h => by simp at h
  | p :: r, [], i, h => by simp at h
  | p :: r, e :: es, i, h => by
    simp only [List.map_cons, List.cons.injEq] at h
    by_cases hp : p.1 = a
    · refine .inr ⟨0, e, p.2, by simp only [kS, if_pos hp]; rfl, rfl, by rw [h.1, hp], by rw [← hp]; rfl, by simp only [mlook, if_pos hp], fun b => by simp only [mput, if_pos hp]; rfl⟩
    · rcases pu val a r es (i + 1) h.2 with ⟨h1, h2, h3⟩ | ⟨j, e', d, h1, h2, h3, h4, h5, h6⟩
      · exact .inl ⟨by simp only [kS, if_neg hp, h1], by simp only [mlook, if_neg hp, h2], fun b => by simp only [mput, if_neg hp, h3 b]; rfl⟩
      · exact .inr ⟨j + 1, e', d, by simp only [kS, if_neg hp, h1, show i + 1 + j = i + (j + 1) by omega], by simpa using h2, h3, by simpa using h4, by simp only [mlook, if_neg hp, h5], fun b => by simp only [mput, if_neg hp, h6 b]; rfl⟩
theorem pq {val : α → Value} {w : World} (hs : ∀ a b, (Op.equal kt (val a) (val b)).run P w = .ok (decide (b = a)) w) (a : α) : ∀ (l : List (α × β)) (es : List MapEntry) (i : Nat), es.map (·.key) = l.map (fun p => val p.1) → (Instr.findAsking kt (val a) es i).run P w = .ok (kS a l es i) w
  | [], [], i, h => by simp [Instr.findAsking, kS]
  | [], e :: es, i, h => by simp at h
  | p :: r, [], i, h => by simp at h
  | p :: r, e :: es, i, h => by
    simp only [List.map_cons, List.cons.injEq] at h
    unfold Instr.findAsking
    by_cases hp : p.1 = a
    · simp [h.1, hs, hp, kS]
    · have := pq hs a r es (i + 1) h.2
      simp [h.1, hs, hp, kS, this]
theorem sI {w : World} {f0 f1 : Field} {a b c d : Value} {x y : Bool} (ht : P.underlying kt = some (.struct #[f0, f1])) (hs : P.stoodInHeld kt = false) (n0 : (f0.name != "_") = true) (n1 : (f1.name != "_") = true) (o0 : f0.offset = 0) (o1 : f1.offset = 1) (p0 : P.plainKey f0.type = true) (p1 : P.plainKey f1.type = true)
    (h0 : (Op.equalIn 9999 f0.type a c).run P w = .ok x w) (h1 : (Op.equalIn 9999 f1.type b d).run P w = .ok y w) : (Op.equal kt (.agg #[a, b]) (.agg #[c, d])).run P w = .ok (x && y) w := by
  have hf : P.fieldsOf kt = #[f0, f1] := by simp [Program.fieldsOf, ht]
  show (Op.equalIn (9999 + 1) kt (.agg #[a, b]) (.agg #[c, d])).run P w = _
  rw [run_equalIn_struct w 9999 kt _ _ (by rw [ht, hf]) hs, hf]
  have q0 := run_part_plain w p0 (xs := #[a, b]) (off := f0.offset) (v := a) (by rw [o0]; rfl)
  have q1 := run_part_plain w p0 (xs := #[c, d]) (off := f0.offset) (v := c) (by rw [o0]; rfl)
  have q2 := run_part_plain w p1 (xs := #[a, b]) (off := f1.offset) (v := b) (by rw [o1]; rfl)
  have q3 := run_part_plain w p1 (xs := #[c, d]) (off := f1.offset) (v := d) (by rw [o1]; rfl)
  have m0 : f0.name ≠ "_" := by simpa using n0
  have m1 : f1.name ≠ "_" := by simpa using n1
  cases x <;> cases y <;> simp [Op.eqFields, m0, m1, q0, q1, q2, q3, h0, h1, Result.andThen]
theorem AM {w : World} {f0 f1 : Field} {a b : Value} {em : Bool} (ht : P.underlying kt = some (.struct #[f0, f1])) (n0 : (f0.name != "_") = true) (n1 : (f1.name != "_") = true) (o0 : f0.offset = 0) (o1 : f1.offset = 1) (p0 : P.plainKey f0.type = true) (p1 : P.plainKey f1.type = true)
    (h0 : (Instr.checkKey em 9999 f0.type a).run P w = .ok () w) (h1 : (Instr.checkKey em 9999 f1.type b).run P w = .ok () w) : (Instr.checkKey em 10000 kt (.agg #[a, b])).run P w = .ok () w := by
  show (Instr.checkKey em (9999 + 1) kt (.agg #[a, b])).run P w = _
  have q0 := run_part_plain w p0 (xs := #[a, b]) (off := f0.offset) (v := a) (by rw [o0]; rfl)
  have q2 := run_part_plain w p1 (xs := #[a, b]) (off := f1.offset) (v := b) (by rw [o1]; rfl)
  have m0 : f0.name ≠ "_" := by simpa using n0
  have m1 : f1.name ≠ "_" := by simpa using n1
  unfold Instr.checkKey
  simp only [Sem.run_bind, run_underlying ht, Result.andThen_ok]
  rw [← Array.forIn_toList]
  simp [m0, m1, q0, q2, h0, h1, Result.andThen]
def Ci {γ : Type} [DecidableEq γ] {f0 f1 : Field} (g0 g1 : γ → Int) (hg : ∀ x y, g0 x = g0 y → g1 x = g1 y → x = y) (ht : P.underlying kt = some (.struct #[f0, f1])) (hs : P.stoodInHeld kt = false) (n0 : (f0.name != "_") = true) (n1 : (f1.name != "_") = true) (o0 : f0.offset = 0) (o1 : f1.offset = 1) (u0 : P.underlying f0.type = some (.int .i64)) (u1 : P.underlying f1.type = some (.int .i64)) : KeyT P kt γ (fun x => .agg [.int .i64 (g0 x), .int .i64 (g1 x)]) where
  val x := .agg #[.int .i64 (g0 x), .int .i64 (g1 x)]
  rel a S w ρ x := by
    simp only [VRel, LRel]
    constructor
    · rintro ⟨xs, rfl, _, _, rfl, rfl, _, _, rfl, rfl, rfl⟩; rfl
    · rintro rfl; exact ⟨_, rfl, _, _, rfl, rfl, _, _, rfl, rfl, rfl⟩
  chk w em a := AM ht n0 n1 o0 o1 (by simp [Program.plainKey, u0]) (by simp [Program.plainKey, u1])
    (by show (Instr.checkKey em (9998 + 1) f0.type _).run P w = _; unfold Instr.checkKey; simp [run_underlying u0])
    (by show (Instr.checkKey em (9998 + 1) f1.type _).run P w = _; unfold Instr.checkKey; simp [run_underlying u1])
  fnd w a β l es h := by
    rw [run_findKey_eq w (by simp [ht])]
    refine pq (val := fun x => Value.agg #[.int .i64 (g0 x), .int .i64 (g1 x)]) (fun x y => ?_) a l es 0 h
    rw [sI ht hs n0 n1 o0 o1 (by simp [Program.plainKey, u0]) (by simp [Program.plainKey, u1]) (run_equalIn_int w 9998 _ _ _ _ _ u0) (run_equalIn_int w 9998 _ _ _ _ _ u1)]
    congr 1
    by_cases e : y = x
    · subst e; simp
    · have : ¬ (g0 x = g0 y ∧ g1 x = g1 y) := fun h' => e (hg _ _ h'.1 h'.2).symm
      rw [decide_eq_false e]
      simpa using fun h0 h1 => this ⟨h0, h1⟩
  stay w a := by
    have : ∀ z : Int, Instr.sameBits 9999 (.int .i64 z) (.int .i64 z) = true := fun z => by unfold Instr.sameBits; simp
    have h2 : Instr.sameBits 10000 (.agg #[.int .i64 (g0 a), .int .i64 (g1 a)]) (.agg #[.int .i64 (g0 a), .int .i64 (g1 a)]) = true := by
      show Instr.sameBits (9999 + 1) _ _ = true
      unfold Instr.sameBits; simp [this]
    simp [Instr.keyThatStays, h2]
variable {S : Nat → Prop} {w w' : World} {ρ ρ' : Nat → Option Value} {h h' : Nat → Ob} {a : Act} {n : Nat} {ty : TypeId}
theorem tM {t : TypeId} : Runs P a ty (.makeMap t none) w (.value (.map (some w.heap.size))) (w.alloc (.map #[] 0)) := fun _ _ _ _ => by
  simp only [execOp, Option.map_none]
  simp [run_makeMap]
theorem e_mkMap {t kt et : TypeId} {nid : Nat} (hr : HRel S w ρ h) (hf : h nid = .free) : Does P S w ρ h a ty (.makeMap t none) (some (.sl nid)) (cp h nid (.mp kt et [] [])) (fun _ => False) := by
  have hc : Chg [] w (w.alloc (.map #[] 0)) := Chg.alloc w _
  refine ⟨_, _, dE ρ nid (.map (some w.heap.size)), tM, eff_new hr hf hc ⟨w.heap.size, #[], 0, bb _ _ _, heap_alloc_new w _, by simp [LRel], by simp [LRel]⟩ (fun b hb => ?_), _, rfl, ?_⟩
  · simp only [own] at hb
    rw [bb] at hb
    simp only [Option.some.injEq, Value.map.injEq] at hb
    omega
  · simp only [VRel]; exact ⟨bb _ _ _, rfl⟩
def wu (c : Bool) (o : Option β) (encV : β → V) (zv : V) : V := match o with
  | some d => match c with | true => .tup [encV d, .bool true] | false => encV d
  | none => match c with | true => .tup [zv, .bool false] | false => zv
theorem zH {id : Nat} {ks vs : List V} {et : TypeId} (hr : HRel S w ρ h) (ho : h id = .mp kt et ks vs) : ∃ b es clock, ρ id = some (.map (some b)) ∧ w.heap[b]? = some (.map es clock) ∧ LRel S w ρ0 ks (es.toList.map (·.key)) ∧ LRel S w ρ0 vs (es.toList.map (·.val)) := by
  have := hr.ob id
  rw [ho] at this
  exact this
theorem qq (D : KeyT P kt α enc) {f : β → α} : ∀ {l : List β} {xs : List Value}, LRel S w ρ0 (l.map fun p => enc (f p)) xs → xs = l.map fun p => D.val (f p)
  | [], xs, h => by simp only [List.map_nil, LRel] at h; simp [h]
  | p :: r, xs, h => by
    simp only [List.map_cons, LRel] at h
    obtain ⟨x, ys, rfl, h1, h2⟩ := h
    rw [(D.rel _ _ _ _ _).1 h1, qq D h2]; rfl
theorem uh {f : β → V} : ∀ {l : List β} {xs : List Value} {j : Nat} {x : Value} {d : β}, LRel S w ρ0 (l.map f) xs → xs[j]? = some x → l[j]? = some d → VRel S w ρ0 (f d) x
  | [], xs, j, x, d, h, _, hd => by simp at hd
  | p :: r, xs, 0, x, d, h, hx, hd => by
    simp only [List.map_cons, LRel] at h
    obtain ⟨y, ys, rfl, h1, h2⟩ := h
    simp only [List.getElem?_cons_zero, Option.some.injEq] at hx hd
    subst hx hd; exact h1
  | p :: r, xs, j + 1, x, d, h, hx, hd => by
    simp only [List.map_cons, LRel] at h
    obtain ⟨y, ys, rfl, h1, h2⟩ := h
    exact uh h2 (by simpa using hx) (by simpa using hd)
theorem vn (D : KeyT P kt α enc) {encV : β → V} {t et : TypeId} {x y : Operand} {id : Nat} {k : α} {l : List (α × β)} {c : Bool} {zv : V} {z : Value} (hr : HRel S w ρ h) (fr : Fr a n (fA a)) (hx : Opd S w ρ a x (.sl id)) (hy : Opd S w ρ a y (enc k)) (ho : h id = .mp kt et (l.map fun p => enc p.1) (l.map fun p => encV p.2)) (ht : P.underlying t = some (.map kt et)) (hz : (zeroValue et).run P w = .ok z w) (hzv : VRel S w ρ zv z) :
    Does P S w ρ h a ty (.lookup t x y c) (some (wu c (mlook k l) encV zv)) h (fun _ => False) := by
  obtain ⟨u, k1, k2⟩ := hx
  obtain ⟨q, k3, k4⟩ := hy
  simp only [VRel] at k2
  obtain ⟨b, es, ck, h1, h2, h3, h4⟩ := zH hr ho
  rw [k2.1] at h1; cases h1
  rw [D.rel] at k4; subst k4
  have hks := qq D h3
  have hfd := D.fnd w k β l es.toList hks
  have key : ∀ v, (Instr.lookup t (.map (some b)) (D.val k) c).run P w = .ok v w → Runs P a ty (.lookup t x y c) w (.value v) w := fun v hv _ _ _ _ => by
    simp only [execOp, fr.eval k1, fr.eval k3]
    simp [hv]
  rcases pu D.val k l es.toList 0 hks with ⟨g1, g2, _⟩ | ⟨j, e, d, g1, g2, g3, g4, g5, _⟩
  · rw [g1] at hfd
    refine ⟨_, w, ρ, key (if c then .tuple #[z, .bool false] else z) ?_, Eff.refl hr, _, rfl, ?_⟩
    · simp [Instr.lookup, run_underlying ht, MapKept.run_getObj_map h2, D.chk, hfd, hz, Result.andThen]
    · rw [g2]
      cases c with
      | true => simp only [wu, if_true, VRel]; exact ⟨[z, .bool false], rfl, z, _, rfl, hzv, _, _, rfl, rfl, rfl⟩
      | false => exact hzv
  · rw [g1] at hfd
    have hv : VRel S w ρ (encV d) e.val := (uh (f := fun p : α × β => encV p.2) h4 (by rw [List.getElem?_map, g2]; rfl) g4).up up0
    refine ⟨_, w, ρ, key (if c then .tuple #[e.val, .bool true] else e.val) ?_, Eff.refl hr, _, rfl, ?_⟩
    · simp [Instr.lookup, run_underlying ht, MapKept.run_getObj_map h2, D.chk, hfd, Result.andThen]
    · rw [g5]
      cases c with
      | true => simp only [wu, if_true, VRel]; exact ⟨[e.val, .bool true], rfl, e.val, _, rfl, hv, _, _, rfl, rfl, rfl⟩
      | false => exact hv
theorem BA (D : KeyT P kt α enc) {encV : β → V} {t et : TypeId} {x y z : Operand} {id : Nat} {k : α} {d : β} {l : List (α × β)} (hr : HRel S w ρ h) (fr : Fr a n (fA a)) (hx : Opd S w ρ a x (.sl id)) (hy : Opd S w ρ a y (enc k)) (hz : Opd S w ρ a z (encV d)) (hp : (encV d).pure = true) (ho : h id = .mp kt et (l.map fun p => enc p.1) (l.map fun p => encV p.2)) (ht : P.underlying t = some (.map kt et)) :
    Does P S w ρ h a ty (.mapUpdate t x y z) none (cp h id (.mp kt et ((mput k d l).map fun p => enc p.1) ((mput k d l).map fun p => encV p.2))) (· = id) := by
  obtain ⟨u, k1, k2⟩ := hx
  obtain ⟨q, k3, k4⟩ := hy
  obtain ⟨v, k5, k6⟩ := hz
  simp only [VRel] at k2
  obtain ⟨b, es, ck, h1, h2, h3, h4⟩ := zH hr ho
  rw [k2.1] at h1; cases h1
  rw [D.rel] at k4; subst k4
  have hks := qq D h3
  have hfd := D.fnd w k β l es.toList hks
  have hlt : b < w.heap.size := by
    rcases Nat.lt_or_ge b w.heap.size with h5 | h5
    · exact h5
    · rw [Array.getElem?_eq_none h5] at h2; cases h2
  have key : ∀ w', (Instr.mapUpdate t (.map (some b)) (D.val k) v).run P w = .ok () w' → Runs P a ty (.mapUpdate t x y z) w .skip w' := fun w' hv _ _ _ _ => by
    simp only [execOp, fr.eval k1, fr.eval k3, fr.eval k5]
    simp [hv]
  have hX : ∀ c, c ∈ [b] → own ρ id (h id) c := fun c hc => by simp only [List.mem_singleton] at hc; subst hc; rw [ho]; exact k2.1
  have hc : ∀ o, Chg [b] w { w with heap := w.heap.setIfInBounds b o } := fun o => ⟨rfl, rfl, rfl, by simp, fun c hc hcb => by
    simp only [List.mem_singleton] at hcb
    simp only [Array.getElem?_setIfInBounds]
    rw [if_neg (fun e => hcb e.symm)]⟩
  have hob : ∀ o, ({ w with heap := w.heap.setIfInBounds b o } : World).heap[b]? = some o := fun o => by simp [Array.getElem?_setIfInBounds, hlt]
  have up : ∀ o, Up S S w { w with heap := w.heap.setIfInBounds b o } ρ0 ρ0 := fun o => ⟨fun _ h => h, fun c hc' hcl => (hc o).block c hcl (fun hcb => by simp only [List.mem_singleton] at hcb; subst hcb; exact hr.sep id c (hX c (by simp)) hc'), fun _ _ h => h⟩
  have hown : ∀ ks vs c, own ρ id (.mp kt et ks vs) c → own ρ id (h id) c := fun ks vs c hb => by rw [ho]; exact hb
  have hv0 : VRel S w ρ0 (encV d) v := k6.pure hp
  rcases pu D.val k l es.toList 0 hks with ⟨g1, _, g3⟩ | ⟨j, e, d', g1, g2, g3, g4, _, g6⟩
  · rw [g1] at hfd
    refine ⟨_, _, ρ, key { w with heap := w.heap.setIfInBounds b (.map (es.push ⟨D.val k, v, ck⟩) (ck + 1)) } ?_, pW hr (hc _) hX ⟨b, _, _, k2.1, hob _, ?_, ?_⟩ (hown _ _), rfl⟩
    · simp [Instr.mapUpdate, run_underlying ht, MapKept.run_getObj_map h2, D.chk, hfd, MapKept.run_setObj_map _ h2, Result.andThen]
    · rw [g3]
      simp only [List.map_append, List.map_cons, List.map_nil, Array.toList_push]
      exact (LRel.up (up _) h3).append ⟨_, _, rfl, (D.rel _ _ _ _ _).2 rfl, rfl⟩
    · rw [g3]
      simp only [List.map_append, List.map_cons, List.map_nil, Array.toList_push]
      exact (LRel.up (up _) h4).append ⟨_, _, rfl, VRel.up (up _) hv0, rfl⟩
  · rw [g1, Nat.zero_add] at hfd
    have hj : es[j]? = some e := by simpa using g2
    have hlist : (es.modify j (fun e' => { e' with key := D.val k, val := v })).toList = es.toList.set j { e with key := D.val k, val := v } := by rw [Array.toList_modify, ChangeMaps.modify_eq_set _ _ _ _ g2]
    refine ⟨_, _, ρ, key { w with heap := w.heap.setIfInBounds b (.map (es.modify j (fun e' => { e' with key := D.val k, val := v })) ck) } ?_, pW hr (hc _) hX ⟨b, _, _, k2.1, hob _, ?_, ?_⟩ (hown _ _), rfl⟩
    · simp [Instr.mapUpdate, run_underlying ht, MapKept.run_getObj_map h2, D.chk, hfd, hj, g3, D.stay, MapKept.run_setObj_map _ h2, Result.andThen]
    · rw [g6, hlist]
      simp only [List.map_set]
      exact (LRel.up (up _) h3).set ((D.rel _ _ _ _ _).2 rfl)
    · rw [g6, hlist]
      simp only [List.map_set]
      exact (LRel.up (up _) h4).set (VRel.up (up _) hv0)
end
end Go.Proofs.YtiknldgpnhikhaaGreat
namespace Go.Proofs.YtiknldgpnhikhaaGreat
open Go.RowKit Lx Sx
section
variable {P : Program} {T : Tab} {K : Ctx} {Q : Exit → Act → World → Prop} {p : EP} {s : List EI} {n : Nat} {F F1 : Fm} {H H1 : Hp} {α β : Type} [DecidableEq α] {enc : α → V} {kt : TypeId}
theorem dMM {t : TypeId} {ty : TypeId} (kt et : TypeId) : ∀ S w ρ a, HRel S w ρ H.get → FRel S w ρ a n F → Does P S w ρ H.get a ty (.makeMap t none) (some (.sl H.nx)) ((ED.new (.mp kt et [] [])).app H.get H.nx) (ED.new (.mp kt et [] [])).tch := fun S w ρ a hr hF =>
  e_mkMap hr H.get_free
theorem uE (D : KeyT P kt α enc) {encV : β → V} {t et : TypeId} {x y : Operand} {id : Nat} {k : α} {l : List (α × β)} {c : Bool} {zv v : V} {z : Value} {ty : TypeId} (hq : mlook k l = none) (ht : P.underlying t = some (.map kt et)) (hz : ∀ w, (zeroValue et).run P w = .ok z w) (hzv : zEq z zv = true) (hx : aI F x = some (.sl id)) (hy : aI F y = some (enc k)) (ho : H.get id = .mp kt et (l.map fun p => enc p.1) (l.map fun p => encV p.2)) (hv : (match c with | true => V.tup [zv, .bool false] | false => zv) = v) :
    ∀ S w ρ a, HRel S w ρ H.get → FRel S w ρ a n F → Does P S w ρ H.get a ty (.lookup t x y c) (some v) (ED.nop.app H.get H.nx) ED.nop.tch := fun S w ρ a hr hF => by
  have := vn (ty := ty) (c := c) (zv := zv) D hr hF.fr (al hF hx) (al hF hy) ho ht (hz w) (tx hzv)
  rw [hq] at this
  subst hv
  exact this
theorem uB (D : KeyT P kt α enc) {encV : β → V} {t et : TypeId} {x y : Operand} {id : Nat} {k : α} {l : List (α × β)} {c : Bool} {v : V} {z : Value} {ty : TypeId} {d : β} {zv : V} (hq : mlook k l = some d) (ht : P.underlying t = some (.map kt et)) (hz : ∀ w, (zeroValue et).run P w = .ok z w) (hzv : zEq z zv = true) (hx : aI F x = some (.sl id)) (hy : aI F y = some (enc k)) (ho : H.get id = .mp kt et (l.map fun p => enc p.1) (l.map fun p => encV p.2)) (hv : (match c with | true => V.tup [encV d, .bool true] | false => encV d) = v) :
    ∀ S w ρ a, HRel S w ρ H.get → FRel S w ρ a n F → Does P S w ρ H.get a ty (.lookup t x y c) (some v) (ED.nop.app H.get H.nx) ED.nop.tch := fun S w ρ a hr hF => by
  have := vn (ty := ty) (c := c) (zv := zv) D hr hF.fr (al hF hx) (al hF hy) ho ht (hz w) (tx hzv)
  rw [hq] at this
  subst hv
  exact this
theorem zd (D : KeyT P kt α enc) {encV : β → V} {t et : TypeId} {x y z : Operand} {id : Nat} {k : α} {d : β} {l : List (α × β)} {v : V} {ty : TypeId} {ks vs : List V} (ht : P.underlying t = some (.map kt et)) (hx : aI F x = some (.sl id)) (hy : aI F y = some (enc k)) (hz : aI F z = some v) (hv : v = encV d) (hp : v.pure = true) (ho : H.get id = .mp kt et (l.map fun p => enc p.1) (l.map fun p => encV p.2)) (hk : ((mput k d l).map fun p => enc p.1) = ks) (hvs : ((mput k d l).map fun p => encV p.2) = vs) :
    ∀ S w ρ a, HRel S w ρ H.get → FRel S w ρ a n F → Does P S w ρ H.get a ty (.mapUpdate t x y z) none ((ED.set id (.mp kt et ks vs)).app H.get H.nx) (ED.set id (.mp kt et ks vs)).tch := fun S w ρ a hr hF => by
  subst hv hk hvs
  exact BA D hr hF.fr (al hF hx) (al hF hy) (al hF hz) hp ho ht
theorem okM {kt et : TypeId} {ks vs : List V} {id : Nat} {o' : Ob} (ho : H.get id = .mp kt et ks vs) : (ED.set id o').ok H.get := by exact ⟨by rw [ho]; simp, by rw [ho]; simp⟩
theorem gHM {kt et : TypeId} {ks vs : List V} (id : Nat) (ks' vs' : List V) (ho : H.get id = .mp kt et ks vs) (h1 : ks = ks') (h2 : vs = vs') (h3 : H.ap (.set id (.mp kt et ks' vs')) _root_.id = H1) (k : Go P K Q p s n F H1) : Go P K Q p s n F H := by
  subst h1 h2
  rw [Hp.ap_eq] at h3; subst h3
  have hg : (H.app (.set id (.mp kt et ks vs))).get = H.get := by
    rw [Hp.get_app (by exact ⟨by rw [ho]; simp, by rw [ho]; simp⟩)]
    exact tt ho
  intro S w ρ a hr hi hF
  exact k S w ρ a (by rw [id_eq, hg]; exact hr) (by rw [id_eq, hg]; exact hi) hF
theorem zq {a b c d : Int} (h : (a == b && c == d) = true) : a = b ∧ c = d := by simpa using h
theorem zx {a b c d : Int} (h : (a == b && c == d) = false) : ¬ (a = b ∧ c = d) := fun ⟨e1, e2⟩ => by subst e1 e2; simp at h
theorem CD {neg : Bool} {f0 f1 : Field} {t u ty : TypeId} {x y : Operand} {a0 a1 b0 b1 : V} {x0 x1 y0 y1 : Value} {r0 r1 : Bool} (ht : P.underlying t = some (.struct #[f0, f1])) (hs : P.stoodInHeld t = false) (hm : P.eqGuardType P.depth t = false) (n0 : (f0.name != "_") = true) (n1 : (f1.name != "_") = true) (o0 : f0.offset = 0) (o1 : f1.offset = 1) (p0 : P.plainKey f0.type = true) (p1 : P.plainKey f1.type = true)
    (hx : aI F x = some (.agg [a0, a1])) (hy : aI F y = some (.agg [b0, b1])) (q0 : ∀ S w ρ z, VRel S w ρ a0 z → z = x0) (q1 : ∀ S w ρ z, VRel S w ρ a1 z → z = x1) (q2 : ∀ S w ρ z, VRel S w ρ b0 z → z = y0) (q3 : ∀ S w ρ z, VRel S w ρ b1 z → z = y1)
    (h0 : ∀ w, (Op.equalIn 9999 f0.type x0 y0).run P w = .ok r0 w) (h1 : ∀ w, (Op.equalIn 9999 f1.type x1 y1).run P w = .ok r1 w) :
    ∀ S w ρ a, HRel S w ρ H.get → FRel S w ρ a n F → Yld P S w ρ a ty (.binOp (if neg then .neq else .eql) t x y u) (.bool (if neg then !(r0 && r1) else (r0 && r1))) := fun S w ρ a hr hF => by
  obtain ⟨v, k1, k2⟩ := al hF hx
  obtain ⟨v', k3, k4⟩ := al hF hy
  simp only [VRel, LRel] at k2 k4
  obtain ⟨xs, rfl, z0, _, rfl, m0, z1, _, rfl, m1, rfl⟩ := k2
  obtain ⟨ys, rfl, z2, _, rfl, m2, z3, _, rfl, m3, rfl⟩ := k4
  rw [q0 _ _ _ _ m0, q1 _ _ _ _ m1] at k1
  rw [q2 _ _ _ _ m2, q3 _ _ _ _ m3] at k3
  refine ⟨.bool (if neg then !(r0 && r1) else (r0 && r1)), by simp only [VRel], fun w' _ _ _ _ _ => ?_⟩
  have he := fun w => sI (w := w) ht hs n0 n1 o0 o1 p0 p1 (h0 w) (h1 w)
  have he' : ∀ w, (Op.equalIn 10000 t (.agg #[x0, x1]) (.agg #[y0, y1])).run P w = .ok (r0 && r1) w := he
  simp only [execOp, hF.fr.eval k1, hF.fr.eval k3]
  cases neg
  · simp [run_eqGuard_agg _ _ _ _ _ _ _ hm, run_eql_struct, he', Result.andThen]
  · simp [run_eqGuard_agg _ _ _ _ _ _ _ hm, run_neq_struct, he', Result.andThen]
theorem qI {k : IntKind} {z : Int} : ∀ S w ρ x, VRel S w ρ (.int k z) x → x = Value.int k z := fun S w ρ x h => by simpa only [VRel] using h
theorem eI {t : TypeId} {a b : Int} (h : P.underlying t = some (.int .i64)) : ∀ w, (Op.equalIn 9999 t (.int .i64 a) (.int .i64 b)).run P w = .ok (a == b) w := fun w => run_equalIn_int w 9998 t _ _ a b h
theorem vY {w : World} {t e : TypeId} {a b c d : Int} (hu : P.underlying t = some (.array 2 e)) (ue : P.underlying e = some (.int .i64)) (hc : P.cellsOf e = 1) (hi : (P.info? e).isSome = true) : (Op.equalIn 10000 t (.agg #[.int .i64 a, .int .i64 b]) (.agg #[.int .i64 c, .int .i64 d])).run P w = .ok (a == c && b == d) w := by
  obtain ⟨i, hi⟩ := Option.isSome_iff_exists.1 hi
  show (Op.equalIn (9999 + 1) t _ _).run P w = _
  rw [run_equalIn_array w 9999 _ _ hu hi]
  have pk : P.plainKey e = true := by simp [Program.plainKey, ue]
  have q0 := run_part_plain w pk (xs := #[Value.int .i64 a, .int .i64 b]) (off := 0) (v := .int .i64 a) rfl
  have q1 := run_part_plain w pk (xs := #[Value.int .i64 c, .int .i64 d]) (off := 0) (v := .int .i64 c) rfl
  have q2 := run_part_plain w pk (xs := #[Value.int .i64 a, .int .i64 b]) (off := 1) (v := .int .i64 b) rfl
  have q3 := run_part_plain w pk (xs := #[Value.int .i64 c, .int .i64 d]) (off := 1) (v := .int .i64 d) rfl
  have e0 : ∀ x y : Int, (Op.equalIn 9999 e (.int .i64 x) (.int .i64 y)).run P w = .ok (x == y) w := fun x y => run_equalIn_int w 9998 e _ _ x y ue
  have hr : List.range 2 = [0, 1] := rfl
  rw [hr, hc]
  cases h1 : (a == c) <;> cases h2 : (b == d) <;> simp [Op.eqItems, q0, q1, q2, q3, e0, h1, h2, Result.andThen]
theorem Bu {neg : Bool} {t e u ty : TypeId} {x y : Operand} {a b c d : Int} (hu : P.underlying t = some (.array 2 e)) (ue : P.underlying e = some (.int .i64)) (hc : P.cellsOf e = 1) (hi : (P.info? e).isSome = true) (hm : P.eqGuardType P.depth t = false) (hx : aI F x = some (.agg [.int .i64 a, .int .i64 b])) (hy : aI F y = some (.agg [.int .i64 c, .int .i64 d])) :
    ∀ S w ρ a', HRel S w ρ H.get → FRel S w ρ a' n F → Yld P S w ρ a' ty (.binOp (if neg then .neq else .eql) t x y u) (.bool (if neg then !(a == c && b == d) else (a == c && b == d))) := fun S w ρ a' hr hF => by
  obtain ⟨v, k1, k2⟩ := al hF hx
  obtain ⟨v', k3, k4⟩ := al hF hy
  simp only [VRel, LRel] at k2 k4
  obtain ⟨xs, rfl, z0, _, rfl, rfl, z1, _, rfl, rfl, rfl⟩ := k2
  obtain ⟨ys, rfl, z2, _, rfl, rfl, z3, _, rfl, rfl, rfl⟩ := k4
  refine ⟨.bool (if neg then !(a == c && b == d) else (a == c && b == d)), by simp only [VRel], fun w' _ _ _ _ _ => ?_⟩
  have he' : ∀ w, (Op.equalIn 10000 t (.agg #[.int .i64 a, .int .i64 b]) (.agg #[.int .i64 c, .int .i64 d])).run P w = .ok (a == c && b == d) w := fun w => vY hu ue hc hi
  simp only [execOp, hF.fr.eval k1, hF.fr.eval k3]
  cases neg
  · simp [run_eqGuard_agg _ _ _ _ _ _ _ hm, run_eql_struct, he', Result.andThen]
  · simp [run_eqGuard_agg _ _ _ _ _ _ _ hm, run_neq_struct, he', Result.andThen]
section
variable {t e u ty : TypeId} {x : Operand}
end
end
end Go.Proofs.YtiknldgpnhikhaaGreat
namespace Go.Proofs.YtiknldgpnhikhaaGreat
open Go.RowKit Lx Sx
section
variable {P : Program} {T : Tab} {n : Nat} {F : Fm} {H : Hp}
theorem yIP (hT : TabOk P T) {t e : TypeId} {x y : Operand} {len sz k o id r : Nat} {td tz : TD} {ty : TypeId} (ht : T.ty t = some tz) (hk : (match tz.kind with | .arr l e' => Nat.beq l len && Nat.beq e e' | _ => false) = true) (hte : T.ty e = some td) (hsz : td.size = sz) (hx : aI F x = some (.ptr id o)) (hy : aI F y = some (.int .i64 (k : Int))) (hlt : Nat.blt k len = true) (hl : o + k * sz = r) :
    ∀ S w ρ a, HRel S w ρ H.get → FRel S w ρ a n F → Yld P S w ρ a ty (.indexAddr t x y) (.ptr id r) := fun S w ρ a hr hF => by
  subst hl hsz
  obtain ⟨y0, h1, h2⟩ := al hF hx
  simp only [VRel] at h2
  obtain ⟨b, h3, rfl⟩ := h2
  have harr : P.underlying t = some (.array len e) := by
    split at hk
    · rename_i l e' he'
      simp only [Bool.and_eq_true] at hk
      have h3 := Nat.eq_of_beq_eq_true hk.1
      have h4 := Nat.eq_of_beq_eq_true hk.2
      subst h3 h4
      exact (hT.ty _ _ ht).arr he'
    · cases hk
  exact ⟨_, by simp only [VRel]; exact ⟨b, h3, rfl⟩, fun w' _ => AK hF.fr harr (hT.ty _ _ hte).size h1 (bn (al hF hy)) rfl (Nat.le_of_ble_eq_true hlt) rfl⟩
theorem yMn {ty : TypeId} : ∀ S w ρ a, HRel S w ρ H.get → FRel S w ρ a n F → Yld P S w ρ a ty (.assign (.const (.map none))) (.raw (.map none)) := fun S w ρ a hr hF =>
  ⟨.map none, by simp only [VRel]; exact ⟨trivial, rfl⟩, fun w' _ _ _ _ _ => by simp only [execOp, hF.fr.eval (x := .const (.map none)) rfl]; rfl⟩
end
end Go.Proofs.YtiknldgpnhikhaaGreat
namespace Go.Proofs.YtiknldgpnhikhaaGreat
open Go.RowKit Lx Sx
set_option maxRecDepth 100000
set_option maxHeartbeats 4000000
structure GTypesAlias where
  module : Int
  def_ : Int
abbrev GTypesAlias.c (x : GTypesAlias) : List V := [.int .i64 x.module, .int .i64 x.def_]
abbrev GTypesAlias.w (x : GTypesAlias) : V := .agg x.c
def ce : KeyT Tryz.prog 47 (Int × Int) (fun x => V.agg [(V.int .i64 x.1), (V.int .i64 x.2)]) := Ci (fun x => x.1) (fun x => x.2) (fun x y h1 h2 => Prod.ext h1 h2) Tryz.underlying47 (by kernel_rfl) (by decide) (by decide) rfl rfl Tryz.underlying3 Tryz.underlying3
def jN (p0 : Tree) (r0 : Tree) (r1 : Int) : Prop := aP Tryz.prog 30 [.agg (ai p0)] (.tup [.agg (ai r0), .int .i64 r1])
def iw (p0 : (List Tree)) (r0 : Bool) : Prop := aP Tryz.prog 24 [.row 4 (kidsV p0)] (.bool r0)
def iz (p0 : (List Tree)) (r0 : (List ((Int × Int) × GTypesAlias))) : Prop := eb [] Tryz.prog 25 [.row 4 (kidsV p0)] ⟨0, []⟩ (fun u G => u = .sl 0 ∧ G = ⟨1, [(0, .mp 47 47 (List.map (fun p => (fun x => V.agg [(V.int .i64 x.1), (V.int .i64 x.2)]) p.1) r0) (List.map (fun p => GTypesAlias.w p.2) r0))]⟩)
def dt (p0 : (List Tree)) (p1 : Int) (p2 : Tree) (r0 : Tree) (r1 : Int) : Prop := aP Tryz.prog 12 [.row 4 (kidsV p0), .int .i64 p1, .agg (ai p2)] (.tup [.agg (ai r0), .int .i64 r1])
def dh (p0 : (List Tree)) (p1 : Int) (p2 : Int) (r0 : Bool) : Prop := aP Tryz.prog 9 [.row 4 (kidsV p0), .int .i64 p1, .int .i64 p2] (.bool r0)
def mb (p0 : (List Tree)) (p1 : Int) (p2 : Tree) (p3 : Int) (p4 : Tree) (r0 : Bool) : Prop := aP Tryz.prog 16 [.row 4 (kidsV p0), .int .i64 p1, .agg (ai p2), .int .i64 p3, .agg (ai p4)] (.bool r0)
def jo (p0 : Tree) (p1 : Tree) (r0 : Bool) : Prop := aP Tryz.prog 37 [.agg (ai p0), .agg (ai p1)] (.bool r0)
def lE (p0 : (List (List UInt8))) (p1 : (List (List UInt8))) (r0 : Bool) : Prop := aP Tryz.prog 61 [.row 1 (List.map V.str p0), .row 1 (List.map V.str p1)] (.bool r0)
def i3 (m : Nat) (t1v1 : Tree) (i1v2 : Nat) (r0 : Tree) (r1 : Int) : Prop := ∀ (K : Ctx) (j1 : Nat), au K [] → m ≤ j1 → Go Tryz.prog K (bodyPost Tryz.prog Tryz.f30 (SP K (fun u _ => u = .tup [.agg (ai r0), .int .i64 r1]))) (.code (cL (cK (cA (cB (cB (ae Tryz.f30))))))) [.loop (cL (cK (cA (cB (cB (ae Tryz.f30)))))) j1, .blk 0, .seq (cB (cB (cB (ae Tryz.f30))))] 16 (mkF 16 0 [(1, .ptr 0 0), (2, .ptr 1 0), (4, .int .i64 ((i1v2 : Nat) : Int))]) ⟨2, [(1, .var 29 [.int .i64 0, .str [], .nils, .nils]), (0, .var 29 (ai t1v1))]⟩
theorem rG (m : Nat) (p0 : Tree) (r0 : Tree) (r1 : Int) (h : i3 m p0 0 r0 r1) : jN p0 r0 r1 := by
 refine ⟨rfl, rfl, ?_⟩
 refine ak 16 [] Tryz.func30 rfl rfl rfl (aA rfl) fun K hK => ?_
 refine gR 14 rfl ?_
 refine go_loop m ?_
 exact gJ (h K _ hK (by omega)) [0, 1] [] rfl hK ⟨⟨_, rfl, .rfl⟩, ⟨_, rfl, .rfl⟩, ⟨_, rfl, .rfl⟩, trivial⟩ ⟨⟨_, rfl, ⟨rfl, ah.rfl⟩⟩, ⟨⟨_, rfl, ⟨rfl, ah.rfl⟩⟩, trivial⟩⟩ rfl
theorem nq (m : Nat) (t1v1 : Tree) (i1v2 : Nat) (r0 : Tree) (r1 : Int) (h : ((t1v1.kind = 8) → ∃ (t1_1 : Tree), t1v1.kids[0]? = some t1_1 ∧ i1v2 + 1 ≤ 9223372036854775807 ∧ i3 m t1_1 (i1v2 + 1) r0 r1) ∧ ((t1v1.kind ≠ 8) → t1v1 = r0 ∧ ((i1v2 : Nat) : Int) = r1)) : i3 (m + 1) t1v1 i1v2 r0 r1 := by
 intro K j1 hK hj1
 obtain ⟨j1, rfl⟩ : ∃ j, j1 = j + 1 := ⟨j1 - 1, by omega⟩
 refine gR 8 rfl ?_
 refine gB 7 rfl rfl rfl (fun hd => ?_) (fun hd => ?_)
 replace hd := (eq_of_beq hd)
 replace h := h.1 hd
 refine gR 8 rfl ?_
 obtain ⟨t1_1, hxt1_1, h⟩ := h
 refine gY (aK (am hxt1_1) aa rfl rfl rfl rfl) rfl rfl ?_
 refine gR 6 rfl ?_
 obtain ⟨hb, h⟩ := h
 refine gR 1 rfl ?_
 refine gV 13 (.int .i64 ((i1v2 + 1 : Nat) : Int)) rfl (ar (by omega) (by omega)) rfl ?_
 refine gR 3 rfl ?_
 refine aq ?_
 exact gJ (h K _ hK (by omega)) [0, 1] [] rfl hK ⟨⟨_, rfl, .rfl⟩, ⟨_, rfl, .rfl⟩, ⟨_, rfl, .rfl⟩, trivial⟩ ⟨⟨_, rfl, ⟨rfl, ah.rfl⟩⟩, ⟨⟨_, rfl, ⟨rfl, ah.rfl⟩⟩, trivial⟩⟩ rfl
 replace hd := (ne_of_beq_false hd)
 replace h := h.2 hd
 refine gR 3 rfl ?_
 refine av ?_
 refine gR 11 rfl ?_
 obtain ⟨rfl, rfl⟩ := h
 refine ab (F' := (mkF 16 0 [(2, .ptr 0 0), (3, .int .i64 ((i1v2 : Nat) : Int))])) (H' := ⟨1, [(0, .var 29 [.int .i64 t1v1.kind, .str t1v1.text, .row 1 (List.map V.str t1v1.leads), .row 4 (kidsV t1v1.kids)])]⟩) [1] [] rfl hK ⟨⟨_, rfl, .rfl⟩, ⟨_, rfl, .rfl⟩, trivial⟩ ⟨⟨_, rfl, ⟨rfl, ah.rfl⟩⟩, trivial⟩ rfl ?_
 exact ac aa (rs := [.cell 2 29, .tmp 3]) rfl rfl rfl
def hW (m : Nat) (p0 : (List Tree)) (i1v1 : Nat) (r0 : Bool) : Prop := ∀ (K : Ctx) (j1 : Nat), au K [] → m ≤ j1 → Go Tryz.prog K (bodyPost Tryz.prog Tryz.f24 (SP K (fun u _ => u = .bool r0))) (.code (cL (cK (cB (cA (cB (ae Tryz.f24))))))) [.loop (cL (cK (cB (cA (cB (ae Tryz.f24)))))) j1, .blk 0, .seq (cB (cB (ae Tryz.f24)))] 20 (mkF 20 0 [(5, .row 4 (kidsV p0)), (6, .int .i64 ((p0.length : Nat) : Int)), (7, .int .i64 ((i1v1 : Nat) : Int))]) ⟨0, []⟩
theorem qh (m : Nat) (p0 : (List Tree)) (r0 : Bool) (h : hW m p0 0 r0) : iw p0 r0 := by
 refine ⟨rfl, rfl, ?_⟩
 refine ak 20 [] Tryz.func24 rfl rfl rfl (aA rfl) fun K hK => ?_
 refine gR 10 rfl ?_
 refine gV 6 (.int .i64 ((p0.length : Nat) : Int)) rfl (bc (aD _)) rfl ?_
 refine gLB 5 rfl (aD _) fun hl5 => ?_
 refine gR 4 rfl ?_
 refine go_loop m ?_
 exact gJ (h K _ hK (by omega)) [] [] rfl hK ⟨⟨_, rfl, .rfl⟩, ⟨_, rfl, .rfl⟩, ⟨_, rfl, .rfl⟩, trivial⟩ trivial rfl
theorem mg (m : Nat) (p0 : (List Tree)) (i1v1 : Nat) (r0 : Bool) (h : ((i1v1 < p0.length) → ∃ (t1_1 : Tree), p0[i1v1]? = some t1_1 ∧ ((t1_1.kind ≠ 1) → false = r0) ∧ ((t1_1.kind = 1) → ∃ (b1_2 : Bool), eE t1_1 b1_2 ∧ ((b1_2 = false) → false = r0) ∧ ((b1_2 = true) → i1v1 + 1 ≤ 9223372036854775807 ∧ hW m p0 (i1v1 + 1) r0))) ∧ ((¬ i1v1 < p0.length) → true = r0)) : hW (m + 1) p0 i1v1 r0 := by
 intro K j1 hK hj1
 obtain ⟨j1, rfl⟩ : ∃ j, j1 = j + 1 := ⟨j1 - 1, by omega⟩
 refine gR 6 rfl ?_
 refine gB 8 rfl rfl rfl (fun hd => ?_) (fun hd => ?_)
 replace hd := (cO hd)
 replace h := h.1 hd
 refine gR 7 rfl ?_
 obtain ⟨t1_1, hxt1_1, h⟩ := h
 refine gY (aK (am hxt1_1) aa rfl rfl rfl rfl) rfl rfl ?_
 refine gR 11 rfl ?_
 refine gB 14 rfl rfl rfl (fun hd => ?_) (fun hd => ?_)
 refine gT 13 rfl hd rfl ?_
 replace hd := (fe hd)
 replace h := h.1 hd
 refine gR 15 rfl ?_
 refine aM ?_
 refine gR 2 rfl ?_
 subst h
 refine ab (F' := (mkF 20 0 [(2, .bool false)])) (H' := ⟨0, []⟩) [] [] rfl hK ⟨⟨_, rfl, .rfl⟩, trivial⟩ trivial rfl ?_
 exact ac aa (rs := [.tmp 2]) rfl rfl rfl
 refine gF 13 rfl hd rfl ?_
 replace hd := (dA hd)
 replace h := h.2 hd
 refine gR 1 rfl ?_
 obtain ⟨b1_2, hs6, h⟩ := h
 refine gC0 hs6 (by kernel_rfl) rfl rfl .rfl rfl ?_
 refine gR 4 rfl ?_
 refine gB 18 rfl rfl rfl (fun hd => ?_) (fun hd => ?_)
 replace hd := (bM hd)
 replace h := h.1 hd
 refine gR 9 rfl ?_
 refine aM ?_
 refine gR 2 rfl ?_
 subst h
 refine ab (F' := (mkF 20 0 [(2, .bool false)])) (H' := ⟨0, []⟩) [] [] rfl hK ⟨⟨_, rfl, .rfl⟩, trivial⟩ trivial rfl ?_
 exact ac aa (rs := [.tmp 2]) rfl rfl rfl
 replace hd := (bL hd)
 replace h := h.2 hd
 refine gR 5 rfl ?_
 obtain ⟨hb, h⟩ := h
 refine gR 1 rfl ?_
 refine gV 19 (.int .i64 ((i1v1 + 1 : Nat) : Int)) rfl (ar (by omega) (by omega)) rfl ?_
 refine gR 2 rfl ?_
 refine aq ?_
 exact gJ (h K _ hK (by omega)) [] [] rfl hK ⟨⟨_, rfl, .rfl⟩, ⟨_, rfl, .rfl⟩, ⟨_, rfl, .rfl⟩, trivial⟩ trivial rfl
 replace hd := (cI hd)
 replace h := h.2 hd
 refine gR 3 rfl ?_
 refine av ?_
 refine gR 8 rfl ?_
 subst h
 refine ab (F' := (mkF 20 0 [(2, .bool true)])) (H' := ⟨0, []⟩) [] [] rfl hK ⟨⟨_, rfl, .rfl⟩, trivial⟩ trivial rfl ?_
 exact ac aa (rs := [.tmp 2]) rfl rfl rfl
def d9 (m : Nat) (p0 : (List Tree)) (r0_1 : (List GTarget)) (l1v1 : (List ((Int × Int) × GTypesAlias))) (i1v2 : Nat) (r0 : (List ((Int × Int) × GTypesAlias))) : Prop := ∀ (K : Ctx) (j1 : Nat), au K [] → m ≤ j1 → Go Tryz.prog K (bodyPost Tryz.prog Tryz.f25 (SP K (fun u G => u = .sl 0 ∧ G = ⟨1, [(0, .mp 47 47 (List.map (fun p => (fun x => V.agg [(V.int .i64 x.1), (V.int .i64 x.2)]) p.1) r0) (List.map (fun p => GTypesAlias.w p.2) r0))]⟩))) (.code (cL (cK (cB (cA (cB (cB (ae Tryz.f25)))))))) [.loop (cL (cK (cB (cA (cB (cB (ae Tryz.f25))))))) j1, .blk 0, .seq (cB (cB (cB (ae Tryz.f25))))] 50 (mkF 50 0 [(0, .row 4 (kidsV p0)), (3, .sl 0), (9, .row 5 (List.map GTarget.w r0_1)), (10, .int .i64 ((r0_1.length : Nat) : Int)), (11, .int .i64 ((i1v2 : Nat) : Int))]) ⟨1, [(0, .mp 47 47 (List.map (fun p => (fun x => V.agg [(V.int .i64 x.1), (V.int .i64 x.2)]) p.1) l1v1) (List.map (fun p => GTypesAlias.w p.2) l1v1))]⟩
theorem qt (m : Nat) (p0 : (List Tree)) (r0 : (List ((Int × Int) × GTypesAlias))) (h : ∃ (r0_1 : (List GTarget)), lz p0 r0_1 ∧ d9 m p0 r0_1 ([] : (List ((Int × Int) × GTypesAlias))) 0 r0) : iz p0 r0 := by
 refine ak 50 [] Tryz.func25 rfl rfl rfl (aA rfl) fun K hK => ?_
 refine gR 2 rfl ?_
 refine gY (yMn) rfl rfl ?_
 refine gR 4 rfl ?_
 refine gDo (.new (.mp 47 47 [] [])) (dMM 47 47) trivial rfl rfl rfl ?_
 refine gHM 0 (List.map (fun p => (fun x => V.agg [(V.int .i64 x.1), (V.int .i64 x.2)]) p.1) ([] : (List ((Int × Int) × GTypesAlias)))) (List.map (fun p => GTypesAlias.w p.2) ([] : (List ((Int × Int) × GTypesAlias)))) rfl rfl rfl rfl ?_
 refine gR 7 rfl ?_
 obtain ⟨r0_1, hs5, h⟩ := h
 refine gC0 hs5 (by kernel_rfl) rfl rfl .rfl rfl ?_
 refine gR 1 rfl ?_
 refine gV 10 (.int .i64 ((r0_1.length : Nat) : Int)) rfl (bc (aV GTarget.w _)) rfl ?_
 refine gLB 9 rfl (aV GTarget.w _) fun hl6 => ?_
 refine gR 4 rfl ?_
 refine go_loop m ?_
 exact gJ (h K _ hK (by omega)) [0] [] rfl hK ⟨⟨_, rfl, .rfl⟩, ⟨_, rfl, .rfl⟩, ⟨_, rfl, .rfl⟩, ⟨_, rfl, .rfl⟩, ⟨_, rfl, .rfl⟩, trivial⟩ ⟨⟨_, rfl, ⟨rfl, rfl, rfl, rfl⟩⟩, trivial⟩ rfl
theorem mm (m : Nat) (p0 : (List Tree)) (r0_1 : (List GTarget)) (l1v1 : (List ((Int × Int) × GTypesAlias))) (i1v2 : Nat) (r0 : (List ((Int × Int) × GTypesAlias))) (h : ((i1v2 < r0_1.length) → ∃ (x1_1 : GTarget), r0_1[i1v2]? = some x1_1 ∧ ∃ (n1_2 : Int), x1_1.Use.Path[0]? = some n1_2 ∧ ((x1_1.Free = false) → ∃ (k1_3 : Nat), x1_1.Use.Module = ((k1_3 : Nat) : Int) ∧ ∃ (t1_4 : Tree), p0[k1_3]? = some t1_4 ∧ ∃ (k1_5 : Nat), n1_2 = ((k1_5 : Nat) : Int) ∧ ∃ (t1_6 : Tree), t1_4.kids[k1_5]? = some t1_6 ∧ ((t1_6.kind = 3) → i1v2 + 1 ≤ 9223372036854775807 ∧ d9 m p0 r0_1 (mput (x1_1.Use.Module, n1_2) (GTypesAlias.mk x1_1.Module x1_1.Def) l1v1) (i1v2 + 1) r0) ∧ ((t1_6.kind ≠ 3) → i1v2 + 1 ≤ 9223372036854775807 ∧ d9 m p0 r0_1 l1v1 (i1v2 + 1) r0)) ∧ ((x1_1.Free = true) → i1v2 + 1 ≤ 9223372036854775807 ∧ d9 m p0 r0_1 l1v1 (i1v2 + 1) r0)) ∧ ((¬ i1v2 < r0_1.length) → l1v1 = r0)) : d9 (m + 1) p0 r0_1 l1v1 i1v2 r0 := by
 intro K j1 hK hj1
 obtain ⟨j1, rfl⟩ : ∃ j, j1 = j + 1 := ⟨j1 - 1, by omega⟩
 refine gR 6 rfl ?_
 refine gB 12 rfl rfl rfl (fun hd => ?_) (fun hd => ?_)
 replace hd := (cO hd)
 replace h := h.1 hd
 refine gR 7 rfl ?_
 obtain ⟨x1_1, hxx1_1, h⟩ := h
 refine gY (aK (mapget (f := GTarget.w) hxx1_1) aa rfl rfl rfl rfl) rfl rfl ?_
 refine gR 10 rfl ?_
 obtain ⟨n1_2, hxn1_2, h⟩ := h
 refine gY (aK (mapget (f := (V.int .i64)) hxn1_2) aa rfl rfl rfl rfl) rfl rfl ?_
 refine gR 10 rfl ?_
 refine gB 23 rfl rfl rfl (fun hd => ?_) (fun hd => ?_)
 refine gT 22 rfl hd rfl ?_
 replace hd := (bM hd)
 replace h := h.1 hd
 refine gR 4 rfl ?_
 obtain ⟨k1_3, ek1_3, h⟩ := h
 refine gV 27 (.int .i64 ((k1_3 : Nat) : Int)) rfl (cw ek1_3) rfl ?_
 obtain ⟨t1_4, hxt1_4, h⟩ := h
 refine gY (aK (am hxt1_4) aa rfl rfl rfl rfl) rfl rfl ?_
 refine gR 3 rfl ?_
 obtain ⟨k1_5, ek1_5, h⟩ := h
 refine gV 31 (.int .i64 ((k1_5 : Nat) : Int)) rfl (cw ek1_5) rfl ?_
 obtain ⟨t1_6, hxt1_6, h⟩ := h
 refine gY (aK (am hxt1_6) aa rfl rfl rfl rfl) rfl rfl ?_
 refine gR 6 rfl ?_
 refine gB 36 rfl rfl rfl (fun hd => ?_) (fun hd => ?_)
 replace hd := (eq_of_beq hd)
 replace h := h.1 hd
 refine gR 13 rfl ?_
 refine gDo (.set 0 (.mp 47 47 (List.map (fun p => (fun x => V.agg [(V.int .i64 x.1), (V.int .i64 x.2)]) p.1) (mput (x1_1.Use.Module, n1_2) (GTypesAlias.mk x1_1.Module x1_1.Def) l1v1)) (List.map (fun p => GTypesAlias.w p.2) (mput (x1_1.Use.Module, n1_2) (GTypesAlias.mk x1_1.Module x1_1.Def) l1v1)))) (zd ce (encV := GTypesAlias.w) (k := (x1_1.Use.Module, n1_2)) (d := (GTypesAlias.mk x1_1.Module x1_1.Def)) (l := l1v1) Tryz.underlying48 rfl rfl rfl rfl rfl rfl rfl rfl) (okM rfl) rfl rfl rfl ?_
 refine gR 4 rfl ?_
 obtain ⟨hb, h⟩ := h
 refine gR 1 rfl ?_
 refine gV 48 (.int .i64 ((i1v2 + 1 : Nat) : Int)) rfl (ar (by omega) (by omega)) rfl ?_
 refine gR 2 rfl ?_
 refine aq ?_
 exact gJ (h K _ hK (by omega)) [0] [] rfl hK ⟨⟨_, rfl, .rfl⟩, ⟨_, rfl, .rfl⟩, ⟨_, rfl, .rfl⟩, ⟨_, rfl, .rfl⟩, ⟨_, rfl, .rfl⟩, trivial⟩ ⟨⟨_, rfl, ⟨rfl, rfl, rfl, rfl⟩⟩, trivial⟩ rfl
 replace hd := (ne_of_beq_false hd)
 replace h := h.2 hd
 refine gR 5 rfl ?_
 obtain ⟨hb, h⟩ := h
 refine gR 1 rfl ?_
 refine gV 48 (.int .i64 ((i1v2 + 1 : Nat) : Int)) rfl (ar (by omega) (by omega)) rfl ?_
 refine gR 2 rfl ?_
 refine aq ?_
 exact gJ (h K _ hK (by omega)) [0] [] rfl hK ⟨⟨_, rfl, .rfl⟩, ⟨_, rfl, .rfl⟩, ⟨_, rfl, .rfl⟩, ⟨_, rfl, .rfl⟩, ⟨_, rfl, .rfl⟩, trivial⟩ ⟨⟨_, rfl, ⟨rfl, rfl, rfl, rfl⟩⟩, trivial⟩ rfl
 refine gF 22 rfl hd rfl ?_
 replace hd := (bL hd)
 replace h := h.2 hd
 refine gR 20 rfl ?_
 obtain ⟨hb, h⟩ := h
 refine gR 1 rfl ?_
 refine gV 48 (.int .i64 ((i1v2 + 1 : Nat) : Int)) rfl (ar (by omega) (by omega)) rfl ?_
 refine gR 2 rfl ?_
 refine aq ?_
 exact gJ (h K _ hK (by omega)) [0] [] rfl hK ⟨⟨_, rfl, .rfl⟩, ⟨_, rfl, .rfl⟩, ⟨_, rfl, .rfl⟩, ⟨_, rfl, .rfl⟩, ⟨_, rfl, .rfl⟩, trivial⟩ ⟨⟨_, rfl, ⟨rfl, rfl, rfl, rfl⟩⟩, trivial⟩ rfl
 replace hd := (cI hd)
 replace h := h.2 hd
 refine gR 3 rfl ?_
 refine av ?_
 refine gR 9 rfl ?_
 subst h
 refine ab (F' := (mkF 50 0 [(2, .sl 0)])) (H' := ⟨1, [(0, .mp 47 47 (List.map (fun p => (fun x => V.agg [(V.int .i64 x.1), (V.int .i64 x.2)]) p.1) l1v1) (List.map (fun p => GTypesAlias.w p.2) l1v1))]⟩) [0] [] rfl hK ⟨⟨_, rfl, .rfl⟩, trivial⟩ ⟨⟨_, rfl, ⟨rfl, rfl, rfl, rfl⟩⟩, trivial⟩ rfl ?_
 exact aC [] aa (rs := [.tmp 2]) rfl rfl ⟨rfl, rfl⟩
def cX (m : Nat) (p0 : (List Tree)) (r0_8 : (List ((Int × Int) × GTypesAlias))) (t1v1 : Tree) (z1v2 : Int) (b1v3 : Bool) (z1v4 : Int) (z1v5 : Int) (l1v6 : (List ((Int × Int) × Bool))) (r0 : Tree) (r1 : Int) : Prop := ∀ (K : Ctx) (j1 : Nat), au K [] → m ≤ j1 → Go Tryz.prog K (bodyPost Tryz.prog Tryz.f12 (SP K (fun u _ => u = .tup [.agg (ai r0), .int .i64 r1]))) (.code (cL (cK (cB (cB (cB (cB (cT (cB (cA (cB (cB (cB (cB (ae Tryz.f12))))))))))))))) [.loop (cL (cK (cB (cB (cB (cB (cT (cB (cA (cB (cB (cB (cB (ae Tryz.f12)))))))))))))) j1, .blk 0, .seq (cB (cB (cB (cB (cB (ae Tryz.f12))))))] 118 (mkF 118 0 [(0, .row 4 (kidsV p0)), (6, .ptr 0 0), (8, .ptr 1 0), (9, .int .i64 z1v2), (12, .bool b1v3), (13, .ptr 2 0), (14, .sl 3), (15, .sl 4)]) ⟨5, [(4, .mp 47 4 (List.map (fun p => (fun x => V.agg [(V.int .i64 x.1), (V.int .i64 x.2)]) p.1) l1v6) (List.map (fun p => V.bool p.2) l1v6)), (3, .mp 47 47 (List.map (fun p => (fun x => V.agg [(V.int .i64 x.1), (V.int .i64 x.2)]) p.1) r0_8) (List.map (fun p => GTypesAlias.w p.2) r0_8)), (2, .var 47 [.int .i64 z1v4, .int .i64 z1v5]), (1, .var 29 (ai t1v1)), (0, .var 29 [.int .i64 0, .str [], .nils, .nils])]⟩
def fW (m : Nat) (z2v1 : Int) (l2v2 : (List Tree)) (i2v3 : Nat) (z2v4 : Int) (r0 : Tree) (r1 : Int) : Prop := ∀ (K : Ctx) (j1 : Nat), au K [] → m ≤ j1 → Go Tryz.prog K (bodyPost Tryz.prog Tryz.f12 (SP K (fun u _ => u = .tup [.agg (ai r0), .int .i64 r1]))) (.code (cL (cK (cB (cA (cB (cB (cB (cB (cB (cB (ae Tryz.f12)))))))))))) [.loop (cL (cK (cB (cA (cB (cB (cB (cB (cB (cB (ae Tryz.f12))))))))))) j1, .blk 2, .seq (cB (cB (cB (cB (cB (cB (cB (ae Tryz.f12))))))))] 118 (mkF 118 0 [(6, .ptr 0 0), (17, .ptr 1 0), (110, .int .i64 z2v4), (111, .int .i64 ((i2v3 : Nat) : Int))]) ⟨3, [(2, .row 29 4 (kidsV l2v2)), (1, .var 29 [.int .i64 z2v1, .str [], .nils, .sl 2]), (0, .var 29 [.int .i64 0, .str [], .nils, .nils])]⟩
def iC (m : Nat) (p0 : (List Tree)) (r0_8 : (List ((Int × Int) × GTypesAlias))) (t3v1 : Tree) (z3v2 : Int) (z3v3 : Int) (z3v4 : Int) (l3v5 : (List ((Int × Int) × Bool))) (r0 : Tree) (r1 : Int) : Prop := ∀ (K : Ctx) (j1 : Nat), au K [] → m ≤ j1 → Go Tryz.prog K (bodyPost Tryz.prog Tryz.f12 (SP K (fun u _ => u = .tup [.agg (ai r0), .int .i64 r1]))) (.code (cB (cB (cK (cB (cL (cK (cB (cB (cB (cB (cT (cB (cA (cB (cB (cB (cB (ae Tryz.f12))))))))))))))))))) [.blk 1, .loop (cL (cK (cB (cB (cB (cB (cT (cB (cA (cB (cB (cB (cB (ae Tryz.f12)))))))))))))) j1, .blk 0, .seq (cB (cB (cB (cB (cB (ae Tryz.f12))))))] 118 (mkF 118 0 [(0, .row 4 (kidsV p0)), (6, .ptr 0 0), (8, .ptr 1 0), (9, .int .i64 z3v2), (13, .ptr 2 0), (14, .sl 3), (15, .sl 4)]) ⟨5, [(4, .mp 47 4 (List.map (fun p => (fun x => V.agg [(V.int .i64 x.1), (V.int .i64 x.2)]) p.1) l3v5) (List.map (fun p => V.bool p.2) l3v5)), (3, .mp 47 47 (List.map (fun p => (fun x => V.agg [(V.int .i64 x.1), (V.int .i64 x.2)]) p.1) r0_8) (List.map (fun p => GTypesAlias.w p.2) r0_8)), (2, .var 47 [.int .i64 z3v3, .int .i64 z3v4]), (1, .var 29 (ai t3v1)), (0, .var 29 [.int .i64 0, .str [], .nils, .nils])]⟩
theorem kZ (m : Nat) (p0 : (List Tree)) (p1 : Int) (p2 : Tree) (r0 : Tree) (r1 : Int) (h : ∃ (b0_1 : Bool), iw p0 b0_1 ∧ ((b0_1 = false) → (Tree.node 0 [] [] []) = r0 ∧ 5 = r1) ∧ ((b0_1 = true) → ((p1 < 0) → (Tree.node 0 [] [] []) = r0 ∧ 5 = r1) ∧ ((¬ p1 < 0) → ((((p0.length : Nat) : Int) ≤ p1) → (Tree.node 0 [] [] []) = r0 ∧ 5 = r1) ∧ ((¬ ((p0.length : Nat) : Int) ≤ p1) → ((p2.kind < 5) → (Tree.node 0 [] [] []) = r0 ∧ 5 = r1) ∧ ((¬ p2.kind < 5) → ((9 < p2.kind) → (Tree.node 0 [] [] []) = r0 ∧ 5 = r1) ∧ ((¬ 9 < p2.kind) → ∃ (b0_2 : Bool), eE p2 b0_2 ∧ ((b0_2 = false) → (Tree.node 0 [] [] []) = r0 ∧ 5 = r1) ∧ ((b0_2 = true) → ∃ (t0_3 : Tree), ∃ (n0_4 : Int), jN p2 t0_3 n0_4 ∧ ((t0_3.kind = 9) → ∃ (n0_5 : Int), ∃ (n0_6 : Int), ∃ (b0_7 : Bool), ma p0 p1 t0_3.text n0_5 n0_6 b0_7 ∧ ∃ (r0_8 : (List ((Int × Int) × GTypesAlias))), iz p0 r0_8 ∧ cX m p0 r0_8 t0_3 n0_4 b0_7 n0_5 n0_6 ([] : (List ((Int × Int) × Bool))) r0 r1) ∧ ((t0_3.kind ≠ 9) → fW m t0_3.kind ([] : List Tree) 0 n0_4 r0 r1)))))))) : dt p0 p1 p2 r0 r1 := by
 refine ⟨rfl, rfl, ?_⟩
 refine ak 118 [] Tryz.func12 rfl rfl rfl (aA rfl) fun K hK => ?_
 refine gR 3 rfl ?_
 refine gFP 0 rfl rfl rfl rfl ?_
 refine gR 8 rfl ?_
 obtain ⟨b0_1, hs37, h⟩ := h
 refine gC0 hs37 (by kernel_rfl) rfl rfl .rfl rfl ?_
 refine gR 2 rfl ?_
 refine gB 21 rfl rfl rfl (fun hd => ?_) (fun hd => ?_)
 refine gT 20 rfl hd rfl ?_
 replace hd := (bM hd)
 replace h := h.1 hd
 refine gR 21 rfl ?_
 obtain ⟨rfl, rfl⟩ := h
 refine ab (F' := (mkF 118 0 [(6, .ptr 0 0), (7, .int .i64 5)])) (H' := ⟨1, [(0, .var 29 [.int .i64 ((Tree.node 0 [] [] []).kind), .str ((Tree.node 0 [] [] []).text), .row 1 (List.map V.str ((Tree.node 0 [] [] []).leads)), .row 4 (kidsV ((Tree.node 0 [] [] []).kids))])]⟩) [1] [] rfl hK ⟨⟨_, rfl, .rfl⟩, ⟨_, rfl, .rfl⟩, trivial⟩ ⟨⟨_, rfl, ⟨rfl, (.cons .rfl (.cons .rfl (.cons (.nil 1) (.cons (.nil 4) .nil))))⟩⟩, trivial⟩ rfl ?_
 exact ac aa (rs := [.cell 6 29, .tmp 7]) rfl rfl rfl
 refine gF 20 rfl hd rfl ?_
 replace hd := (bL hd)
 replace h := h.2 hd
 refine gR 4 rfl ?_
 refine gB 25 rfl rfl rfl (fun hd => ?_) (fun hd => ?_)
 refine gT 24 rfl hd rfl ?_
 replace hd := (of_decide_eq_true hd)
 replace h := h.1 hd
 refine gR 17 rfl ?_
 obtain ⟨rfl, rfl⟩ := h
 refine ab (F' := (mkF 118 0 [(6, .ptr 0 0), (7, .int .i64 5)])) (H' := ⟨1, [(0, .var 29 [.int .i64 ((Tree.node 0 [] [] []).kind), .str ((Tree.node 0 [] [] []).text), .row 1 (List.map V.str ((Tree.node 0 [] [] []).leads)), .row 4 (kidsV ((Tree.node 0 [] [] []).kids))])]⟩) [1] [] rfl hK ⟨⟨_, rfl, .rfl⟩, ⟨_, rfl, .rfl⟩, trivial⟩ ⟨⟨_, rfl, ⟨rfl, (.cons .rfl (.cons .rfl (.cons (.nil 1) (.cons (.nil 4) .nil))))⟩⟩, trivial⟩ rfl ?_
 exact ac aa (rs := [.cell 6 29, .tmp 7]) rfl rfl rfl
 refine gF 24 rfl hd rfl ?_
 replace hd := (of_decide_eq_false hd)
 replace h := h.2 hd
 refine gR 3 rfl ?_
 refine gV 28 (.int .i64 ((p0.length : Nat) : Int)) rfl (bc (aD _)) rfl ?_
 refine gLB 27 rfl (aD _) fun hl38 => ?_
 refine gR 4 rfl ?_
 refine gB 30 rfl rfl rfl (fun hd => ?_) (fun hd => ?_)
 replace hd := (of_decide_eq_true hd)
 replace h := h.1 hd
 refine gR 10 rfl ?_
 obtain ⟨rfl, rfl⟩ := h
 refine ab (F' := (mkF 118 0 [(6, .ptr 0 0), (7, .int .i64 5)])) (H' := ⟨1, [(0, .var 29 [.int .i64 ((Tree.node 0 [] [] []).kind), .str ((Tree.node 0 [] [] []).text), .row 1 (List.map V.str ((Tree.node 0 [] [] []).leads)), .row 4 (kidsV ((Tree.node 0 [] [] []).kids))])]⟩) [1] [] rfl hK ⟨⟨_, rfl, .rfl⟩, ⟨_, rfl, .rfl⟩, trivial⟩ ⟨⟨_, rfl, ⟨rfl, (.cons .rfl (.cons .rfl (.cons (.nil 1) (.cons (.nil 4) .nil))))⟩⟩, trivial⟩ rfl ?_
 exact ac aa (rs := [.cell 6 29, .tmp 7]) rfl rfl rfl
 replace hd := (of_decide_eq_false hd)
 replace h := h.2 hd
 refine gR 10 rfl ?_
 refine gB 35 rfl rfl rfl (fun hd => ?_) (fun hd => ?_)
 refine gT 34 rfl hd rfl ?_
 replace hd := (of_decide_eq_true hd)
 replace h := h.1 hd
 refine gR 21 rfl ?_
 obtain ⟨rfl, rfl⟩ := h
 refine ab (F' := (mkF 118 0 [(6, .ptr 0 0), (7, .int .i64 5)])) (H' := ⟨1, [(0, .var 29 [.int .i64 ((Tree.node 0 [] [] []).kind), .str ((Tree.node 0 [] [] []).text), .row 1 (List.map V.str ((Tree.node 0 [] [] []).leads)), .row 4 (kidsV ((Tree.node 0 [] [] []).kids))])]⟩) [1] [] rfl hK ⟨⟨_, rfl, .rfl⟩, ⟨_, rfl, .rfl⟩, trivial⟩ ⟨⟨_, rfl, ⟨rfl, (.cons .rfl (.cons .rfl (.cons (.nil 1) (.cons (.nil 4) .nil))))⟩⟩, trivial⟩ rfl ?_
 exact ac aa (rs := [.cell 6 29, .tmp 7]) rfl rfl rfl
 refine gF 34 rfl hd rfl ?_
 replace hd := (of_decide_eq_false hd)
 replace h := h.2 hd
 refine gR 5 rfl ?_
 refine gB 40 rfl rfl rfl (fun hd => ?_) (fun hd => ?_)
 refine gT 39 rfl hd rfl ?_
 replace hd := (of_decide_eq_true hd)
 replace h := h.1 hd
 refine gR 16 rfl ?_
 obtain ⟨rfl, rfl⟩ := h
 refine ab (F' := (mkF 118 0 [(6, .ptr 0 0), (7, .int .i64 5)])) (H' := ⟨1, [(0, .var 29 [.int .i64 ((Tree.node 0 [] [] []).kind), .str ((Tree.node 0 [] [] []).text), .row 1 (List.map V.str ((Tree.node 0 [] [] []).leads)), .row 4 (kidsV ((Tree.node 0 [] [] []).kids))])]⟩) [1] [] rfl hK ⟨⟨_, rfl, .rfl⟩, ⟨_, rfl, .rfl⟩, trivial⟩ ⟨⟨_, rfl, ⟨rfl, (.cons .rfl (.cons .rfl (.cons (.nil 1) (.cons (.nil 4) .nil))))⟩⟩, trivial⟩ rfl ?_
 exact ac aa (rs := [.cell 6 29, .tmp 7]) rfl rfl rfl
 refine gF 39 rfl hd rfl ?_
 replace hd := (of_decide_eq_false hd)
 replace h := h.2 hd
 refine gR 1 rfl ?_
 obtain ⟨b0_2, hs39, h⟩ := h
 refine gC0 hs39 (by kernel_rfl) rfl rfl .rfl rfl ?_
 refine gR 4 rfl ?_
 refine gB 44 rfl rfl rfl (fun hd => ?_) (fun hd => ?_)
 replace hd := (bM hd)
 replace h := h.1 hd
 refine gR 10 rfl ?_
 obtain ⟨rfl, rfl⟩ := h
 refine ab (F' := (mkF 118 0 [(6, .ptr 0 0), (7, .int .i64 5)])) (H' := ⟨1, [(0, .var 29 [.int .i64 ((Tree.node 0 [] [] []).kind), .str ((Tree.node 0 [] [] []).text), .row 1 (List.map V.str ((Tree.node 0 [] [] []).leads)), .row 4 (kidsV ((Tree.node 0 [] [] []).kids))])]⟩) [1] [] rfl hK ⟨⟨_, rfl, .rfl⟩, ⟨_, rfl, .rfl⟩, trivial⟩ ⟨⟨_, rfl, ⟨rfl, (.cons .rfl (.cons .rfl (.cons (.nil 1) (.cons (.nil 4) .nil))))⟩⟩, trivial⟩ rfl ?_
 exact ac aa (rs := [.cell 6 29, .tmp 7]) rfl rfl rfl
 replace hd := (bL hd)
 replace h := h.2 hd
 refine gR 6 rfl ?_
 obtain ⟨t0_3, n0_4, hs40, h⟩ := h
 refine gC0 hs40 (by kernel_rfl) rfl rfl .rfl rfl ?_
 refine gR 16 rfl ?_
 refine gB 53 rfl rfl rfl (fun hd => ?_) (fun hd => ?_)
 replace hd := (eq_of_beq hd)
 replace h := h.1 hd
 refine gR 7 rfl ?_
 obtain ⟨n0_5, n0_6, b0_7, hs41, h⟩ := h
 refine gC0 hs41 (by kernel_rfl) rfl rfl .rfl rfl ?_
 refine gR 9 rfl ?_
 refine ab (F' := (mkF 118 0 [(0, .row 4 (kidsV p0)), (6, .ptr 0 0), (8, .ptr 1 0), (9, .int .i64 n0_4), (10, .int .i64 n0_5), (11, .int .i64 n0_6), (12, .bool b0_7)])) (H' := ⟨2, [(1, .var 29 (ai t0_3)), (0, .var 29 [.int .i64 0, .str [], .nils, .nils])]⟩) [1, 2] [] rfl hK ⟨⟨_, rfl, .rfl⟩, ⟨_, rfl, .rfl⟩, ⟨_, rfl, .rfl⟩, ⟨_, rfl, .rfl⟩, ⟨_, rfl, .rfl⟩, ⟨_, rfl, .rfl⟩, ⟨_, rfl, .rfl⟩, trivial⟩ ⟨⟨_, rfl, ⟨rfl, ah.rfl⟩⟩, ⟨⟨_, rfl, ⟨rfl, ah.rfl⟩⟩, trivial⟩⟩ rfl ?_
 refine gR 12 rfl ?_
 obtain ⟨r0_8, hs42, h⟩ := h
 refine gC hs42 [] (by kernel_rfl) rfl rfl .rfl trivial rfl ?_
 rintro _ _ ⟨rfl, rfl⟩
 refine gR 5 rfl ?_
 refine gDo (.new (.mp 47 4 [] [])) (dMM 47 4) trivial rfl rfl rfl ?_
 refine gHM 4 (List.map (fun p => (fun x => V.agg [(V.int .i64 x.1), (V.int .i64 x.2)]) p.1) ([] : (List ((Int × Int) × Bool)))) (List.map (fun p => V.bool p.2) ([] : (List ((Int × Int) × Bool)))) rfl rfl rfl rfl ?_
 refine gR 4 rfl ?_
 refine go_loop m ?_
 exact gJ (h K _ hK (by omega)) [0, 1, 2, 3, 4] [] rfl hK ⟨⟨_, rfl, .rfl⟩, ⟨_, rfl, .rfl⟩, ⟨_, rfl, .rfl⟩, ⟨_, rfl, .rfl⟩, ⟨_, rfl, .rfl⟩, ⟨_, rfl, .rfl⟩, ⟨_, rfl, .rfl⟩, ⟨_, rfl, .rfl⟩, trivial⟩ ⟨⟨_, rfl, ⟨rfl, rfl, rfl, rfl⟩⟩, ⟨⟨_, rfl, ⟨rfl, rfl, rfl, rfl⟩⟩, ⟨⟨_, rfl, ⟨rfl, ah.rfl⟩⟩, ⟨⟨_, rfl, ⟨rfl, ah.rfl⟩⟩, ⟨⟨_, rfl, ⟨rfl, ah.rfl⟩⟩, trivial⟩⟩⟩⟩⟩ rfl
 replace hd := (ne_of_beq_false hd)
 replace h := h.2 hd
 refine gR 12 rfl ?_
 refine ab (F' := (mkF 118 0 [(6, .ptr 0 0), (9, .int .i64 n0_4), (17, .ptr 1 0)])) (H' := ⟨2, [(1, .var 29 [.int .i64 t0_3.kind, .str [], .nils, .nils]), (0, .var 29 [.int .i64 0, .str [], .nils, .nils])]⟩) [1, 3] [] rfl hK ⟨⟨_, rfl, .rfl⟩, ⟨_, rfl, .rfl⟩, ⟨_, rfl, .rfl⟩, trivial⟩ ⟨⟨_, rfl, ⟨rfl, ah.rfl⟩⟩, ⟨⟨_, rfl, ⟨rfl, ah.rfl⟩⟩, trivial⟩⟩ rfl ?_
 refine gR 8 rfl ?_
 refine go_loop m ?_
 refine gNC 1 3 29 4 rfl rfl rfl rfl ?_
 exact gJ (h K _ hK (by omega)) [0, 1, 2] [] rfl hK ⟨⟨_, rfl, .rfl⟩, ⟨_, rfl, .rfl⟩, ⟨_, rfl, .rfl⟩, ⟨_, rfl, .rfl⟩, trivial⟩ ⟨⟨_, rfl, ⟨rfl, rfl, rfl⟩⟩, ⟨⟨_, rfl, ⟨rfl, ah.rfl⟩⟩, ⟨⟨_, rfl, ⟨rfl, ah.rfl⟩⟩, trivial⟩⟩⟩ rfl
theorem hJ (m : Nat) (p0 : (List Tree)) (r0_8 : (List ((Int × Int) × GTypesAlias))) (t1v1 : Tree) (z1v2 : Int) (b1v3 : Bool) (z1v4 : Int) (z1v5 : Int) (l1v6 : (List ((Int × Int) × Bool))) (r0 : Tree) (r1 : Int) (h : ((t1v1.kind = 9) → ((b1v3 = false) → (Tree.node 0 [] [] []) = r0 ∧ 7 = r1) ∧ ((b1v3 = true) → ((mlook (z1v4, z1v5) l1v6 = none) → iC m p0 r0_8 t1v1 z1v2 z1v4 z1v5 l1v6 r0 r1) ∧ (∀ (d1_1 : Bool), mlook (z1v4, z1v5) l1v6 = some d1_1 → ((d1_1 = true) → (Tree.node 0 [] [] []) = r0 ∧ 19 = r1) ∧ ((d1_1 = false) → iC m p0 r0_8 t1v1 z1v2 z1v4 z1v5 l1v6 r0 r1)))) ∧ ((t1v1.kind ≠ 9) → fW m t1v1.kind ([] : List Tree) 0 z1v2 r0 r1)) : cX (m + 1) p0 r0_8 t1v1 z1v2 b1v3 z1v4 z1v5 l1v6 r0 r1 := by
 intro K j1 hK hj1
 obtain ⟨j1, rfl⟩ : ∃ j, j1 = j + 1 := ⟨j1 - 1, by omega⟩
 refine gR 8 rfl ?_
 refine gB 71 rfl rfl rfl (fun hd => ?_) (fun hd => ?_)
 replace hd := (eq_of_beq hd)
 replace h := h.1 hd
 refine gR 11 rfl ?_
 refine gB 73 rfl rfl rfl (fun hd => ?_) (fun hd => ?_)
 replace hd := (bM hd)
 replace h := h.1 hd
 refine gR 11 rfl ?_
 refine aM ?_
 refine gR 2 rfl ?_
 obtain ⟨rfl, rfl⟩ := h
 refine ab (F' := (mkF 118 0 [(6, .ptr 0 0), (7, .int .i64 7)])) (H' := ⟨1, [(0, .var 29 [.int .i64 ((Tree.node 0 [] [] []).kind), .str ((Tree.node 0 [] [] []).text), .row 1 (List.map V.str ((Tree.node 0 [] [] []).leads)), .row 4 (kidsV ((Tree.node 0 [] [] []).kids))])]⟩) [0] [] rfl hK ⟨⟨_, rfl, .rfl⟩, ⟨_, rfl, .rfl⟩, trivial⟩ ⟨⟨_, rfl, ⟨rfl, (.cons .rfl (.cons .rfl (.cons (.nil 1) (.cons (.nil 4) .nil))))⟩⟩, trivial⟩ rfl ?_
 exact ac aa (rs := [.cell 6 29, .tmp 7]) rfl rfl rfl
 replace hd := (bL hd)
 replace h := h.2 hd
 refine gR 8 rfl ?_
 rcases hq43 : mlook (z1v4, z1v5) l1v6 with _ | d1_1
 replace h := h.1 hq43
 refine gDo (v := some (.bool false)) (.nop) (uE ce (encV := V.bool) (k := (z1v4, z1v5)) (l := l1v6) (zv := .bool false) hq43 Tryz.underlying50 Tryz.zeroValue4 (by kernel_rfl) rfl rfl rfl rfl) trivial rfl rfl rfl ?_
 refine gR 5 rfl ?_
 exact gJ (h K _ hK (by omega)) [0, 1, 2, 3, 4] [] rfl hK ⟨⟨_, rfl, .rfl⟩, ⟨_, rfl, .rfl⟩, ⟨_, rfl, .rfl⟩, ⟨_, rfl, .rfl⟩, ⟨_, rfl, .rfl⟩, ⟨_, rfl, .rfl⟩, ⟨_, rfl, .rfl⟩, trivial⟩ ⟨⟨_, rfl, ⟨rfl, rfl, rfl, rfl⟩⟩, ⟨⟨_, rfl, ⟨rfl, rfl, rfl, rfl⟩⟩, ⟨⟨_, rfl, ⟨rfl, ah.rfl⟩⟩, ⟨⟨_, rfl, ⟨rfl, ah.rfl⟩⟩, ⟨⟨_, rfl, ⟨rfl, ah.rfl⟩⟩, trivial⟩⟩⟩⟩⟩ rfl
 replace h := h.2 d1_1 hq43
 refine gDo (v := some (.bool d1_1)) (.nop) (uB ce (encV := V.bool) (k := (z1v4, z1v5)) (l := l1v6) (zv := .bool false) hq43 Tryz.underlying50 Tryz.zeroValue4 (by kernel_rfl) rfl rfl rfl rfl) trivial rfl rfl rfl ?_
 refine gR 2 rfl ?_
 refine gB 77 rfl rfl rfl (fun hd => ?_) (fun hd => ?_)
 replace h := h.1 hd
 refine gR 11 rfl ?_
 refine aM ?_
 refine gR 2 rfl ?_
 obtain ⟨rfl, rfl⟩ := h
 refine ab (F' := (mkF 118 0 [(6, .ptr 0 0), (7, .int .i64 19)])) (H' := ⟨1, [(0, .var 29 [.int .i64 ((Tree.node 0 [] [] []).kind), .str ((Tree.node 0 [] [] []).text), .row 1 (List.map V.str ((Tree.node 0 [] [] []).leads)), .row 4 (kidsV ((Tree.node 0 [] [] []).kids))])]⟩) [0] [] rfl hK ⟨⟨_, rfl, .rfl⟩, ⟨_, rfl, .rfl⟩, trivial⟩ ⟨⟨_, rfl, ⟨rfl, (.cons .rfl (.cons .rfl (.cons (.nil 1) (.cons (.nil 4) .nil))))⟩⟩, trivial⟩ rfl ?_
 exact ac aa (rs := [.cell 6 29, .tmp 7]) rfl rfl rfl
 replace h := h.2 hd
 refine gR 3 rfl ?_
 exact gJ (h K _ hK (by omega)) [0, 1, 2, 3, 4] [] rfl hK ⟨⟨_, rfl, .rfl⟩, ⟨_, rfl, .rfl⟩, ⟨_, rfl, .rfl⟩, ⟨_, rfl, .rfl⟩, ⟨_, rfl, .rfl⟩, ⟨_, rfl, .rfl⟩, ⟨_, rfl, .rfl⟩, trivial⟩ ⟨⟨_, rfl, ⟨rfl, rfl, rfl, rfl⟩⟩, ⟨⟨_, rfl, ⟨rfl, rfl, rfl, rfl⟩⟩, ⟨⟨_, rfl, ⟨rfl, ah.rfl⟩⟩, ⟨⟨_, rfl, ⟨rfl, ah.rfl⟩⟩, ⟨⟨_, rfl, ⟨rfl, ah.rfl⟩⟩, trivial⟩⟩⟩⟩⟩ rfl
 replace hd := (ne_of_beq_false hd)
 replace h := h.2 hd
 refine gR 3 rfl ?_
 refine av ?_
 refine gR 19 rfl ?_
 refine go_loop m ?_
 refine gNC 5 3 29 4 rfl rfl rfl rfl ?_
 exact gJ (h K _ hK (by omega)) [0, 5, 6] [] rfl hK ⟨⟨_, rfl, .rfl⟩, ⟨_, rfl, .rfl⟩, ⟨_, rfl, .rfl⟩, ⟨_, rfl, .rfl⟩, trivial⟩ ⟨⟨_, rfl, ⟨rfl, rfl, rfl⟩⟩, ⟨⟨_, rfl, ⟨rfl, ah.rfl⟩⟩, ⟨⟨_, rfl, ⟨rfl, ah.rfl⟩⟩, trivial⟩⟩⟩ rfl
theorem mJ (m : Nat) (z2v1 : Int) (l2v2 : (List Tree)) (i2v3 : Nat) (z2v4 : Int) (r0 : Tree) (r1 : Int) (h : ((((i2v3 : Nat) : Int) < z2v4) → i2v3 + 1 ≤ 9223372036854775807 ∧ fW m 8 [(Tree.node z2v1 [] [] l2v2)] (i2v3 + 1) z2v4 r0 r1) ∧ ((¬ ((i2v3 : Nat) : Int) < z2v4) → (Tree.node z2v1 [] [] l2v2) = r0 ∧ 0 = r1)) : fW (m + 1) z2v1 l2v2 i2v3 z2v4 r0 r1 := by
 intro K j1 hK hj1
 obtain ⟨j1, rfl⟩ : ∃ j, j1 = j + 1 := ⟨j1 - 1, by omega⟩
 refine gR 6 rfl ?_
 refine gB 112 rfl rfl rfl (fun hd => ?_) (fun hd => ?_)
 replace hd := (of_decide_eq_true hd)
 replace h := h.1 hd
 refine gR 7 rfl ?_
 refine gFR 2 rfl (co _) rfl rfl ?_
 refine gS 113 (.agg [.int .i64 z2v1, .str [], .row 1 [], .row 4 (kidsV l2v2)]) rfl (.agg (.cons .rfl (.cons .rfl (.cons (.nil 1) (.cons .rfl .nil))))) rfl ?_
 refine gR 1 rfl ?_
 refine gHR 3 (kidsV [(Tree.node z2v1 [] [] l2v2)]) rfl (jb (Tree.node z2v1 [] [] l2v2)) rfl ?_
 refine gR 6 rfl ?_
 obtain ⟨hb, h⟩ := h
 refine gR 1 rfl ?_
 refine gV 116 (.int .i64 ((i2v3 + 1 : Nat) : Int)) rfl (ar (by omega) (by omega)) rfl ?_
 refine gR 2 rfl ?_
 refine aq ?_
 exact gJ (h K _ hK (by omega)) [0, 1, 3] [] rfl hK ⟨⟨_, rfl, .rfl⟩, ⟨_, rfl, .rfl⟩, ⟨_, rfl, .rfl⟩, ⟨_, rfl, .rfl⟩, trivial⟩ ⟨⟨_, rfl, ⟨rfl, rfl, (eO _ [(Tree.node z2v1 [] [] l2v2)]).symm⟩⟩, ⟨⟨_, rfl, ⟨rfl, ah.rfl⟩⟩, ⟨⟨_, rfl, ⟨rfl, ah.rfl⟩⟩, trivial⟩⟩⟩ rfl
 replace hd := (of_decide_eq_false hd)
 replace h := h.2 hd
 refine gR 3 rfl ?_
 refine av ?_
 refine gR 10 rfl ?_
 refine gFR 2 rfl (co _) rfl rfl ?_
 obtain ⟨rfl, rfl⟩ := h
 refine ab (F' := (mkF 118 0 [(6, .ptr 0 0), (7, .int .i64 0)])) (H' := ⟨1, [(0, .var 29 [.int .i64 ((Tree.node z2v1 [] [] l2v2).kind), .str ((Tree.node z2v1 [] [] l2v2).text), .row 1 (List.map V.str ((Tree.node z2v1 [] [] l2v2).leads)), .row 4 (kidsV ((Tree.node z2v1 [] [] l2v2).kids))])]⟩) [0] [] rfl hK ⟨⟨_, rfl, .rfl⟩, ⟨_, rfl, .rfl⟩, trivial⟩ ⟨⟨_, rfl, ⟨rfl, (.cons .rfl (.cons .rfl (.cons (.nil 1) (.cons .rfl .nil))))⟩⟩, trivial⟩ rfl ?_
 exact ac aa (rs := [.cell 6 29, .tmp 7]) rfl rfl rfl
theorem rL2_types_Expand (m : Nat) (p0 : (List Tree)) (r0_8 : (List ((Int × Int) × GTypesAlias))) (t3v1 : Tree) (z3v2 : Int) (z3v3 : Int) (z3v4 : Int) (l3v5 : (List ((Int × Int) × Bool))) (r0 : Tree) (r1 : Int) (h : ∃ (k3_1 : Nat), z3v3 = ((k3_1 : Nat) : Int) ∧ ∃ (t3_2 : Tree), p0[k3_1]? = some t3_2 ∧ ∃ (k3_3 : Nat), z3v4 = ((k3_3 : Nat) : Int) ∧ ∃ (t3_4 : Tree), t3_2.kids[k3_3]? = some t3_4 ∧ ∃ (t3_5 : Tree), t3_4.kids[0]? = some t3_5 ∧ ∃ (t3_6 : Tree), ∃ (n3_7 : Int), jN t3_5 t3_6 n3_7 ∧ InI (z3v2 + n3_7) ∧ ((mlook (z3v3, z3v4) r0_8 = none) → cX m p0 r0_8 t3_6 (z3v2 + n3_7) false 0 0 (mput (z3v3, z3v4) true l3v5) r0 r1) ∧ (∀ (d3_8 : GTypesAlias), mlook (z3v3, z3v4) r0_8 = some d3_8 → cX m p0 r0_8 t3_6 (z3v2 + n3_7) true d3_8.module d3_8.def_ (mput (z3v3, z3v4) true l3v5) r0 r1)) : iC (m + 1) p0 r0_8 t3v1 z3v2 z3v3 z3v4 l3v5 r0 r1 := by
 intro K j1 hK hj1
 obtain ⟨j1, rfl⟩ : ∃ j, j1 = j + 1 := ⟨j1 - 1, by omega⟩
 refine gR 4 rfl ?_
 refine gDo (.set 4 (.mp 47 4 (List.map (fun p => (fun x => V.agg [(V.int .i64 x.1), (V.int .i64 x.2)]) p.1) (mput (z3v3, z3v4) true l3v5)) (List.map (fun p => V.bool p.2) (mput (z3v3, z3v4) true l3v5)))) (zd ce (encV := V.bool) (k := (z3v3, z3v4)) (d := true) (l := l3v5) Tryz.underlying50 rfl rfl rfl rfl rfl rfl rfl rfl) (okM rfl) rfl rfl rfl ?_
 refine gR 8 rfl ?_
 refine gDs [2] 17 19 rfl (by kernel_rfl) (by kernel_rfl) ?_
 refine gDr [(0, 2), (1, 2), (2, 3)] (by kernel_rfl) rfl rfl ?_
 obtain ⟨k3_1, ek3_1, h⟩ := h
 refine gV 84 (.int .i64 ((k3_1 : Nat) : Int)) rfl (cw ek3_1) rfl ?_
 obtain ⟨t3_2, hxt3_2, h⟩ := h
 refine gYd 3 rfl (by kernel_rfl) (aK (am hxt3_2) aa rfl rfl rfl rfl) rfl rfl ?_
 refine gDr [(4, 2), (5, 2), (6, 0), (7, 0)] (by kernel_rfl) rfl rfl ?_
 obtain ⟨k3_3, ek3_3, h⟩ := h
 refine gV 89 (.int .i64 ((k3_3 : Nat) : Int)) rfl (cw ek3_3) rfl ?_
 obtain ⟨t3_4, hxt3_4, h⟩ := h
 refine dF 8 rfl (by kernel_rfl) (aK (am hxt3_4) aa rfl rfl rfl rfl) rfl rfl ?_
 refine gDr [(9, 0), (10, 0)] (by kernel_rfl) rfl rfl ?_
 obtain ⟨t3_5, hxt3_5, h⟩ := h
 refine dF 11 rfl (by kernel_rfl) (aK (am hxt3_5) aa rfl rfl rfl rfl) rfl rfl ?_
 refine gDr [(12, 0)] (by kernel_rfl) rfl rfl ?_
 obtain ⟨t3_6, n3_7, hs44, h⟩ := h
 refine br 13 hs44 (by kernel_rfl) rfl (by kernel_rfl) rfl rfl .rfl rfl rfl ?_
 refine gDr [(14, 0), (15, 2), (16, 2), (17, 1), (18, 1)] (by kernel_rfl) rfl rfl ?_
 refine gDe (by kernel_rfl) ?_
 refine gR 5 rfl ?_
 obtain ⟨hb, h⟩ := h
 refine gR 1 rfl ?_
 refine gV 100 (.int .i64 (z3v2 + n3_7)) rfl (ar hb rfl) rfl ?_
 refine gR 6 rfl ?_
 rcases hq45 : mlook (z3v3, z3v4) r0_8 with _ | d3_8
 replace h := h.1 hq45
 refine gDo (v := some (.tup [.agg [.int .i64 0, .int .i64 0], .bool false])) (.nop) (uE ce (encV := GTypesAlias.w) (k := (z3v3, z3v4)) (l := r0_8) (zv := .agg [.int .i64 0, .int .i64 0]) hq45 Tryz.underlying48 Tryz.zeroValue47 (by kernel_rfl) rfl rfl rfl rfl) trivial rfl rfl rfl ?_
 refine gR 7 rfl ?_
 refine aq ?_
 exact gJ (h K _ hK (by omega)) [0, 1, 2, 3, 4] [] rfl hK ⟨⟨_, rfl, .rfl⟩, ⟨_, rfl, .rfl⟩, ⟨_, rfl, .rfl⟩, ⟨_, rfl, .rfl⟩, ⟨_, rfl, .rfl⟩, ⟨_, rfl, .rfl⟩, ⟨_, rfl, .rfl⟩, ⟨_, rfl, .rfl⟩, trivial⟩ ⟨⟨_, rfl, ⟨rfl, rfl, rfl, rfl⟩⟩, ⟨⟨_, rfl, ⟨rfl, rfl, rfl, rfl⟩⟩, ⟨⟨_, rfl, ⟨rfl, ah.rfl⟩⟩, ⟨⟨_, rfl, ⟨rfl, ah.rfl⟩⟩, ⟨⟨_, rfl, ⟨rfl, ah.rfl⟩⟩, trivial⟩⟩⟩⟩⟩ rfl
 replace h := h.2 d3_8 hq45
 refine gDo (v := some (.tup [.agg (GTypesAlias.c d3_8), .bool true])) (.nop) (uB ce (encV := GTypesAlias.w) (k := (z3v3, z3v4)) (l := r0_8) (zv := .agg [.int .i64 0, .int .i64 0]) hq45 Tryz.underlying48 Tryz.zeroValue47 (by kernel_rfl) rfl rfl rfl rfl) trivial rfl rfl rfl ?_
 refine gR 7 rfl ?_
 refine aq ?_
 exact gJ (h K _ hK (by omega)) [0, 1, 2, 3, 4] [] rfl hK ⟨⟨_, rfl, .rfl⟩, ⟨_, rfl, .rfl⟩, ⟨_, rfl, .rfl⟩, ⟨_, rfl, .rfl⟩, ⟨_, rfl, .rfl⟩, ⟨_, rfl, .rfl⟩, ⟨_, rfl, .rfl⟩, ⟨_, rfl, .rfl⟩, trivial⟩ ⟨⟨_, rfl, ⟨rfl, rfl, rfl, rfl⟩⟩, ⟨⟨_, rfl, ⟨rfl, rfl, rfl, rfl⟩⟩, ⟨⟨_, rfl, ⟨rfl, ah.rfl⟩⟩, ⟨⟨_, rfl, ⟨rfl, ah.rfl⟩⟩, ⟨⟨_, rfl, ⟨rfl, ah.rfl⟩⟩, trivial⟩⟩⟩⟩⟩ rfl
def bI (m : Nat) (p1 : Int) (p2 : Int) (r0_4 : (List ((Int × Int) × GTypesAlias))) (z1v1 : Int) (z1v2 : Int) (b1v3 : Bool) (l1v4 : (List ((Int × Int) × Bool))) (r0 : Bool) : Prop := ∀ (K : Ctx) (j1 : Nat), au K [] → m ≤ j1 → Go Tryz.prog K (bodyPost Tryz.prog Tryz.f9 (SP K (fun u _ => u = .bool r0))) (.code (cL (cK (cB (cA (cB (cB (cB (cB (cB (ae Tryz.f9))))))))))) [.loop (cL (cK (cB (cA (cB (cB (cB (cB (cB (ae Tryz.f9)))))))))) j1, .blk 0, .seq (cB (cB (cB (cB (cB (cB (ae Tryz.f9)))))))] 70 (mkF 70 0 [(7, .ptr 0 0), (8, .sl 1), (9, .sl 2), (10, .ptr 3 0), (11, .bool b1v3)]) ⟨4, [(3, .var 47 [.int .i64 z1v1, .int .i64 z1v2]), (2, .mp 47 4 (List.map (fun p => (fun x => V.agg [(V.int .i64 x.1), (V.int .i64 x.2)]) p.1) l1v4) (List.map (fun p => V.bool p.2) l1v4)), (1, .mp 47 47 (List.map (fun p => (fun x => V.agg [(V.int .i64 x.1), (V.int .i64 x.2)]) p.1) r0_4) (List.map (fun p => GTypesAlias.w p.2) r0_4)), (0, .var 47 [.int .i64 p1, .int .i64 p2])]⟩
def gq (m : Nat) (p1 : Int) (p2 : Int) (r0_4 : (List ((Int × Int) × GTypesAlias))) (z1v1 : Int) (z1v2 : Int) (l2v1 : (List ((Int × Int) × Bool))) (r0 : Bool) : Prop := ∀ (K : Ctx) (j1 : Nat), au K [] → m ≤ j1 → Go Tryz.prog K (bodyPost Tryz.prog Tryz.f9 (SP K (fun u _ => u = .bool r0))) (.code (cB (cL (cK (cB (cA (cB (cB (cB (cB (cB (ae Tryz.f9)))))))))))) [.loop (cL (cK (cB (cA (cB (cB (cB (cB (cB (ae Tryz.f9)))))))))) j1, .blk 0, .seq (cB (cB (cB (cB (cB (cB (ae Tryz.f9)))))))] 70 (mkF 70 0 [(7, .ptr 0 0), (8, .sl 1), (9, .sl 2), (10, .ptr 3 0)]) ⟨4, [(3, .var 47 [.int .i64 z1v1, .int .i64 z1v2]), (2, .mp 47 4 (List.map (fun p => (fun x => V.agg [(V.int .i64 x.1), (V.int .i64 x.2)]) p.1) l2v1) (List.map (fun p => V.bool p.2) l2v1)), (1, .mp 47 47 (List.map (fun p => (fun x => V.agg [(V.int .i64 x.1), (V.int .i64 x.2)]) p.1) r0_4) (List.map (fun p => GTypesAlias.w p.2) r0_4)), (0, .var 47 [.int .i64 p1, .int .i64 p2])]⟩
theorem rS_types_Circular (m : Nat) (p0 : (List Tree)) (p1 : Int) (p2 : Int) (r0 : Bool) (h : ∃ (b0_1 : Bool), iw p0 b0_1 ∧ ((b0_1 = false) → false = r0) ∧ ((b0_1 = true) → ((p1 < 0) → false = r0) ∧ ((¬ p1 < 0) → ((((p0.length : Nat) : Int) ≤ p1) → false = r0) ∧ ((¬ ((p0.length : Nat) : Int) ≤ p1) → ((p2 < 0) → false = r0) ∧ ((¬ p2 < 0) → ∃ (k0_2 : Nat), p1 = ((k0_2 : Nat) : Int) ∧ ∃ (t0_3 : Tree), p0[k0_2]? = some t0_3 ∧ ((((t0_3.kids.length : Nat) : Int) ≤ p2) → false = r0) ∧ ((¬ ((t0_3.kids.length : Nat) : Int) ≤ p2) → ∃ (r0_4 : (List ((Int × Int) × GTypesAlias))), iz p0 r0_4 ∧ ((mlook (p1, p2) r0_4 = none) → bI m p1 p2 r0_4 0 0 false ([] : (List ((Int × Int) × Bool))) r0) ∧ (∀ (d0_5 : GTypesAlias), mlook (p1, p2) r0_4 = some d0_5 → bI m p1 p2 r0_4 d0_5.module d0_5.def_ true ([] : (List ((Int × Int) × Bool))) r0))))))) : dh p0 p1 p2 r0 := by
 refine ⟨rfl, rfl, ?_⟩
 refine ak 70 [] Tryz.func9 rfl rfl rfl (aA rfl) fun K hK => ?_
 refine gR 9 rfl ?_
 obtain ⟨b0_1, hs29, h⟩ := h
 refine gC0 hs29 (by kernel_rfl) rfl rfl .rfl rfl ?_
 refine gR 2 rfl ?_
 refine gB 15 rfl rfl rfl (fun hd => ?_) (fun hd => ?_)
 refine gT 14 rfl hd rfl ?_
 replace hd := (bM hd)
 replace h := h.1 hd
 refine gR 33 rfl ?_
 subst h
 refine ab (F' := (mkF 70 0 [(6, .bool false)])) (H' := ⟨0, []⟩) [] [] rfl hK ⟨⟨_, rfl, .rfl⟩, trivial⟩ trivial rfl ?_
 exact ac aa (rs := [.tmp 6]) rfl rfl rfl
 refine gF 14 rfl hd rfl ?_
 replace hd := (bL hd)
 replace h := h.2 hd
 refine gR 4 rfl ?_
 refine gB 19 rfl rfl rfl (fun hd => ?_) (fun hd => ?_)
 refine gT 18 rfl hd rfl ?_
 replace hd := (of_decide_eq_true hd)
 replace h := h.1 hd
 refine gR 29 rfl ?_
 subst h
 refine ab (F' := (mkF 70 0 [(6, .bool false)])) (H' := ⟨0, []⟩) [] [] rfl hK ⟨⟨_, rfl, .rfl⟩, trivial⟩ trivial rfl ?_
 exact ac aa (rs := [.tmp 6]) rfl rfl rfl
 refine gF 18 rfl hd rfl ?_
 replace hd := (of_decide_eq_false hd)
 replace h := h.2 hd
 refine gR 3 rfl ?_
 refine gV 22 (.int .i64 ((p0.length : Nat) : Int)) rfl (bc (aD _)) rfl ?_
 refine gLB 21 rfl (aD _) fun hl30 => ?_
 refine gR 3 rfl ?_
 refine gB 25 rfl rfl rfl (fun hd => ?_) (fun hd => ?_)
 refine gT 24 rfl hd rfl ?_
 replace hd := (of_decide_eq_true hd)
 replace h := h.1 hd
 refine gR 23 rfl ?_
 subst h
 refine ab (F' := (mkF 70 0 [(6, .bool false)])) (H' := ⟨0, []⟩) [] [] rfl hK ⟨⟨_, rfl, .rfl⟩, trivial⟩ trivial rfl ?_
 exact ac aa (rs := [.tmp 6]) rfl rfl rfl
 refine gF 24 rfl hd rfl ?_
 replace hd := (of_decide_eq_false hd)
 replace h := h.2 hd
 refine gR 4 rfl ?_
 refine gB 29 rfl rfl rfl (fun hd => ?_) (fun hd => ?_)
 refine gT 28 rfl hd rfl ?_
 replace hd := (of_decide_eq_true hd)
 replace h := h.1 hd
 refine gR 19 rfl ?_
 subst h
 refine ab (F' := (mkF 70 0 [(6, .bool false)])) (H' := ⟨0, []⟩) [] [] rfl hK ⟨⟨_, rfl, .rfl⟩, trivial⟩ trivial rfl ?_
 exact ac aa (rs := [.tmp 6]) rfl rfl rfl
 refine gF 28 rfl hd rfl ?_
 replace hd := (of_decide_eq_false hd)
 replace h := h.2 hd
 refine gR 3 rfl ?_
 obtain ⟨k0_2, ek0_2, h⟩ := h
 refine gV 32 (.int .i64 ((k0_2 : Nat) : Int)) rfl (cw ek0_2) rfl ?_
 obtain ⟨t0_3, hxt0_3, h⟩ := h
 refine gY (aK (am hxt0_3) aa rfl rfl rfl rfl) rfl rfl ?_
 refine gR 3 rfl ?_
 refine gV 36 (.int .i64 ((t0_3.kids.length : Nat) : Int)) rfl (bc (aD _)) rfl ?_
 refine gLB 35 rfl (aD _) fun hl31 => ?_
 refine gR 4 rfl ?_
 refine gB 38 rfl rfl rfl (fun hd => ?_) (fun hd => ?_)
 replace hd := (of_decide_eq_true hd)
 replace h := h.1 hd
 refine gR 8 rfl ?_
 subst h
 refine ab (F' := (mkF 70 0 [(6, .bool false)])) (H' := ⟨0, []⟩) [] [] rfl hK ⟨⟨_, rfl, .rfl⟩, trivial⟩ trivial rfl ?_
 exact ac aa (rs := [.tmp 6]) rfl rfl rfl
 replace hd := (of_decide_eq_false hd)
 replace h := h.2 hd
 refine gR 15 rfl ?_
 obtain ⟨r0_4, hs32, h⟩ := h
 refine gC hs32 [] (by kernel_rfl) rfl rfl .rfl trivial rfl ?_
 rintro _ _ ⟨rfl, rfl⟩
 refine gR 5 rfl ?_
 refine gDo (.new (.mp 47 4 [] [])) (dMM 47 4) trivial rfl rfl rfl ?_
 refine gHM 2 (List.map (fun p => (fun x => V.agg [(V.int .i64 x.1), (V.int .i64 x.2)]) p.1) ([] : (List ((Int × Int) × Bool)))) (List.map (fun p => V.bool p.2) ([] : (List ((Int × Int) × Bool)))) rfl rfl rfl rfl ?_
 refine gR 8 rfl ?_
 rcases hq33 : mlook (p1, p2) r0_4 with _ | d0_5
 replace h := h.1 hq33
 refine gDo (v := some (.tup [.agg [.int .i64 0, .int .i64 0], .bool false])) (.nop) (uE ce (encV := GTypesAlias.w) (k := (p1, p2)) (l := r0_4) (zv := .agg [.int .i64 0, .int .i64 0]) hq33 Tryz.underlying48 Tryz.zeroValue47 (by kernel_rfl) rfl rfl rfl rfl) trivial rfl rfl rfl ?_
 refine gR 9 rfl ?_
 refine go_loop m ?_
 exact gJ (h K _ hK (by omega)) [0, 1, 2, 3] [] rfl hK ⟨⟨_, rfl, .rfl⟩, ⟨_, rfl, .rfl⟩, ⟨_, rfl, .rfl⟩, ⟨_, rfl, .rfl⟩, ⟨_, rfl, .rfl⟩, trivial⟩ ⟨⟨_, rfl, ⟨rfl, ah.rfl⟩⟩, ⟨⟨_, rfl, ⟨rfl, rfl, rfl, rfl⟩⟩, ⟨⟨_, rfl, ⟨rfl, rfl, rfl, rfl⟩⟩, ⟨⟨_, rfl, ⟨rfl, ah.rfl⟩⟩, trivial⟩⟩⟩⟩ rfl
 replace h := h.2 d0_5 hq33
 refine gDo (v := some (.tup [.agg (GTypesAlias.c d0_5), .bool true])) (.nop) (uB ce (encV := GTypesAlias.w) (k := (p1, p2)) (l := r0_4) (zv := .agg [.int .i64 0, .int .i64 0]) hq33 Tryz.underlying48 Tryz.zeroValue47 (by kernel_rfl) rfl rfl rfl rfl) trivial rfl rfl rfl ?_
 refine gR 9 rfl ?_
 refine go_loop m ?_
 exact gJ (h K _ hK (by omega)) [0, 1, 2, 3] [] rfl hK ⟨⟨_, rfl, .rfl⟩, ⟨_, rfl, .rfl⟩, ⟨_, rfl, .rfl⟩, ⟨_, rfl, .rfl⟩, ⟨_, rfl, .rfl⟩, trivial⟩ ⟨⟨_, rfl, ⟨rfl, ah.rfl⟩⟩, ⟨⟨_, rfl, ⟨rfl, rfl, rfl, rfl⟩⟩, ⟨⟨_, rfl, ⟨rfl, rfl, rfl, rfl⟩⟩, ⟨⟨_, rfl, ⟨rfl, ah.rfl⟩⟩, trivial⟩⟩⟩⟩ rfl
theorem gb (m : Nat) (p1 : Int) (p2 : Int) (r0_4 : (List ((Int × Int) × GTypesAlias))) (z1v1 : Int) (z1v2 : Int) (b1v3 : Bool) (l1v4 : (List ((Int × Int) × Bool))) (r0 : Bool) (h : ((b1v3 = true) → ((mlook (z1v1, z1v2) l1v4 = none) → gq m p1 p2 r0_4 z1v1 z1v2 l1v4 r0) ∧ (∀ (d1_1 : Bool), mlook (z1v1, z1v2) l1v4 = some d1_1 → ((d1_1 = false) → gq m p1 p2 r0_4 z1v1 z1v2 l1v4 r0) ∧ ((d1_1 = true) → false = r0))) ∧ ((b1v3 = false) → false = r0)) : bI (m + 1) p1 p2 r0_4 z1v1 z1v2 b1v3 l1v4 r0 := by
 intro K j1 hK hj1
 obtain ⟨j1, rfl⟩ : ∃ j, j1 = j + 1 := ⟨j1 - 1, by omega⟩
 refine gR 5 rfl ?_
 refine gB 52 rfl rfl rfl (fun hd => ?_) (fun hd => ?_)
 refine gT 11 rfl hd rfl ?_
 refine gT 51 rfl hd rfl ?_
 replace h := h.1 hd
 refine gR 2 rfl ?_
 rcases hq34 : mlook (z1v1, z1v2) l1v4 with _ | d1_1
 replace h := h.1 hq34
 refine gDo (v := some (.bool false)) (.nop) (uE ce (encV := V.bool) (k := (z1v1, z1v2)) (l := l1v4) (zv := .bool false) hq34 Tryz.underlying50 Tryz.zeroValue4 (by kernel_rfl) rfl rfl rfl rfl) trivial rfl rfl rfl ?_
 refine gR 7 rfl ?_
 exact gJ (h K _ hK (by omega)) [0, 1, 2, 3] [] rfl hK ⟨⟨_, rfl, .rfl⟩, ⟨_, rfl, .rfl⟩, ⟨_, rfl, .rfl⟩, ⟨_, rfl, .rfl⟩, trivial⟩ ⟨⟨_, rfl, ⟨rfl, ah.rfl⟩⟩, ⟨⟨_, rfl, ⟨rfl, rfl, rfl, rfl⟩⟩, ⟨⟨_, rfl, ⟨rfl, rfl, rfl, rfl⟩⟩, ⟨⟨_, rfl, ⟨rfl, ah.rfl⟩⟩, trivial⟩⟩⟩⟩ rfl
 replace h := h.2 d1_1 hq34
 refine gDo (v := some (.bool d1_1)) (.nop) (uB ce (encV := V.bool) (k := (z1v1, z1v2)) (l := l1v4) (zv := .bool false) hq34 Tryz.underlying50 Tryz.zeroValue4 (by kernel_rfl) rfl rfl rfl rfl) trivial rfl rfl rfl ?_
 refine gR 4 rfl ?_
 refine gB 57 rfl rfl rfl (fun hd => ?_) (fun hd => ?_)
 replace hd := (bM hd)
 replace h := h.1 hd
 refine gR 3 rfl ?_
 exact gJ (h K _ hK (by omega)) [0, 1, 2, 3] [] rfl hK ⟨⟨_, rfl, .rfl⟩, ⟨_, rfl, .rfl⟩, ⟨_, rfl, .rfl⟩, ⟨_, rfl, .rfl⟩, trivial⟩ ⟨⟨_, rfl, ⟨rfl, ah.rfl⟩⟩, ⟨⟨_, rfl, ⟨rfl, rfl, rfl, rfl⟩⟩, ⟨⟨_, rfl, ⟨rfl, rfl, rfl, rfl⟩⟩, ⟨⟨_, rfl, ⟨rfl, ah.rfl⟩⟩, trivial⟩⟩⟩⟩ rfl
 replace hd := (bL hd)
 replace h := h.2 hd
 refine gR 3 rfl ?_
 refine av ?_
 refine gR 8 rfl ?_
 subst h
 refine ab (F' := (mkF 70 0 [(6, .bool false)])) (H' := ⟨0, []⟩) [] [] rfl hK ⟨⟨_, rfl, .rfl⟩, trivial⟩ trivial rfl ?_
 exact ac aa (rs := [.tmp 6]) rfl rfl rfl
 refine gF 11 rfl hd rfl ?_
 refine gF 51 rfl hd rfl ?_
 replace h := h.2 hd
 refine gR 10 rfl ?_
 refine av ?_
 refine gR 8 rfl ?_
 subst h
 refine ab (F' := (mkF 70 0 [(6, .bool false)])) (H' := ⟨0, []⟩) [] [] rfl hK ⟨⟨_, rfl, .rfl⟩, trivial⟩ trivial rfl ?_
 exact ac aa (rs := [.tmp 6]) rfl rfl rfl
theorem l7 (m : Nat) (p1 : Int) (p2 : Int) (r0_4 : (List ((Int × Int) × GTypesAlias))) (z1v1 : Int) (z1v2 : Int) (l2v1 : (List ((Int × Int) × Bool))) (r0 : Bool) (h : ((z1v1 = p1 ∧ z1v2 = p2) → true = r0) ∧ ((¬ (z1v1 = p1 ∧ z1v2 = p2)) → ((mlook (z1v1, z1v2) r0_4 = none) → bI m p1 p2 r0_4 0 0 false (mput (z1v1, z1v2) true l2v1) r0) ∧ (∀ (d2_1 : GTypesAlias), mlook (z1v1, z1v2) r0_4 = some d2_1 → bI m p1 p2 r0_4 d2_1.module d2_1.def_ true (mput (z1v1, z1v2) true l2v1) r0))) : gq (m + 1) p1 p2 r0_4 z1v1 z1v2 l2v1 r0 := by
 intro K j1 hK hj1
 obtain ⟨j1, rfl⟩ : ∃ j, j1 = j + 1 := ⟨j1 - 1, by omega⟩
 refine gR 7 rfl ?_
 refine gY (v := .bool (z1v1 == p1 && z1v2 == p2)) (CD (neg := false) Tryz.underlying47 (by kernel_rfl) (by kernel_rfl) (by decide) (by decide) rfl rfl (by kernel_rfl) (by kernel_rfl) rfl rfl qI qI qI qI (eI Tryz.underlying3) (eI Tryz.underlying3)) rfl rfl ?_
 refine gR 2 rfl ?_
 refine gB 66 rfl rfl rfl (fun hd => ?_) (fun hd => ?_)
 replace hd := (zq hd)
 replace h := h.1 hd
 refine gR 10 rfl ?_
 refine aM ?_
 refine gR 2 rfl ?_
 subst h
 refine ab (F' := (mkF 70 0 [(6, .bool true)])) (H' := ⟨0, []⟩) [] [] rfl hK ⟨⟨_, rfl, .rfl⟩, trivial⟩ trivial rfl ?_
 exact ac aa (rs := [.tmp 6]) rfl rfl rfl
 replace hd := (zx hd)
 replace h := h.2 hd
 refine gR 6 rfl ?_
 refine gDo (.set 2 (.mp 47 4 (List.map (fun p => (fun x => V.agg [(V.int .i64 x.1), (V.int .i64 x.2)]) p.1) (mput (z1v1, z1v2) true l2v1)) (List.map (fun p => V.bool p.2) (mput (z1v1, z1v2) true l2v1)))) (zd ce (encV := V.bool) (k := (z1v1, z1v2)) (d := true) (l := l2v1) Tryz.underlying50 rfl rfl rfl rfl rfl rfl rfl rfl) (okM rfl) rfl rfl rfl ?_
 refine gR 17 rfl ?_
 rcases hq35 : mlook (z1v1, z1v2) r0_4 with _ | d2_1
 replace h := h.1 hq35
 refine gDo (v := some (.tup [.agg [.int .i64 0, .int .i64 0], .bool false])) (.nop) (uE ce (encV := GTypesAlias.w) (k := (z1v1, z1v2)) (l := r0_4) (zv := .agg [.int .i64 0, .int .i64 0]) hq35 Tryz.underlying48 Tryz.zeroValue47 (by kernel_rfl) rfl rfl rfl rfl) trivial rfl rfl rfl ?_
 refine gR 6 rfl ?_
 refine aq ?_
 exact gJ (h K _ hK (by omega)) [0, 1, 2, 4] [] rfl hK ⟨⟨_, rfl, .rfl⟩, ⟨_, rfl, .rfl⟩, ⟨_, rfl, .rfl⟩, ⟨_, rfl, .rfl⟩, ⟨_, rfl, .rfl⟩, trivial⟩ ⟨⟨_, rfl, ⟨rfl, ah.rfl⟩⟩, ⟨⟨_, rfl, ⟨rfl, rfl, rfl, rfl⟩⟩, ⟨⟨_, rfl, ⟨rfl, rfl, rfl, rfl⟩⟩, ⟨⟨_, rfl, ⟨rfl, ah.rfl⟩⟩, trivial⟩⟩⟩⟩ rfl
 replace h := h.2 d2_1 hq35
 refine gDo (v := some (.tup [.agg (GTypesAlias.c d2_1), .bool true])) (.nop) (uB ce (encV := GTypesAlias.w) (k := (z1v1, z1v2)) (l := r0_4) (zv := .agg [.int .i64 0, .int .i64 0]) hq35 Tryz.underlying48 Tryz.zeroValue47 (by kernel_rfl) rfl rfl rfl rfl) trivial rfl rfl rfl ?_
 refine gR 6 rfl ?_
 refine aq ?_
 exact gJ (h K _ hK (by omega)) [0, 1, 2, 4] [] rfl hK ⟨⟨_, rfl, .rfl⟩, ⟨_, rfl, .rfl⟩, ⟨_, rfl, .rfl⟩, ⟨_, rfl, .rfl⟩, ⟨_, rfl, .rfl⟩, trivial⟩ ⟨⟨_, rfl, ⟨rfl, ah.rfl⟩⟩, ⟨⟨_, rfl, ⟨rfl, rfl, rfl, rfl⟩⟩, ⟨⟨_, rfl, ⟨rfl, rfl, rfl, rfl⟩⟩, ⟨⟨_, rfl, ⟨rfl, ah.rfl⟩⟩, trivial⟩⟩⟩⟩ rfl
theorem lF (m : Nat) (p0 : (List Tree)) (p1 : Int) (p2 : Tree) (p3 : Int) (p4 : Tree) (r0 : Bool) (h : ∃ (t0_1 : Tree), ∃ (n0_2 : Int), dt p0 p1 p2 t0_1 n0_2 ∧ ((n0_2 ≠ 0) → false = r0) ∧ ((n0_2 = 0) → ∃ (t0_3 : Tree), ∃ (n0_4 : Int), dt p0 p3 p4 t0_3 n0_4 ∧ ((n0_4 = 0) → ∃ (b0_5 : Bool), jo t0_1 t0_3 b0_5 ∧ b0_5 = r0) ∧ ((n0_4 ≠ 0) → false = r0))) : mb p0 p1 p2 p3 p4 r0 := by
 refine ⟨rfl, rfl, ?_⟩
 refine ak 37 [] Tryz.func16 rfl rfl rfl (aA rfl) fun K hK => ?_
 refine gR 3 rfl ?_
 refine gFP 0 rfl rfl rfl rfl ?_
 refine gR 1 rfl ?_
 refine gFP 1 rfl rfl rfl rfl ?_
 refine gR 8 rfl ?_
 obtain ⟨t0_1, n0_2, hs4, h⟩ := h
 refine gC0 hs4 (by kernel_rfl) rfl rfl .rfl rfl ?_
 refine gR 15 rfl ?_
 refine gB 22 rfl rfl rfl (fun hd => ?_) (fun hd => ?_)
 replace hd := (fe hd)
 replace h := h.1 hd
 refine gR 8 rfl ?_
 subst h
 refine ab (F' := (mkF 37 0 [(10, .bool false)])) (H' := ⟨0, []⟩) [] [] rfl hK ⟨⟨_, rfl, .rfl⟩, trivial⟩ trivial rfl ?_
 exact ac aa (rs := [.tmp 10]) rfl rfl rfl
 replace hd := (dA hd)
 replace h := h.2 hd
 refine gR 8 rfl ?_
 obtain ⟨t0_3, n0_4, hs5, h⟩ := h
 refine gC0 hs5 (by kernel_rfl) rfl rfl .rfl rfl ?_
 refine gR 13 rfl ?_
 refine gB 32 rfl rfl rfl (fun hd => ?_) (fun hd => ?_)
 refine gT 31 rfl hd rfl ?_
 replace hd := (eq_of_beq hd)
 replace h := h.1 hd
 refine gR 2 rfl ?_
 obtain ⟨b0_5, hs6, h⟩ := h
 refine gC0 hs6 (by kernel_rfl) rfl rfl .rfl rfl ?_
 refine gR 5 rfl ?_
 subst h
 refine ab (F' := (mkF 37 0 [(10, .bool b0_5)])) (H' := ⟨0, []⟩) [] [] rfl hK ⟨⟨_, rfl, .rfl⟩, trivial⟩ trivial rfl ?_
 exact ac aa (rs := [.tmp 10]) rfl rfl rfl
 refine gF 31 rfl hd rfl ?_
 replace hd := (ne_of_beq_false hd)
 replace h := h.2 hd
 refine gR 8 rfl ?_
 subst h
 refine ab (F' := (mkF 37 0 [(10, .bool false)])) (H' := ⟨0, []⟩) [] [] rfl hK ⟨⟨_, rfl, .rfl⟩, trivial⟩ trivial rfl ?_
 exact ac aa (rs := [.tmp 10]) rfl rfl rfl
def mF (m : Nat) (p0 : Tree) (p1 : Tree) (i1v1 : Nat) (r0 : Bool) : Prop := ∀ (K : Ctx) (j1 : Nat), au K [] → m ≤ j1 → Go Tryz.prog K (bodyPost Tryz.prog Tryz.f37 (SP K (fun u _ => u = .bool r0))) (.code (cL (cK (cB (cA (cB (cB (ae Tryz.f37)))))))) [.loop (cL (cK (cB (cA (cB (cB (ae Tryz.f37))))))) j1, .blk 0, .seq (cB (cB (cB (ae Tryz.f37))))] 54 (mkF 54 0 [(2, .box (ai p0) 0), (3, .box (ai p1) 0), (37, .int .i64 ((p0.kids.length : Nat) : Int)), (38, .int .i64 ((i1v1 : Nat) : Int))]) ⟨0, []⟩
theorem iR (m : Nat) (p0 : Tree) (p1 : Tree) (r0 : Bool) (h : ((p0.kind ≠ p1.kind) → false = r0) ∧ ((p0.kind = p1.kind) → ((p0.text ≠ p1.text) → false = r0) ∧ ((p0.text = p1.text) → ((p0.kids.length ≠ p1.kids.length) → false = r0) ∧ ((p0.kids.length = p1.kids.length) → ∃ (b0_1 : Bool), lE p0.leads p1.leads b0_1 ∧ ((b0_1 = false) → false = r0) ∧ ((b0_1 = true) → mF m p0 p1 0 r0))))) : jo p0 p1 r0 := by
 refine ⟨rfl, rfl, ?_⟩
 refine ak 54 [] Tryz.func37 rfl rfl rfl (aA rfl) fun K hK => ?_
 refine gR 3 rfl ?_
 refine gFP 0 rfl rfl rfl rfl ?_
 refine gR 1 rfl ?_
 refine gFP 1 rfl rfl rfl rfl ?_
 refine gR 12 rfl ?_
 refine gB 11 rfl rfl rfl (fun hd => ?_) (fun hd => ?_)
 refine gT 10 rfl hd rfl ?_
 replace hd := (fe hd)
 replace h := h.1 hd
 refine gR 33 rfl ?_
 subst h
 refine ab (F' := (mkF 54 0 [(4, .bool false)])) (H' := ⟨0, []⟩) [] [] rfl hK ⟨⟨_, rfl, .rfl⟩, trivial⟩ trivial rfl ?_
 exact ac aa (rs := [.tmp 4]) rfl rfl rfl
 refine gF 10 rfl hd rfl ?_
 replace hd := (dA hd)
 replace h := h.2 hd
 refine gR 7 rfl ?_
 refine gB 18 rfl rfl rfl (fun hd => ?_) (fun hd => ?_)
 refine gT 17 rfl hd rfl ?_
 replace hd := (fe hd)
 replace h := h.1 hd
 refine gR 26 rfl ?_
 subst h
 refine ab (F' := (mkF 54 0 [(4, .bool false)])) (H' := ⟨0, []⟩) [] [] rfl hK ⟨⟨_, rfl, .rfl⟩, trivial⟩ trivial rfl ?_
 exact ac aa (rs := [.tmp 4]) rfl rfl rfl
 refine gF 17 rfl hd rfl ?_
 replace hd := (dA hd)
 replace h := h.2 hd
 refine gR 3 rfl ?_
 refine gV 21 (.int .i64 ((p0.kids.length : Nat) : Int)) rfl (bc (aD _)) rfl ?_
 refine gLB 20 rfl (aD _) fun hl9 => ?_
 refine gR 3 rfl ?_
 refine gV 24 (.int .i64 ((p1.kids.length : Nat) : Int)) rfl (bc (aD _)) rfl ?_
 refine gLB 23 rfl (aD _) fun hl10 => ?_
 refine gR 3 rfl ?_
 refine gB 27 rfl rfl rfl (fun hd => ?_) (fun hd => ?_)
 refine gT 26 rfl hd rfl ?_
 replace hd := (wJ hd)
 replace h := h.1 hd
 refine gR 17 rfl ?_
 subst h
 refine ab (F' := (mkF 54 0 [(4, .bool false)])) (H' := ⟨0, []⟩) [] [] rfl hK ⟨⟨_, rfl, .rfl⟩, trivial⟩ trivial rfl ?_
 exact ac aa (rs := [.tmp 4]) rfl rfl rfl
 refine gF 26 rfl hd rfl ?_
 replace hd := (wW hd)
 replace h := h.2 hd
 refine gR 4 rfl ?_
 obtain ⟨b0_1, hs11, h⟩ := h
 refine gC0 hs11 (by kernel_rfl) rfl rfl .rfl rfl ?_
 refine gR 4 rfl ?_
 refine gB 34 rfl rfl rfl (fun hd => ?_) (fun hd => ?_)
 replace hd := (bM hd)
 replace h := h.1 hd
 refine gR 8 rfl ?_
 subst h
 refine ab (F' := (mkF 54 0 [(4, .bool false)])) (H' := ⟨0, []⟩) [] [] rfl hK ⟨⟨_, rfl, .rfl⟩, trivial⟩ trivial rfl ?_
 exact ac aa (rs := [.tmp 4]) rfl rfl rfl
 replace hd := (bL hd)
 replace h := h.2 hd
 refine gR 9 rfl ?_
 refine gV 37 (.int .i64 ((p0.kids.length : Nat) : Int)) rfl (bc (aD _)) rfl ?_
 refine gR 4 rfl ?_
 refine go_loop m ?_
 exact gJ (h K _ hK (by omega)) [] [] rfl hK ⟨⟨_, rfl, .rfl⟩, ⟨_, rfl, .rfl⟩, ⟨_, rfl, .rfl⟩, ⟨_, rfl, .rfl⟩, trivial⟩ trivial rfl
theorem l9 (m : Nat) (p0 : Tree) (p1 : Tree) (i1v1 : Nat) (r0 : Bool) (h : ((i1v1 < p0.kids.length) → ∃ (t1_1 : Tree), p0.kids[i1v1]? = some t1_1 ∧ ∃ (t1_2 : Tree), p1.kids[i1v1]? = some t1_2 ∧ ∃ (b1_3 : Bool), jo t1_1 t1_2 b1_3 ∧ ((b1_3 = false) → false = r0) ∧ ((b1_3 = true) → i1v1 + 1 ≤ 9223372036854775807 ∧ mF m p0 p1 (i1v1 + 1) r0)) ∧ ((¬ i1v1 < p0.kids.length) → true = r0)) : mF (m + 1) p0 p1 i1v1 r0 := by
 intro K j1 hK hj1
 obtain ⟨j1, rfl⟩ : ∃ j, j1 = j + 1 := ⟨j1 - 1, by omega⟩
 refine gR 6 rfl ?_
 refine gB 39 rfl rfl rfl (fun hd => ?_) (fun hd => ?_)
 replace hd := (cO hd)
 replace h := h.1 hd
 refine gR 12 rfl ?_
 refine gDs [] 12 12 rfl (by kernel_rfl) (by kernel_rfl) ?_
 refine gDr [(0, 2), (1, 2), (2, 2)] (by kernel_rfl) rfl rfl ?_
 obtain ⟨t1_1, hxt1_1, h⟩ := h
 refine gYd 3 rfl (by kernel_rfl) (aK (am hxt1_1) aa rfl rfl rfl rfl) rfl rfl ?_
 refine gDr [(4, 2), (5, 2), (6, 2), (7, 0)] (by kernel_rfl) rfl rfl ?_
 obtain ⟨t1_2, hxt1_2, h⟩ := h
 refine dF 8 rfl (by kernel_rfl) (aK (am hxt1_2) aa rfl rfl rfl rfl) rfl rfl ?_
 refine gDr [(9, 0)] (by kernel_rfl) rfl rfl ?_
 obtain ⟨b1_3, hs12, h⟩ := h
 refine br 10 hs12 (by kernel_rfl) rfl (by kernel_rfl) rfl rfl .rfl rfl rfl ?_
 refine gDr [(11, 0)] (by kernel_rfl) rfl rfl ?_
 refine gDe (by kernel_rfl) ?_
 refine gR 1 rfl ?_
 refine gB 52 rfl rfl rfl (fun hd => ?_) (fun hd => ?_)
 replace hd := (bM hd)
 replace h := h.1 hd
 refine gR 9 rfl ?_
 refine aM ?_
 refine gR 2 rfl ?_
 subst h
 refine ab (F' := (mkF 54 0 [(4, .bool false)])) (H' := ⟨0, []⟩) [] [] rfl hK ⟨⟨_, rfl, .rfl⟩, trivial⟩ trivial rfl ?_
 exact ac aa (rs := [.tmp 4]) rfl rfl rfl
 replace hd := (bL hd)
 replace h := h.2 hd
 refine gR 5 rfl ?_
 obtain ⟨hb, h⟩ := h
 refine gR 1 rfl ?_
 refine gV 53 (.int .i64 ((i1v1 + 1 : Nat) : Int)) rfl (ar (by omega) (by omega)) rfl ?_
 refine gR 2 rfl ?_
 refine aq ?_
 exact gJ (h K _ hK (by omega)) [] [] rfl hK ⟨⟨_, rfl, .rfl⟩, ⟨_, rfl, .rfl⟩, ⟨_, rfl, .rfl⟩, ⟨_, rfl, .rfl⟩, trivial⟩ trivial rfl
 replace hd := (cI hd)
 replace h := h.2 hd
 refine gR 3 rfl ?_
 refine av ?_
 refine gR 8 rfl ?_
 subst h
 refine ab (F' := (mkF 54 0 [(4, .bool true)])) (H' := ⟨0, []⟩) [] [] rfl hK ⟨⟨_, rfl, .rfl⟩, trivial⟩ trivial rfl ?_
 exact ac aa (rs := [.tmp 4]) rfl rfl rfl
def ko (m : Nat) (p0 : (List (List UInt8))) (p1 : (List (List UInt8))) (i1v1 : Nat) (r0 : Bool) : Prop := ∀ (K : Ctx) (j1 : Nat), au K [] → m ≤ j1 → Go Tryz.prog K (bodyPost Tryz.prog Tryz.f61 (SP K (fun u _ => u = .bool r0))) (.code (cL (cK (cB (cA (cB (cB (ae Tryz.f61)))))))) [.loop (cL (cK (cB (cA (cB (cB (ae Tryz.f61))))))) j1, .blk 0, .seq (cB (cB (cB (ae Tryz.f61))))] 26 (mkF 26 0 [(0, .row 1 (List.map V.str p0)), (1, .row 1 (List.map V.str p1)), (12, .int .i64 ((p0.length : Nat) : Int)), (13, .int .i64 ((i1v1 : Nat) : Int))]) ⟨0, []⟩
theorem q9 (m : Nat) (p0 : (List (List UInt8))) (p1 : (List (List UInt8))) (r0 : Bool) (h : ((p0.length ≠ p1.length) → false = r0) ∧ ((p0.length = p1.length) → ko m p0 p1 0 r0)) : lE p0 p1 r0 := by
 refine ⟨rfl, rfl, ?_⟩
 refine ak 26 [] Tryz.func61 rfl rfl rfl (aA rfl) fun K hK => ?_
 refine gR 10 rfl ?_
 refine gV 7 (.int .i64 ((p0.length : Nat) : Int)) rfl (bc (aV V.str _)) rfl ?_
 refine gLB 6 rfl (aV V.str _) fun hl5 => ?_
 refine gR 2 rfl ?_
 refine gV 9 (.int .i64 ((p1.length : Nat) : Int)) rfl (bc (aV V.str _)) rfl ?_
 refine gLB 8 rfl (aV V.str _) fun hl6 => ?_
 refine gR 3 rfl ?_
 refine gB 10 rfl rfl rfl (fun hd => ?_) (fun hd => ?_)
 replace hd := (wJ hd)
 replace h := h.1 hd
 refine gR 8 rfl ?_
 subst h
 refine ab (F' := (mkF 26 0 [(4, .bool false)])) (H' := ⟨0, []⟩) [] [] rfl hK ⟨⟨_, rfl, .rfl⟩, trivial⟩ trivial rfl ?_
 exact ac aa (rs := [.tmp 4]) rfl rfl rfl
 replace hd := (wW hd)
 replace h := h.2 hd
 refine gR 8 rfl ?_
 refine gV 12 (.int .i64 ((p0.length : Nat) : Int)) rfl (bc (aV V.str _)) rfl ?_
 refine gR 4 rfl ?_
 refine go_loop m ?_
 exact gJ (h K _ hK (by omega)) [] [] rfl hK ⟨⟨_, rfl, .rfl⟩, ⟨_, rfl, .rfl⟩, ⟨_, rfl, .rfl⟩, ⟨_, rfl, .rfl⟩, trivial⟩ trivial rfl
theorem qm (m : Nat) (p0 : (List (List UInt8))) (p1 : (List (List UInt8))) (i1v1 : Nat) (r0 : Bool) (h : ((i1v1 < p0.length) → ∃ (s1_1 : (List UInt8)), p0[i1v1]? = some s1_1 ∧ ∃ (s1_2 : (List UInt8)), p1[i1v1]? = some s1_2 ∧ ((s1_1 ≠ s1_2) → false = r0) ∧ ((s1_1 = s1_2) → i1v1 + 1 ≤ 9223372036854775807 ∧ ko m p0 p1 (i1v1 + 1) r0)) ∧ ((¬ i1v1 < p0.length) → true = r0)) : ko (m + 1) p0 p1 i1v1 r0 := by
 intro K j1 hK hj1
 obtain ⟨j1, rfl⟩ : ∃ j, j1 = j + 1 := ⟨j1 - 1, by omega⟩
 refine gR 6 rfl ?_
 refine gB 14 rfl rfl rfl (fun hd => ?_) (fun hd => ?_)
 replace hd := (cO hd)
 replace h := h.1 hd
 refine gR 12 rfl ?_
 refine gDs [] 9 9 rfl (by kernel_rfl) (by kernel_rfl) ?_
 refine gDr [(0, 2), (1, 2)] (by kernel_rfl) rfl rfl ?_
 obtain ⟨s1_1, hxs1_1, h⟩ := h
 refine gYd 2 rfl (by kernel_rfl) (aK (mapget (f := V.str) hxs1_1) aa rfl rfl rfl rfl) rfl rfl ?_
 refine gDr [(3, 2), (4, 2), (5, 0)] (by kernel_rfl) rfl rfl ?_
 obtain ⟨s1_2, hxs1_2, h⟩ := h
 refine dF 6 rfl (by kernel_rfl) (aK (mapget (f := V.str) hxs1_2) aa rfl rfl rfl rfl) rfl rfl ?_
 refine gDr [(7, 0), (8, 0)] (by kernel_rfl) rfl rfl ?_
 refine gDe (by kernel_rfl) ?_
 refine gR 1 rfl ?_
 refine gB 24 rfl rfl rfl (fun hd => ?_) (fun hd => ?_)
 replace hd := (fe hd)
 replace h := h.1 hd
 refine gR 9 rfl ?_
 refine aM ?_
 refine gR 2 rfl ?_
 subst h
 refine ab (F' := (mkF 26 0 [(4, .bool false)])) (H' := ⟨0, []⟩) [] [] rfl hK ⟨⟨_, rfl, .rfl⟩, trivial⟩ trivial rfl ?_
 exact ac aa (rs := [.tmp 4]) rfl rfl rfl
 replace hd := (dA hd)
 replace h := h.2 hd
 refine gR 5 rfl ?_
 obtain ⟨hb, h⟩ := h
 refine gR 1 rfl ?_
 refine gV 25 (.int .i64 ((i1v1 + 1 : Nat) : Int)) rfl (ar (by omega) (by omega)) rfl ?_
 refine gR 2 rfl ?_
 refine aq ?_
 exact gJ (h K _ hK (by omega)) [] [] rfl hK ⟨⟨_, rfl, .rfl⟩, ⟨_, rfl, .rfl⟩, ⟨_, rfl, .rfl⟩, ⟨_, rfl, .rfl⟩, trivial⟩ trivial rfl
 replace hd := (cI hd)
 replace h := h.2 hd
 refine gR 3 rfl ?_
 refine av ?_
 refine gR 8 rfl ?_
 subst h
 refine ab (F' := (mkF 26 0 [(4, .bool true)])) (H' := ⟨0, []⟩) [] [] rfl hK ⟨⟨_, rfl, .rfl⟩, trivial⟩ trivial rfl ?_
 exact ac aa (rs := [.tmp 4]) rfl rfl rfl
end Go.Proofs.YtiknldgpnhikhaaGreat
namespace Go.Proofs.YtiknldgpnhikhaaGreat
open Go.RowKit Lx Sx
set_option maxRecDepth 100000
theorem vp {p : List Tree} {M : Int} : ∀ {a : List (List Int × Tree)} {x : GTarget}, x ∈ im p M a ↔ ∃ q u, (q, u) ∈ a ∧ lx u = true ∧ x = tgK p M q u
  | [], x => by simp [im]
  | (q, u) :: r, x => by
    have ih := vp (p := p) (M := M) (a := r) (x := x)
    simp only [im, List.mem_append, ih]
    constructor
    · rintro (h | ⟨q', u', h1, h2, h3⟩)
      · split at h
        · rename_i hu
          rw [List.mem_singleton] at h
          exact ⟨q, u, by simp, hu, h⟩
        · cases h
      · exact ⟨q', u', by simp [h1], h2, h3⟩
    · rintro ⟨q', u', h1, h2, h3⟩
      rcases List.mem_cons.1 h1 with h1 | h1
      · cases h1
        exact .inl (by rw [if_pos h2]; simp [h3])
      · exact .inr ⟨q', u', h1, h2, h3⟩
theorem qp {p : List Tree} : ∀ {i : Nat} {l : List Tree} {x : GTarget}, x ∈ kO p i l ↔ ∃ j t q u, l[j]? = some t ∧ (q, u) ∈ nodK t [] ∧ lx u = true ∧ x = tgK p ((i + j : Nat) : Int) q u
  | i, [], x => by simp [kO]
  | i, t :: r, x => by
    have ih := qp (p := p) (i := i + 1) (l := r) (x := x)
    simp only [kO, List.mem_append, ih, vp]
    constructor
    · rintro (⟨q, u, h1, h2, h3⟩ | ⟨j, t', q, u, h0, h1, h2, h3⟩)
      · exact ⟨0, t, q, u, rfl, h1, h2, h3⟩
      · exact ⟨j + 1, t', q, u, by simpa using h0, h1, h2, by rw [h3]; congr 2; omega⟩
    · rintro ⟨j, t', q, u, h0, h1, h2, h3⟩
      cases j with
      | zero => simp at h0; subst h0; exact .inl ⟨q, u, h1, h2, h3⟩
      | succ j => exact .inr ⟨j, t', q, u, by simpa using h0, h1, h2, by rw [h3]; congr 2; omega⟩
theorem st {u : Tree} {x : List Int × Tree} : ∀ {l : List Tree} {q : List Int} {i j : Nat}, l[j]? = some u → x ∈ nodK u (q ++ [((i + j : Nat) : Int)]) → x ∈ nodKs l q i
  | [], q, i, j, h, _ => by simp at h
  | t :: r, q, i, 0, h, hx => by
    simp only [List.getElem?_cons_zero, Option.some.injEq] at h
    subst h
    simp only [nodKs, List.mem_append]
    exact .inl (by simpa using hx)
  | t :: r, q, i, j + 1, h, hx => by
    simp only [nodKs, List.mem_append]
    refine .inr (st (i := i + 1) (j := j) (by simpa using h) ?_)
    rw [show i + 1 + j = i + (j + 1) by omega]; exact hx
theorem tl : ∀ (r : List Int) {t u : Tree} {q : List Int}, atK t r = some u → (q ++ r, u) ∈ nodK t q
  | [], t, u, q, h => by
    simp only [atK, Option.some.injEq] at h
    subst h
    rw [mw]; simp
  | z :: r, t, u, q, h => by
    simp only [atK] at h
    split at h
    · cases h
    · rename_i hz
      cases hu : t.kids[z.toNat]? with
      | none => rw [hu] at h; cases h
      | some v =>
        rw [hu] at h
        have := tl r (q := q ++ [z]) h
        rw [mw, List.mem_cons]
        refine .inr (st (j := z.toNat) hu ?_)
        rw [Nat.zero_add, show ((z.toNat : Nat) : Int) = z by omega]
        simpa using this
theorem Ad : ∀ t, tyK t → ∃ q, atK t q = some (leafK t) := cm fun t ih h => by
  rcases my h with ⟨h8, _, u, hu, hty⟩ | ⟨h8, _⟩
  · obtain ⟨e1, _⟩ := mx h8 hu
    obtain ⟨q, hq⟩ := ih 0 u (by rw [hu]; rfl) hty
    exact ⟨0 :: q, by simp [atK, hu, hq, e1]⟩
  · exact ⟨[], by rw [(mB h8).1]; rfl⟩
theorem yc : ∀ t, tyK t → ∀ q u, atK t q = some u → lx u = true → u = leafK t := cm fun t ih h q u hq hu => by
  rcases my h with ⟨h8, _, v, hv, hty⟩ | ⟨h8, hk, _⟩
  · obtain ⟨e1, _⟩ := mx h8 hv
    cases q with
    | nil =>
      simp only [atK, Option.some.injEq] at hq
      subst hq
      simp [lx, h8] at hu
    | cons z q =>
      simp only [atK, hv] at hq
      split at hq
      · cases hq
      · cases hz : z.toNat with
        | zero =>
          rw [hz] at hq
          simp only [List.getElem?_cons_zero] at hq
          rw [e1]
          exact ih 0 v (by rw [hv]; rfl) hty q u hq hu
        | succ n => rw [hz] at hq; simp at hq
  · rw [(mB h8).1]
    cases q with
    | nil => simp only [atK, Option.some.injEq] at hq; exact hq.symm
    | cons z q =>
      simp only [atK, hk] at hq
      split at hq <;> simp at hq
def dB (p : List Tree) (a : Int × Int) : Option (Int × Int) := if 0 ≤ a.1 ∧ 0 ≤ a.2 then match p[a.1.toNat]? with
    | none => none
    | some t => match t.kids[a.2.toNat]? with
      | none => none
      | some x => if x.kind = 3 ∧ (leafK (kC p a.1 a.2)).kind = 9 ∧ (aY p a.1 (leafK (kC p a.1 a.2)).text).2.2 = true then some ((aY p a.1 (leafK (kC p a.1 a.2)).text).1, (aY p a.1 (leafK (kC p a.1 a.2)).text).2.1) else none
  else none
theorem qi {p : List Tree} {i d : Nat} {t x : Tree} (h1 : p[i]? = some t) (h2 : t.kids[d]? = some x) (h3 : x.kind = 3) : dB p ((i : Int), (d : Int)) = if (leafK (kC p i d)).kind = 9 ∧ (aY p i (leafK (kC p i d)).text).2.2 = true then some ((aY p i (leafK (kC p i d)).text).1, (aY p i (leafK (kC p i d)).text).2.1) else none := by
  unfold dB
  rw [if_pos ⟨Int.natCast_nonneg i, Int.natCast_nonneg d⟩]
  simp only [Int.toNat_natCast, h1, h2, h3, true_and]
theorem oE {p : List Tree} {i d : Nat} {t x : Tree} (hp : bG p = true) (h1 : p[i]? = some t) (h2 : t.kids[d]? = some x) (h3 : x.kind = 3) : ∃ b, x.kids = [b] ∧ tyK b := by
  obtain ⟨g1, g2⟩ := kc hp h1
  have hsx : shapeK x = true := by
    rw [dP] at g2
    simp only [Bool.and_eq_true] at g2
    exact (mt g2.2 h2).2
  rw [dP, h3] at hsx
  simp only [Bool.and_eq_true, decide_eq_true_eq] at hsx
  have hl := hsx.1.1
  have e : dd 3 x.kids.length = f0 x.kids.length 1 3 0 1 := rfl
  rw [e] at hl
  have hn : x.kids.length = 1 := by
    unfold f0 at hl
    split at hl
    · omega
    · split at hl
      · omega
      · omega
  match hkk : x.kids, hn with
  | [b], _ =>
    have hss := hsx.2
    rw [hkk] at hss
    simp only [shapeKs, Bool.and_eq_true] at hss
    exact ⟨b, rfl, hss.1.2, by have := hss.1.1; simpa [jQ] using this⟩
def zL (p : List Tree) (x : GTarget) : Bool := !x.Free && (match p[x.Use.Module.toNat]? with | none => false | some t => match t.kids[(x.Use.Path.getD 0 0).toNat]? with | none => false | some a => a.kind == 3)
def dJ (p : List Tree) (l : List ((Int × Int) × GTypesAlias)) (x : GTarget) : List ((Int × Int) × GTypesAlias) :=
  if zL p x = true then mput (x.Use.Module, x.Use.Path.getD 0 0) (GTypesAlias.mk x.Module x.Def) l else l
def dC (p : List Tree) : List ((Int × Int) × GTypesAlias) := (dm p).foldl (dJ p) []
theorem xQ {p : List Tree} {x : GTarget} (hp : bG p = true) (h : x ∈ dm p) : ∃ (i d : Nat) (t a u : Tree) (q : List Int), p[i]? = some t ∧ t.kids[d]? = some a ∧ x.Use.Module = (i : Int) ∧ x.Use.Path = (d : Int) :: q ∧ atK a q = some u ∧ lx u = true ∧ x = tgK p (i : Int) ((d : Int) :: q) u := by
  unfold dm at h
  rw [if_pos hp] at h
  obtain ⟨j, t, q, u, hj, hq, hu, rfl⟩ := qp.1 h
  rw [Nat.zero_add]
  have hat := nodK_at t t [] rfl _ hq
  simp only at hat
  obtain ⟨hk, _⟩ := kc hp hj
  cases q with
  | nil =>
    simp only [atK, Option.some.injEq] at hat
    subst hat
    simp [lx, hk] at hu
  | cons z q =>
    simp only [atK] at hat
    split at hat
    · cases hat
    · rename_i hz
      cases ha : t.kids[z.toNat]? with
      | none => rw [ha] at hat; cases hat
      | some a =>
        rw [ha] at hat
        have e : ((z.toNat : Nat) : Int) = z := by omega
        exact ⟨j, z.toNat, t, a, u, q, hj, ha, rfl, by rw [e]; rfl, hat, hu, by rw [e]⟩
theorem nI {p : List Tree} {x : GTarget} {i d : Nat} {t a : Tree} {q : List Int} (l : List ((Int × Int) × GTypesAlias)) (h1 : p[i]? = some t) (h2 : t.kids[d]? = some a) (h3 : x.Use.Module = (i : Int)) (h4 : x.Use.Path = (d : Int) :: q) : dJ p l x = if x.Free = false ∧ a.kind = 3 then mput ((i : Int), (d : Int)) (GTypesAlias.mk x.Module x.Def) l else l := by
  unfold dJ zL
  rw [h3, h4]
  simp only [List.getD_cons_zero, Int.toNat_natCast, h1, h2, beq_iff_eq, Bool.and_eq_true, Bool.not_eq_true']
theorem rB {p : List Tree} (hp : bG p = true) : ∀ (T : List GTarget) (l : List ((Int × Int) × GTypesAlias)), (∀ x ∈ T, x ∈ dm p) → (∀ k v, mlook k l = some v → dB p k = some (v.module, v.def_)) → ∀ k v, mlook k (T.foldl (dJ p) l) = some v → dB p k = some (v.module, v.def_)
  | [], l, _, hl, k, v, h => hl k v h
  | x :: T, l, hT, hl, k, v, h => by
    refine rB hp T (dJ p l x) (fun y hy => hT y (by simp [hy])) (fun k v hkv => ?_) k v h
    obtain ⟨i, d, t, a, u, q, h1, h2, h3, h4, h5, h6, h7⟩ := xQ hp (hT x (by simp))
    rw [nI l h1 h2 h3 h4] at hkv
    split at hkv
    · rename_i hc
      rw [kQ] at hkv
      split at hkv
      · rename_i hk
        simp only [Option.some.injEq] at hkv
        subst hkv hk
        obtain ⟨b, hb, hty⟩ := oE hp h1 h2 hc.2
        have hlf : u = leafK b := by
          cases q with
          | nil =>
            simp only [atK, Option.some.injEq] at h5
            subst h5
            have := hc.2
            simp [lx, this] at h6
          | cons z q =>
            simp only [atK, hb] at h5
            split at h5
            · cases h5
            · cases hz : z.toNat with
              | zero =>
                rw [hz] at h5
                simp only [List.getElem?_cons_zero] at h5
                exact yc b hty q u h5 h6
              | succ n => rw [hz] at h5; simp at h5
        have hal := mA h1 h2 hb
        have hk9 : (leafK b).kind = 9 := by
          obtain ⟨g1, g2, _⟩ := j4 b hty
          have := g1.2
          simp only [ga, Bool.and_eq_true, decide_eq_true_eq] at this
          rw [hlf] at h6
          simp only [lx, Bool.or_eq_true, beq_iff_eq] at h6
          omega
        have hfr := hc.1
        rw [h7] at hfr ⊢
        simp only [tgK, Bool.not_eq_false'] at hfr ⊢
        rw [qi h1 h2 hc.2, hal, ← hlf, if_pos ⟨by rw [hlf]; exact hk9, hfr⟩]
      · exact hl k v hkv
    · exact hl k v hkv
theorem sr {p : List Tree} (k : Int × Int) : ∀ (T : List GTarget) (l : List ((Int × Int) × GTypesAlias)), mlook k l ≠ none → mlook k (T.foldl (dJ p) l) ≠ none
  | [], l, h => h
  | x :: T, l, h => by
    refine sr k T (dJ p l x) ?_
    unfold dJ
    split
    · rw [kQ]
      split
      · simp
      · exact h
    · exact h
theorem tP {p : List Tree} {k : Int × Int} {x : GTarget} (hx : ∀ l, mlook k (dJ p l x) ≠ none) : ∀ (T : List GTarget) (l : List ((Int × Int) × GTypesAlias)), x ∈ T → mlook k (T.foldl (dJ p) l) ≠ none
  | [], l, h => by cases h
  | y :: T, l, h => by
    rcases List.mem_cons.1 h with rfl | h
    · exact sr k T _ (hx l)
    · exact tP hx T _ h
theorem rF {p : List Tree} (hp : bG p = true) (k : Int × Int) : (mlook k (dC p)).map (fun v => (v.module, v.def_)) = dB p k := by
  have hs := rB hp (dm p) [] (fun _ h => h) (fun k v h => by cases h) k
  cases hm : mlook k (dC p) with
  | some v => rw [hs v hm]; rfl
  | none =>
    rw [Option.map_none]
    cases hn : dB p k with
    | none => rfl
    | some v =>
      exfalso
      have hn' := hn
      unfold dB at hn
      split at hn
      · rename_i h0
        cases h1 : p[k.1.toNat]? with
        | none => rw [h1] at hn; cases hn
        | some t =>
          cases h2 : t.kids[k.2.toNat]? with
          | none => rw [h1] at hn; simp only [h2] at hn; cases hn
          | some a =>
            rw [h1] at hn
            simp only [h2] at hn
            split at hn
            · rename_i hc
              obtain ⟨b, hb, hty⟩ := oE hp h1 h2 hc.1
              have e1 : ((k.1.toNat : Nat) : Int) = k.1 := by omega
              have e2 : ((k.2.toNat : Nat) : Int) = k.2 := by omega
              have hal := mA h1 h2 hb
              rw [e1, e2] at hal
              rw [hal] at hc
              obtain ⟨q, hq⟩ := Ad b hty
              have hat : atK t (k.2 :: 0 :: q) = some (leafK b) := by
                simp [atK, h2, hb, hq, show ¬ k.2 < 0 by omega]
              have hx : tgK p k.1 (k.2 :: 0 :: q) (leafK b) ∈ dm p := by
                unfold dm
                rw [if_pos hp]
                exact qp.2 ⟨k.1.toNat, t, _, _, h1, by simpa using tl _ (q := []) hat, by simp [lx, hc.2.1], by rw [Nat.zero_add, e1]⟩
              refine tP (k := k) (fun l => ?_) (dm p) [] hx hm
              rw [nI (i := k.1.toNat) (d := k.2.toNat) (q := 0 :: q) l h1 h2 (by rw [e1]; rfl) (by rw [e2]; rfl), if_pos ⟨by simp [tgK, hc.2.2], hc.1⟩, kQ, if_pos (by rw [e1, e2])]
              simp
            · cases hn
      · cases hn
end Go.Proofs.YtiknldgpnhikhaaGreat
namespace Go.Proofs.YtiknldgpnhikhaaGreat
open Go.RowKit Lx Sx
set_option maxRecDepth 100000
set_option maxHeartbeats 1000000
def eT {α : Type} (f : α → Nat) : List α → Nat
  | [] => 0
  | x :: r => f x + eT f r
theorem tf {α : Type} (f : α → Nat) : ∀ a b : List α, eT f (a ++ b) = eT f a + eT f b
  | [], b => by simp [eT]
  | x :: a, b => by simp only [List.cons_append, eT, tf f a b]; omega
theorem rj {α : Type} [BEq α] [LawfulBEq α] (f : α → Nat) {x : α} : ∀ {m : List α}, x ∈ m → eT f m = f x + eT f (m.erase x)
  | [], h => by cases h
  | y :: m, h => by
    rw [List.erase_cons]
    split
    · rename_i e
      rw [eq_of_beq e]; rfl
    · rename_i e
      rcases List.mem_cons.1 h with rfl | h
      · simp at e
      · simp only [eT, rj f h]; omega
theorem uk {α : Type} [BEq α] [LawfulBEq α] (f : α → Nat) : ∀ (l m : List α), l.Nodup → (∀ x ∈ l, x ∈ m) → eT f l ≤ eT f m
  | [], m, _, _ => Nat.zero_le _
  | x :: l, m, hn, hs => by
    obtain ⟨h1, h2⟩ := List.nodup_cons.1 hn
    rw [rj f (hs x (by simp)), eT]
    have := uk f l (m.erase x) h2 fun y hy => (List.mem_erase_of_ne (fun (e : y = x) => h1 (by rw [← e]; exact hy))).2 (hs y (by simp [hy]))
    omega
def me (p : List Tree) (k : Int × Int) : Nat := lisK (kC p k.1 k.2)
theorem v7 {P : List Tree} {j : Nat} {t : Tree} (h : P[j]? = some t) : eT (me P) (pI j t.kids) ≤ kbulk t.kids := by
  have go : ∀ (l : List Tree) (k : Nat), t.kids.drop k = l → eT (me P) ((List.range' k l.length).map fun (d : Nat) => ((j : Int), (d : Int))) ≤ kbulk l := fun l => by
    induction l with
    | nil => intro k _; exact Nat.zero_le _
    | cons x r ih =>
      intro k hk
      have hx : t.kids[k]? = some x := by
        have : (t.kids.drop k)[0]? = some x := by rw [hk]; rfl
        simpa using this
      have hr : t.kids.drop (k + 1) = r := by
        have : (t.kids.drop k).drop 1 = r := by rw [hk]; rfl
        simpa [List.drop_drop] using this
      have := ih (k + 1) hr
      simp only [List.length_cons, List.range'_succ, List.map_cons, eT, kbulk]
      have e : me P ((j : Int), (k : Int)) ≤ tbulk x := by
        unfold me kC
        simp only [Int.toNat_natCast, h, hx]
        cases hxk : x.kids with
        | nil =>
          have : lisK lN = 0 := by unfold lN; rw [lisK, if_neg (by decide)]
          simp only [this]; omega
        | cons b _ =>
          simp only []
          have := (iZ b).2
          have := bE (t := x) (i := 0) (u := b) (by rw [hxk]; rfl)
          omega
      omega
  have := go t.kids 0 rfl
  unfold pI
  rw [List.range_eq_range']
  exact this
theorem tv (P : List Tree) : ∀ (j : Nat) (r : List Tree), (∀ i, P[j + i]? = r[i]?) → eT (me P) (mo j r) ≤ kbulk r
  | j, [], _ => Nat.zero_le _
  | j, t :: r, h => by
    have h0 : P[j]? = some t := by have := h 0; simpa using this
    have := v7 h0
    have := tv P (j + 1) r fun i => by have := h (i + 1); rw [show j + 1 + i = j + (i + 1) by omega]; simpa using this
    have := bv t
    simp only [mo, tf, kbulk]
    omega
theorem qD {p : List Tree} {l : List (Int × Int)} (h : jD p l) : eT (me p) l ≤ kbulk p := Nat.le_trans (uk _ _ _ h.1 h.2) (tv p 0 p (fun i => by simp))
theorem t5 (t : Tree) : ∀ n, bH n (.node 8 [] [] [t]) = .node 8 [] [] [bH n t]
  | 0 => rfl
  | n + 1 => by simp only [bH, t5 t n]
theorem rJ {t : Tree} (ht : tyK t) (hb : tbulk t ≤ 1000000000) : jN t (leafK t) (lisK t) := by
  have loop : ∀ t, tyK t → ∀ i, i + tbulk t ≤ 2000000000 → i3 (lisK t + 1) t i (leafK t) ((i + lisK t : Nat) : Int) := cm fun t ih h i hi => by
    rcases my h with ⟨h8, _, u, hu, hty⟩ | ⟨h8, hk, _⟩
    · obtain ⟨e1, e2⟩ := mx h8 hu
      have h0 : t.kids[0]? = some u := by rw [hu]; rfl
      have := bE h0
      rw [e1, e2]
      refine nq _ _ _ _ _ ⟨fun _ => ⟨u, h0, by omega, ?_⟩, fun h => absurd h8 h⟩
      rw [show i + (lisK u + 1) = i + 1 + lisK u by omega]
      exact ih 0 u h0 hty (i + 1) (by omega)
    · obtain ⟨e1, e2⟩ := mB h8
      rw [e1, e2]
      exact nq _ _ _ _ _ ⟨fun h => absurd h h8, fun _ => ⟨rfl, rfl⟩⟩
  have := loop t ht 0 (by omega)
  rw [Nat.zero_add] at this
  exact rG _ _ _ _ this
theorem ib (p : List Tree) (hp : kbulk p ≤ 1000000000) : iw p (bG p) := by
  have hl := gh p
  have loop : ∀ m i, p.length - i ≤ m → hW (m + 1) p i (bG (p.drop i)) := fun m => by
    induction m with
    | zero =>
      intro i hi
      refine mg 0 _ _ _ ⟨fun h => by omega, fun h => ?_⟩
      rw [List.drop_of_length_le (by omega), bG]
    | succ m ihm =>
      intro i hi
      refine mg (m + 1) _ _ _ ⟨fun h => ?_, fun h => ?_⟩
      · obtain ⟨u, hu, _⟩ | h' := aS p i
        · rw [bO hu, bG]
          have := dz hu
          refine ⟨u, hu, fun h1 => by simp [h1], fun h1 => ⟨_, mO u (by omega), fun h2 => by simp [h1, h2], fun h2 => ⟨by omega, ?_⟩⟩⟩
          simp only [h1, h2, beq_self_eq_true, Bool.true_and]
          exact ihm (i + 1) (by omega)
        · exact absurd h h'
      · rw [List.drop_of_length_le (by omega), bG]
  exact qh _ _ _ (loop p.length 0 (by omega))
theorem sO (p : List Tree) : (dm p).length ≤ kbulk p := by
  unfold dm; split
  · exact r9 p 0 p
  · exact Nat.zero_le _
theorem so {p : List Tree} (hp : bG p = true) (hb : kbulk p ≤ 100000000) : iz p (dC p) := by
  have hl := sO p
  have hu : ∀ x ∈ dm p, _ := fun x hx => xQ hp hx
  obtain ⟨T, hT⟩ : ∃ T, T = dm p := ⟨_, rfl⟩
  have loop : ∀ m i l, T.length - i ≤ m → d9 (m + 1) p T l i ((T.drop i).foldl (dJ p) l) := fun m => by
    induction m with
    | zero =>
      intro i l hi
      refine mm 0 _ _ _ _ _ ⟨fun h => by omega, fun h => ?_⟩
      rw [List.drop_of_length_le (by omega)]; rfl
    | succ m ihm =>
      intro i l hi
      refine mm (m + 1) _ _ _ _ _ ⟨fun h => ?_, fun h => ?_⟩
      · obtain ⟨x, hx, _⟩ | h' := aS T i
        · rw [bO hx, List.foldl_cons]
          obtain ⟨j, d, t, a, u, q, h1, h2, h3, h4, h5, h6, h7⟩ := hu x (hT ▸ List.mem_of_getElem? hx)
          have hs := nI l h1 h2 h3 h4
          rw [← hT] at hl
          refine ⟨x, hx, (d : Int), by rw [h4]; rfl, fun hf => ⟨j, h3, t, h1, d, rfl, a, h2, fun h3' => ⟨by omega, ?_⟩, fun h3' => ⟨by omega, ?_⟩⟩, fun hf => ⟨by omega, ?_⟩⟩
          · have := ihm (i + 1) (dJ p l x) (by omega)
            rw [hs, if_pos ⟨hf, h3'⟩] at this ⊢
            rw [h3]; exact this
          · have := ihm (i + 1) (dJ p l x) (by omega)
            rw [hs, if_neg (fun hc => h3' hc.2)] at this ⊢
            exact this
          · have := ihm (i + 1) (dJ p l x) (by omega)
            rw [hs, if_neg (fun hc => by rw [hf] at hc; cases hc.1)] at this ⊢
            exact this
        · exact absurd h h'
      · rw [List.drop_of_length_le (by omega)]; rfl
  refine qt (T.length + 1) _ _ ⟨T, hT ▸ xc p hb, ?_⟩
  have := loop T.length 0 [] (by omega)
  rw [List.drop_zero, hT] at this
  rw [hT]
  exact this
end Go.Proofs.YtiknldgpnhikhaaGreat
namespace Go.Proofs.YtiknldgpnhikhaaGreat
open Go.RowKit Lx Sx
set_option maxRecDepth 100000
set_option maxHeartbeats 1000000
theorem yu {p : List Tree} {M : Int} {w : List UInt8} (hp : bG p = true) (h0 : 0 ≤ M) (h1 : M < p.length) (hb : kbulk p ≤ 100000000) (hw : w.length ≤ 1000000000) : ma p M w (aY p M w).1 (aY p M w).2.1 (aY p M w).2.2 :=
  rS_link_Lookup 0 _ _ _ _ _ _ ⟨_, r7 p (by omega), fun h => (by rw [hp] at h; cases h), fun h => ⟨_, _, _, tp h0 h1 (by omega) hw, rfl, rfl, rfl⟩⟩
theorem tu : ∀ (k : Nat) (z : Int) (ks : List Tree) (i : Nat), i + k ≤ 1000000000 → fW (k + 1) z ks i ((i + k : Nat) : Int) (bH k (.node z [] [] ks)) 0
  | 0, z, ks, i, h => mJ 0 _ _ _ _ _ _ ⟨fun h => by omega, fun _ => ⟨rfl, rfl⟩⟩
  | k + 1, z, ks, i, h => by
    have := tu k 8 [.node z [] [] ks] (i + 1) (by omega)
    rw [t5, show i + 1 + k = i + (k + 1) by omega] at this
    exact mJ (k + 1) _ _ _ _ _ _ ⟨fun _ => ⟨by omega, this⟩, fun h => by omega⟩
theorem rm {seen : List (Int × Int)} {l : List ((Int × Int) × Bool)} (h : ∀ k, mlook k l = if k ∈ seen then some true else none) (a : Int × Int) : ∀ k, mlook k (mput a true l) = if k ∈ a :: seen then some true else none := fun k => by
  rw [kQ, h k]
  by_cases e : k = a
  · rw [if_pos e, if_pos (by simp [e])]
  · rw [if_neg e]
    by_cases e2 : k ∈ seen
    · rw [if_pos e2, if_pos (by simp [e2])]
    · rw [if_neg e2, if_neg (by simp [e, e2])]
theorem ji {p : List Tree} {seen : List (Int × Int)} {i d : Nat} {t a : Tree} (h : jD p seen) (h1 : p[i]? = some t) (h2 : t.kids[d]? = some a) (h3 : ((i : Int), (d : Int)) ∉ seen) : jD p (((i : Int), (d : Int)) :: seen) :=
  ⟨List.nodup_cons.2 ⟨h3, h.1⟩, fun x hx => by
    rcases List.mem_cons.1 hx with rfl | hx
    · have := sn (j := 0) h1 h2; simpa using this
    · exact h.2 x hx⟩
theorem zM {p : List Tree} (hp : bG p = true) (hb : kbulk p ≤ 10000000) : ∀ (f : Nat) (seen : List (Int × Int)) (n : Nat) (M : Int) (u : Tree) (b : Bool) (a1 a2 : Int) (l : List ((Int × Int) × Bool)), jD p seen → kbulk p + 1 ≤ f + seen.length → tyK u → u.kind ≠ 8 → n ≤ 10000000 + eT (me p) seen → (∀ k, mlook k l = if k ∈ seen then some true else none) → (u.kind = 9 → b = (aY p M u.text).2.2 ∧ (b = true → a1 = (aY p M u.text).1 ∧ a2 = (aY p M u.text).2.1)) → ∃ m, cX m p (dC p) u n b a1 a2 l (fM p f seen n M u).1 (fM p f seen n M u).2
  | 0, seen, n, M, u, b, a1, a2, l, hs, hf, _, _, _, _, _ => by
    have := jT hs; omega
  | f + 1, seen, n, M, u, b, a1, a2, l, hs, hf, hu, h8, hn, hl, hq => by
    have hss := qD hs
    by_cases h9 : u.kind = 9
    · obtain ⟨q1, q2⟩ := hq h9
      rw [fM, if_pos h9]
      by_cases hfd : (aY p M u.text).2.2 = false
      · rw [if_pos hfd]
        rw [hfd] at q1
        exact ⟨1, hJ 0 _ _ _ _ _ _ _ _ _ _ ⟨fun _ => ⟨fun _ => ⟨rfl, rfl⟩, fun h => (by rw [q1] at h; cases h)⟩, fun h => absurd h9 h⟩⟩
      · rw [if_neg hfd]
        have hfd' : (aY p M u.text).2.2 = true := by simpa using hfd
        rw [hfd'] at q1
        obtain ⟨e1, e2⟩ := q2 q1
        subst q1
        obtain ⟨i, d, t, a, b', g1, g2, g3, g4, g5, g6, g7⟩ := mu hp h9 hu.1 hfd'
        rw [g1] at e1 ⊢
        rw [g2] at e2 ⊢
        subst e1 e2
        by_cases hm : ((i : Int), (d : Int)) ∈ seen
        · rw [if_pos hm]
          have hlk := hl ((i : Int), (d : Int))
          rw [if_pos hm] at hlk
          exact ⟨1, hJ 0 _ _ _ _ _ _ _ _ _ _ ⟨fun _ => ⟨fun h => (by cases h), fun _ => ⟨fun h => (by rw [hlk] at h; cases h), fun d1 h => ⟨fun _ => ⟨rfl, rfl⟩, fun h' => (by rw [hlk] at h; cases h; cases h')⟩⟩⟩, fun h => absurd h9 h⟩⟩
        · rw [if_neg hm]
          have hlk := hl ((i : Int), (d : Int))
          rw [if_neg hm] at hlk
          have hal := mA g3 g4 g6
          rw [hal]
          obtain ⟨t1, t2, _⟩ := j4 b' g7
          have hs' := ji hs g3 g4 hm
          have hl' := rm hl ((i : Int), (d : Int))
          have hsum : eT (me p) (((i : Int), (d : Int)) :: seen) = lisK b' + eT (me p) seen := by simp only [eT, me, hal]
          have hss' := qD hs'
          have hbb : tbulk b' ≤ 1000000000 := by
            have := dz g3
            have := bE g4
            have := bE (t := a) (i := 0) (u := b') (by rw [g6]; rfl)
            omega
          have hlo := rF hp ((i : Int), (d : Int))
          rw [qi g3 g4 g5, hal] at hlo
          have step : ∀ m, ((mlook ((i : Int), (d : Int)) (dC p) = none) → cX m p (dC p) (leafK b') ((n : Int) + (lisK b' : Nat)) false 0 0 (mput ((i : Int), (d : Int)) true l) (fM p f (((i : Int), (d : Int)) :: seen) (n + lisK b') i (leafK b')).1 (fM p f (((i : Int), (d : Int)) :: seen) (n + lisK b') i (leafK b')).2) ∧ (∀ (d3 : GTypesAlias), mlook ((i : Int), (d : Int)) (dC p) = some d3 → cX m p (dC p) (leafK b') ((n : Int) + (lisK b' : Nat)) true d3.module d3.def_ (mput ((i : Int), (d : Int)) true l) (fM p f (((i : Int), (d : Int)) :: seen) (n + lisK b') i (leafK b')).1 (fM p f (((i : Int), (d : Int)) :: seen) (n + lisK b') i (leafK b')).2) → ∃ m, cX m p (dC p) u n true i d l (fM p f (((i : Int), (d : Int)) :: seen) (n + lisK b') i (leafK b')).1 (fM p f (((i : Int), (d : Int)) :: seen) (n + lisK b') i (leafK b')).2 := fun m hk => by
            have h2 : iC (m + 1) p (dC p) u n i d l (fM p f (((i : Int), (d : Int)) :: seen) (n + lisK b') i (leafK b')).1 (fM p f (((i : Int), (d : Int)) :: seen) (n + lisK b') i (leafK b')).2 :=
              rL2_types_Expand m _ _ _ _ _ _ _ _ _ ⟨i, rfl, t, g3, d, rfl, a, g4, b', by rw [g6]; rfl, leafK b', _, rJ g7 hbb, by unfold InI; omega, hk.1, hk.2⟩
            exact ⟨m + 2, hJ (m + 1) _ _ _ _ _ _ _ _ _ _ ⟨fun _ => ⟨fun h => (by cases h), fun _ => ⟨fun _ => h2, fun d1 h => ⟨fun _ => (by rw [hlk] at h; cases h), fun _ => (by rw [hlk] at h; cases h)⟩⟩⟩, fun h => absurd h9 h⟩⟩
          have ih := fun (b : Bool) (a1 a2 : Int) => zM hp hb f (((i : Int), (d : Int)) :: seen) (n + lisK b') i (leafK b') b a1 a2 _ hs' (by simp only [List.length_cons]; omega) t1 t2 (by omega) hl'
          rw [show (n : Int) + ((lisK b' : Nat) : Int) = ((n + lisK b' : Nat) : Int) by omega] at step
          cases hmm : mlook ((i : Int), (d : Int)) (dC p) with
          | none =>
            rw [hmm] at hlo
            obtain ⟨m, hm⟩ := ih false 0 0 (fun h9' => ⟨(by
              cases hx : (aY p (i : Int) (leafK b').text).2.2 with
              | false => rfl
              | true => (rw [if_pos ⟨h9', hx⟩] at hlo; cases hlo)), fun h => (by cases h)⟩)
            rw [hmm] at step
            exact step m ⟨fun _ => hm, fun d3 h => (by cases h)⟩
          | some v =>
            rw [hmm] at hlo
            simp only [Option.map_some] at hlo
            split at hlo
            · rename_i hc
              simp only [Option.some.injEq, Prod.mk.injEq] at hlo
              obtain ⟨m, hm⟩ := ih true v.module v.def_ (fun _ => ⟨hc.2.symm, fun _ => hlo⟩)
              rw [hmm] at step
              exact step m ⟨fun h => (by cases h), fun d3 h => (by cases h; exact hm)⟩
            · cases hlo
    · rw [fM, if_neg h9]
      have := tu n u.kind [] 0 (by omega)
      rw [Nat.zero_add] at this
      exact ⟨n + 2, hJ (n + 1) _ _ _ _ _ _ _ _ _ _ ⟨fun h => absurd h h9, fun _ => this⟩⟩
def fo (p : List Tree) (M : Int) (t : Tree) : Tree × Int := if bG p = true ∧ 0 ≤ M ∧ M < p.length ∧ ga t.kind = true ∧ shapeK t = true then fM p (kbulk p + 1) [] (lisK t) M (leafK t) else (lN, 5)
theorem lA {p : List Tree} (hb : kbulk p ≤ 10000000) (M : Int) {t : Tree} (ht : tbulk t ≤ 10000000) : dt p M t (fo p M t).1 (fo p M t).2 := by
  by_cases hG : bG p = true ∧ 0 ≤ M ∧ M < p.length ∧ ga t.kind = true ∧ shapeK t = true
  · have hty : tyK t := ⟨hG.2.2.2.2, hG.2.2.2.1⟩
    have hk : 5 ≤ t.kind ∧ t.kind ≤ 9 := by simpa [ga] using hG.2.2.2.1
    obtain ⟨t1, t2, _⟩ := j4 t hty
    obtain ⟨b1, b2⟩ := iZ t
    have hlx := cd (leafK t)
    rw [fo, if_pos hG]
    have hnd : jD p [] := ⟨List.nodup_nil, fun x h => (by cases h)⟩
    by_cases h9 : (leafK t).kind = 9
    · obtain ⟨m, hm⟩ := zM hG.1 hb (kbulk p + 1) [] (lisK t) M (leafK t) (aY p M (leafK t).text).2.2 (aY p M (leafK t).text).1 (aY p M (leafK t).text).2.1 [] hnd (by simp) t1 t2 (by omega) (fun k => by simp [mlook]) (fun _ => ⟨rfl, fun _ => ⟨rfl, rfl⟩⟩)
      exact kZ m _ _ _ _ _ ⟨_, ib p (by omega), fun h => (by rw [hG.1] at h; cases h), fun _ => ⟨fun h => by omega, fun _ => ⟨fun h => by omega, fun _ => ⟨fun h => by omega, fun _ => ⟨fun h => by omega, fun _ => ⟨_, mO t (by omega), fun h => (by rw [hG.2.2.2.2] at h; cases h), fun _ => ⟨leafK t, _, rJ hty (by omega), fun _ => ⟨_, _, _, yu hG.1 hG.2.1 hG.2.2.1 (by omega) (by omega), _, so hG.1 (by omega), hm⟩, fun h => absurd h9 h⟩⟩⟩⟩⟩⟩⟩
    · have := tu (lisK t) (leafK t).kind [] 0 (by omega)
      rw [Nat.zero_add] at this
      rw [fM, if_neg h9]
      exact kZ (lisK t + 1) _ _ _ _ _ ⟨_, ib p (by omega), fun h => (by rw [hG.1] at h; cases h), fun _ => ⟨fun h => by omega, fun _ => ⟨fun h => by omega, fun _ => ⟨fun h => by omega, fun _ => ⟨fun h => by omega, fun _ => ⟨_, mO t (by omega), fun h => (by rw [hG.2.2.2.2] at h; cases h), fun _ => ⟨leafK t, _, rJ hty (by omega), fun h => absurd h h9, fun _ => this⟩⟩⟩⟩⟩⟩⟩
  · rw [fo, if_neg hG]
    refine kZ 0 _ _ _ _ _ ⟨_, ib p (by omega), fun _ => ⟨rfl, rfl⟩, fun h1 => ⟨fun _ => ⟨rfl, rfl⟩, fun h2 => ⟨fun _ => ⟨rfl, rfl⟩, fun h3 => ⟨fun _ => ⟨rfl, rfl⟩, fun h4 => ⟨fun _ => ⟨rfl, rfl⟩, fun h5 => ⟨_, mO t (by omega), fun _ => ⟨rfl, rfl⟩, fun h6 => absurd ⟨h1, by omega, by omega, ?_, h6⟩ hG⟩⟩⟩⟩⟩⟩
    simp [ga]; omega
def fS (p : List Tree) (s : Int × Int) : Nat → List (Int × Int) → Option (Int × Int) → Bool
  | 0, _, _ => false
  | _ + 1, _, none => false
  | f + 1, seen, some a => if a = s then true else if a ∈ seen then false else fS p s f (a :: seen) (dB p a)
theorem xg {p : List Tree} {k a : Int × Int} (h : dB p k = some a) : ∃ (i d : Nat) (t x : Tree), a = ((i : Int), (d : Int)) ∧ p[i]? = some t ∧ t.kids[d]? = some x := by
  unfold dB at h
  split at h
  · split at h
    · cases h
    · split at h
      · cases h
      · split at h
        · rename_i hc
          simp only [Option.some.injEq] at h
          obtain ⟨i, d, t, u, a1, a2, a3, a4⟩ := zi hc.2.2
          exact ⟨i, d, t, u, by rw [← h, a1, a2], a3, a4⟩
        · cases h
  · cases h
theorem xZ {p : List Tree} (hp : bG p = true) (hb : kbulk p ≤ 10000000) (s1 s2 : Int) : ∀ (f : Nat) (seen : List (Int × Int)) (k : Int × Int) (b : Bool) (a1 a2 : Int) (l : List ((Int × Int) × Bool)), jD p seen → kbulk p + 1 ≤ f + seen.length → (s1, s2) ∉ seen → (∀ k, mlook k l = if k ∈ seen then some true else none) → (if b then some (a1, a2) else none) = dB p k → ∃ m, bI m s1 s2 (dC p) a1 a2 b l (fS p (s1, s2) f seen (dB p k))
  | 0, seen, k, b, a1, a2, l, hs, hf, _, _, _ => by
    have := jT hs; omega
  | f + 1, seen, k, b, a1, a2, l, hs, hf, hns, hl, hq => by
    cases b with
    | false =>
      simp at hq
      rw [← hq, fS]
      exact ⟨1, gb 0 _ _ _ _ _ _ _ _ ⟨fun h => (by cases h), fun _ => rfl⟩⟩
    | true =>
      simp at hq
      obtain ⟨i, d, t, x, e, g3, g4⟩ := xg hq.symm
      cases e
      rw [← hq, fS]
      have hlk := hl ((i : Int), (d : Int))
      by_cases hm : ((i : Int), (d : Int)) ∈ seen
      · rw [if_pos hm] at hlk
        rw [if_neg (fun (e : ((i : Int), (d : Int)) = (s1, s2)) => hns (by rw [← e]; exact hm)), if_pos hm]
        exact ⟨1, gb 0 _ _ _ _ _ _ _ _ ⟨fun _ => ⟨fun h => (by rw [hlk] at h; cases h), fun d1 h => ⟨fun h' => (by rw [hlk] at h; cases h; cases h'), fun _ => rfl⟩⟩, fun h => (by cases h)⟩⟩
      · rw [if_neg hm] at hlk
        by_cases hst : ((i : Int), (d : Int)) = (s1, s2)
        · rw [if_pos hst]
          have h1 : gq 1 s1 s2 (dC p) i d l true := l7 0 _ _ _ _ _ _ _ ⟨fun _ => rfl, fun h => absurd (Prod.mk.inj hst) h⟩
          exact ⟨2, gb 1 _ _ _ _ _ _ _ _ ⟨fun _ => ⟨fun _ => h1, fun d1 h => (by rw [hlk] at h; cases h)⟩, fun h => (by cases h)⟩⟩
        · rw [if_neg hst, if_neg hm]
          have hst' : ¬ ((i : Int) = s1 ∧ (d : Int) = s2) := fun h => hst (by rw [h.1, h.2])
          have hs' := ji hs g3 g4 hm
          have hl' := rm hl ((i : Int), (d : Int))
          have hlo := rF hp ((i : Int), (d : Int))
          have ih := fun (b : Bool) (a1 a2 : Int) => xZ hp hb s1 s2 f (((i : Int), (d : Int)) :: seen) ((i : Int), (d : Int)) b a1 a2 _ hs' (by simp only [List.length_cons]; omega) (fun h => by
            rcases List.mem_cons.1 h with h | h
            · exact hst h.symm
            · exact hns h) hl'
          have fin : ∀ m, ((mlook ((i : Int), (d : Int)) (dC p) = none) → bI m s1 s2 (dC p) 0 0 false (mput ((i : Int), (d : Int)) true l) (fS p (s1, s2) f (((i : Int), (d : Int)) :: seen) (dB p ((i : Int), (d : Int))))) ∧ (∀ (d2 : GTypesAlias), mlook ((i : Int), (d : Int)) (dC p) = some d2 → bI m s1 s2 (dC p) d2.module d2.def_ true (mput ((i : Int), (d : Int)) true l) (fS p (s1, s2) f (((i : Int), (d : Int)) :: seen) (dB p ((i : Int), (d : Int))))) → ∃ m, bI m s1 s2 (dC p) i d true l (fS p (s1, s2) f (((i : Int), (d : Int)) :: seen) (dB p ((i : Int), (d : Int)))) := fun m hk =>
            ⟨m + 2, gb (m + 1) _ _ _ _ _ _ _ _ ⟨fun _ => ⟨fun _ => l7 m _ _ _ _ _ _ _ ⟨fun h => absurd h hst', fun _ => hk⟩, fun d1 h => (by rw [hlk] at h; cases h)⟩, fun h => (by cases h)⟩⟩
          cases hmm : mlook ((i : Int), (d : Int)) (dC p) with
          | none =>
            rw [hmm] at hlo fin
            obtain ⟨m, hm⟩ := ih false 0 0 (by rw [← hlo]; rfl)
            exact fin m ⟨fun _ => hm, fun d3 h => (by cases h)⟩
          | some v =>
            rw [hmm] at hlo fin
            obtain ⟨m, hm⟩ := ih true v.module v.def_ (by rw [← hlo]; rfl)
            exact fin m ⟨fun h => (by cases h), fun d3 h => (by cases h; exact hm)⟩
def jL (p : List Tree) (M D : Int) : Bool := if bG p = true ∧ 0 ≤ M ∧ 0 ≤ D then fS p (M, D) (kbulk p + 1) [] (dB p (M, D)) else false
theorem lP {p : List Tree} (hb : kbulk p ≤ 10000000) (M D : Int) : dh p M D (jL p M D) := by
  have nn : (∀ t x, 0 ≤ M → 0 ≤ D → p[M.toNat]? = some t → t.kids[D.toNat]? = some x → False) → jL p M D = false := fun h => by
    unfold jL
    split
    · rename_i hc
      have : dB p (M, D) = none := by
        unfold dB
        rw [if_pos ⟨hc.2.1, hc.2.2⟩]
        split
        · rfl
        · rename_i t ht
          split
          · rfl
          · rename_i x hx
            exact (h t x hc.2.1 hc.2.2 ht hx).elim
      rw [this, fS]
    · rfl
  have hlen := fun (t : Tree) (ht : p[M.toNat]? = some t) => (List.getElem?_eq_some_iff.1 ht).1
  by_cases hp : bG p = true
  · by_cases h0 : M < 0
    · rw [nn fun _ _ h _ _ _ => by omega]
      exact rS_types_Circular 0 _ _ _ _ ⟨_, ib p (by omega), fun _ => rfl, fun _ => ⟨fun _ => rfl, fun h => absurd h0 h⟩⟩
    by_cases h1 : ((p.length : Nat) : Int) ≤ M
    · rw [nn fun t _ _ _ ht _ => by have := hlen t ht; omega]
      exact rS_types_Circular 0 _ _ _ _ ⟨_, ib p (by omega), fun _ => rfl, fun _ => ⟨fun _ => rfl, fun _ => ⟨fun _ => rfl, fun h => absurd h1 h⟩⟩⟩
    by_cases h2 : D < 0
    · rw [nn fun _ _ _ h _ _ => by omega]
      exact rS_types_Circular 0 _ _ _ _ ⟨_, ib p (by omega), fun _ => rfl, fun _ => ⟨fun _ => rfl, fun _ => ⟨fun _ => rfl, fun _ => ⟨fun _ => rfl, fun h => absurd h2 h⟩⟩⟩⟩
    obtain ⟨t, ht, _⟩ | h' := aS p M.toNat
    · by_cases h3 : ((t.kids.length : Nat) : Int) ≤ D
      · rw [nn fun t' x _ _ ht' hx => by
          rw [ht] at ht'; cases ht'
          have := (List.getElem?_eq_some_iff.1 hx).1
          omega]
        exact rS_types_Circular 0 _ _ _ _ ⟨_, ib p (by omega), fun _ => rfl, fun _ => ⟨fun _ => rfl, fun _ => ⟨fun _ => rfl, fun _ => ⟨fun _ => rfl, fun _ => ⟨M.toNat, by omega, t, ht, fun _ => rfl, fun h => absurd h3 h⟩⟩⟩⟩⟩
      · rw [jL, if_pos ⟨hp, by omega, by omega⟩]
        have hlo := rF hp (M, D)
        have hc := fun (b : Bool) (a1 a2 : Int) => xZ hp hb M D (kbulk p + 1) [] (M, D) b a1 a2 [] ⟨List.nodup_nil, fun x h => (by cases h)⟩ (by simp) (by simp) (fun k => by simp [mlook])
        have fin : ∀ m, ((mlook (M, D) (dC p) = none) → bI m M D (dC p) 0 0 false [] (fS p (M, D) (kbulk p + 1) [] (dB p (M, D)))) ∧ (∀ (d2 : GTypesAlias), mlook (M, D) (dC p) = some d2 → bI m M D (dC p) d2.module d2.def_ true [] (fS p (M, D) (kbulk p + 1) [] (dB p (M, D)))) → dh p M D (fS p (M, D) (kbulk p + 1) [] (dB p (M, D))) := fun m hk =>
          rS_types_Circular m _ _ _ _ ⟨_, ib p (by omega), fun h => (by rw [hp] at h; cases h), fun _ => ⟨fun h => absurd h h0, fun _ => ⟨fun h => absurd h h1, fun _ => ⟨fun h => absurd h h2, fun _ => ⟨M.toNat, by omega, t, ht, fun h => absurd h h3, fun _ => ⟨_, so hp (by omega), hk⟩⟩⟩⟩⟩⟩
        cases hmm : mlook (M, D) (dC p) with
        | none =>
          rw [hmm] at hlo fin
          obtain ⟨m, hm⟩ := hc false 0 0 (by rw [← hlo]; rfl)
          exact fin m ⟨fun _ => hm, fun d3 h => (by cases h)⟩
        | some v =>
          rw [hmm] at hlo fin
          obtain ⟨m, hm⟩ := hc true v.module v.def_ (by rw [← hlo]; rfl)
          exact fin m ⟨fun h => (by cases h), fun d3 h => (by cases h; exact hm)⟩
    · omega
  · have hp' : bG p = false := by simpa using hp
    rw [jL, if_neg (fun h => hp h.1)]
    exact rS_types_Circular 0 _ _ _ _ ⟨_, ib p (by omega), fun _ => rfl, fun h => absurd h hp⟩
end Go.Proofs.YtiknldgpnhikhaaGreat
namespace Go.Proofs.YtiknldgpnhikhaaGreat
open Go.RowKit Lx Sx
set_option maxRecDepth 100000
set_option maxHeartbeats 4000000
def dp (p0 : Tree) (r0 : Tree) : Prop := aP Tryz.prog 26 [.agg (ai p0)] (.agg (ai r0))
def gU (p0 : Tree) (p1 : Tree) (r0 : Tree) : Prop := aP Tryz.prog 60 [.agg (ai p0), .agg (ai p1)] (.agg (ai r0))
def gs (p0 : (List (Int × Int))) (p1 : (Int × Int)) (r0 : Bool) : Prop := eb [0] Tryz.prog 28 [.sl 0, .agg [.int .i64 p1.1, .int .i64 p1.2]] ⟨1, [(0, .row 52 2 (List.map (fun x : Int × Int => V.agg [V.int .i64 x.1, V.int .i64 x.2]) p0))]⟩ (fun u G => u = .bool r0 ∧ G = ⟨1, [(0, .row 52 2 (List.map (fun x : Int × Int => V.agg [V.int .i64 x.1, V.int .i64 x.2]) p0))]⟩)
def cM (p0 : (List Tree)) (p1 : Int) (p2 : Tree) (r0 : Tree) (r1 : Int) : Prop := aP Tryz.prog 13 [.row 4 (kidsV p0), .int .i64 p1, .agg (ai p2)] (.tup [.agg (ai r0), .int .i64 r1])
def lf (p0 : (List Tree)) (p1 : Int) (p2 : Tree) (r0 : Tree) (r1 : Int) : Prop := aP Tryz.prog 34 [.row 4 (kidsV p0), .int .i64 p1, .agg (ai p2)] (.tup [.agg (ai r0), .int .i64 r1])
def ef (p0 : (List Tree)) (p1 : Int) (p2 : Int) (r0 : Bool) : Prop := aP Tryz.prog 10 [.row 4 (kidsV p0), .int .i64 p1, .int .i64 p2] (.bool r0)
def ip (p0 : (List Tree)) (p1 : Int) (p2 : Tree) (p3 : Int) (p4 : Tree) (r0 : Bool) : Prop := aP Tryz.prog 17 [.row 4 (kidsV p0), .int .i64 p1, .agg (ai p2), .int .i64 p3, .agg (ai p4)] (.bool r0)
def en (p0 : Tree) (r0 : Tree) : Prop := aP Tryz.prog 59 [.agg (ai p0)] (.agg (ai r0))
def cf (p0 : Tree) (p1 : Tree) (r0 : Bool) : Prop := aP Tryz.prog 14 [.agg (ai p0), .agg (ai p1)] (.bool r0)
def fF (p0 : Tree) (r0 : (List Tree)) : Prop := aP Tryz.prog 11 [.agg (ai p0)] (.row 4 (kidsV r0))
def f5 (p0 : Tree) (r0 : Int) : Prop := aP Tryz.prog 36 [.agg (ai p0)] (.int .i64 r0)
def dY (m : Nat) (t1v1 : Tree) (r0 : Tree) : Prop := ∀ (K : Ctx) (j1 : Nat), au K [] → m ≤ j1 → Go Tryz.prog K (bodyPost Tryz.prog Tryz.f26 (SP K (fun u _ => u = .agg (ai r0)))) (.code (cL (cK (cA (cB (ae Tryz.f26)))))) [.loop (cL (cK (cA (cB (ae Tryz.f26))))) j1, .blk 0, .seq (cB (cB (ae Tryz.f26)))] 11 (mkF 11 0 [(1, .ptr 0 0), (2, .ptr 1 0)]) ⟨2, [(1, .var 29 [.int .i64 0, .str [], .nils, .nils]), (0, .var 29 (ai t1v1))]⟩
theorem lb (m : Nat) (p0 : Tree) (r0 : Tree) (h : dY m p0 r0) : dp p0 r0 := by
 refine ⟨rfl, rfl, ?_⟩
 refine ak 11 [] Tryz.func26 rfl rfl rfl (aA rfl) fun K hK => ?_
 refine gR 8 rfl ?_
 refine go_loop m ?_
 exact gJ (h K _ hK (by omega)) [0, 1] [] rfl hK ⟨⟨_, rfl, .rfl⟩, ⟨_, rfl, .rfl⟩, trivial⟩ ⟨⟨_, rfl, ⟨rfl, ah.rfl⟩⟩, ⟨⟨_, rfl, ⟨rfl, ah.rfl⟩⟩, trivial⟩⟩ rfl
theorem eZ (m : Nat) (t1v1 : Tree) (r0 : Tree) (h : ((t1v1.kind = 8) → ∃ (t1_1 : Tree), t1v1.kids[0]? = some t1_1 ∧ dY m t1_1 r0) ∧ ((t1v1.kind ≠ 8) → t1v1 = r0)) : dY (m + 1) t1v1 r0 := by
 intro K j1 hK hj1
 obtain ⟨j1, rfl⟩ : ∃ j, j1 = j + 1 := ⟨j1 - 1, by omega⟩
 refine gR 8 rfl ?_
 refine gB 5 rfl rfl rfl (fun hd => ?_) (fun hd => ?_)
 replace hd := (eq_of_beq hd)
 replace h := h.1 hd
 refine gR 7 rfl ?_
 obtain ⟨t1_1, hxt1_1, h⟩ := h
 refine gY (aK (am hxt1_1) aa rfl rfl rfl rfl) rfl rfl ?_
 refine gR 4 rfl ?_
 refine aq ?_
 exact gJ (h K _ hK (by omega)) [0, 1] [] rfl hK ⟨⟨_, rfl, .rfl⟩, ⟨_, rfl, .rfl⟩, trivial⟩ ⟨⟨_, rfl, ⟨rfl, ah.rfl⟩⟩, ⟨⟨_, rfl, ⟨rfl, ah.rfl⟩⟩, trivial⟩⟩ rfl
 replace hd := (ne_of_beq_false hd)
 replace h := h.2 hd
 refine gR 3 rfl ?_
 refine av ?_
 refine gR 9 rfl ?_
 subst h
 refine ab (F' := (mkF 11 0 [(2, .ptr 0 0)])) (H' := ⟨1, [(0, .var 29 [.int .i64 t1v1.kind, .str t1v1.text, .row 1 (List.map V.str t1v1.leads), .row 4 (kidsV t1v1.kids)])]⟩) [1] [] rfl hK ⟨⟨_, rfl, .rfl⟩, trivial⟩ ⟨⟨_, rfl, ⟨rfl, ah.rfl⟩⟩, trivial⟩ rfl ?_
 exact ac aa (rs := [.cell 2 29]) rfl rfl rfl
theorem mf (m : Nat) (p0 : Tree) (p1 : Tree) (r0 : Tree) (h : ((p0.kind ≠ 8) → p1 = r0) ∧ ((p0.kind = 8) → ∃ (t0_1 : Tree), p0.kids[0]? = some t0_1 ∧ ∃ (t0_2 : Tree), gU t0_1 p1 t0_2 ∧ (Tree.node 8 [] [] [t0_2]) = r0)) : gU p0 p1 r0 := by
 refine ⟨rfl, rfl, ?_⟩
 refine ak 17 [] Tryz.func60 rfl rfl rfl (aA rfl) fun K hK => ?_
 refine gR 3 rfl ?_
 refine gFP 0 rfl rfl rfl rfl ?_
 refine gR 1 rfl ?_
 refine gFP 1 rfl rfl rfl rfl ?_
 refine gR 11 rfl ?_
 refine gB 7 rfl rfl rfl (fun hd => ?_) (fun hd => ?_)
 replace hd := (fe hd)
 replace h := h.1 hd
 refine gR 9 rfl ?_
 subst h
 refine ab (F' := (mkF 17 0 [(4, .ptr 0 0)])) (H' := ⟨1, [(0, .var 29 [.int .i64 p1.kind, .str p1.text, .row 1 (List.map V.str p1.leads), .row 4 (kidsV p1.kids)])]⟩) [2] [] rfl hK ⟨⟨_, rfl, .rfl⟩, trivial⟩ ⟨⟨_, rfl, ⟨rfl, ah.rfl⟩⟩, trivial⟩ rfl ?_
 exact ac aa (rs := [.cell 4 29]) rfl rfl rfl
 replace hd := (dA hd)
 replace h := h.2 hd
 refine gR 4 rfl ?_
 refine gDs [] 8 9 rfl (by kernel_rfl) (by kernel_rfl) ?_
 refine gDr [(0, 2), (1, 2)] (by kernel_rfl) rfl rfl ?_
 obtain ⟨t0_1, hxt0_1, h⟩ := h
 refine gYd 2 rfl (by kernel_rfl) (aK (am hxt0_1) aa rfl rfl rfl rfl) rfl rfl ?_
 refine gDr [(3, 2), (4, 0)] (by kernel_rfl) rfl rfl ?_
 obtain ⟨t0_2, hs2, h⟩ := h
 refine br 5 hs2 (by kernel_rfl) rfl (by kernel_rfl) rfl rfl .rfl rfl rfl ?_
 refine gDr [(6, 0)] (by kernel_rfl) rfl rfl ?_
 refine gHR 3 (kidsV [t0_2]) rfl (jb t0_2) rfl ?_
 refine gDr [(7, 0), (8, 1)] (by kernel_rfl) rfl rfl ?_
 refine gDe (by kernel_rfl) ?_
 refine gR 2 rfl ?_
 refine gFR 3 rfl (co _) rfl rfl ?_
 subst h
 refine ab (F' := (mkF 17 0 [(4, .ptr 0 0)])) (H' := ⟨1, [(0, .var 29 [.int .i64 ((Tree.node 8 [] [] [t0_2]).kind), .str ((Tree.node 8 [] [] [t0_2]).text), .row 1 (List.map V.str ((Tree.node 8 [] [] [t0_2]).leads)), .row 4 (kidsV ((Tree.node 8 [] [] [t0_2]).kids))])]⟩) [2] [] rfl hK ⟨⟨_, rfl, .rfl⟩, trivial⟩ ⟨⟨_, rfl, ⟨rfl, (.cons .rfl (.cons .rfl (.cons (.nil 1) (.cons .rfl .nil))))⟩⟩, trivial⟩ rfl ?_
 exact ac aa (rs := [.cell 4 29]) rfl rfl rfl
def gf (m : Nat) (p0 : (List (Int × Int))) (p1 : (Int × Int)) (i1v1 : Nat) (r0 : Bool) : Prop := ∀ (K : Ctx) (j1 : Nat), au K [0] → m ≤ j1 → Go Tryz.prog K (bodyPost Tryz.prog Tryz.f28 (SP K (fun u G => u = .bool r0 ∧ G = ⟨1, [(0, .row 52 2 (List.map (fun x : Int × Int => V.agg [V.int .i64 x.1, V.int .i64 x.2]) p0))]⟩))) (.code (cL (cK (cB (cA (cB (ae Tryz.f28))))))) [.loop (cL (cK (cB (cA (cB (ae Tryz.f28)))))) j1, .blk 0, .seq (cB (cB (ae Tryz.f28)))] 18 (mkF 18 0 [(0, .sl 0), (3, .box [.int .i64 p1.1, .int .i64 p1.2] 0), (5, .int .i64 ((i1v1 : Nat) : Int))]) ⟨1, [(0, .row 52 2 (List.map (fun x : Int × Int => V.agg [V.int .i64 x.1, V.int .i64 x.2]) p0))]⟩
theorem pd (m : Nat) (p0 : (List (Int × Int))) (p1 : (Int × Int)) (r0 : Bool) (h : gf m p0 p1 0 r0) : gs p0 p1 r0 := by
 refine ak 18 [0] Tryz.func28 rfl rfl rfl (aA rfl) fun K hK => ?_
 refine gR 3 rfl ?_
 refine gFP 1 rfl rfl rfl rfl ?_
 refine gR 10 rfl ?_
 refine go_loop m ?_
 exact gJ (h K _ hK (by omega)) [0] [0] rfl hK ⟨⟨_, rfl, .rfl⟩, ⟨_, rfl, .rfl⟩, ⟨_, rfl, .rfl⟩, trivial⟩ ⟨⟨_, rfl, ⟨rfl, rfl, (an _ (fun x : Int × Int => V.agg [V.int .i64 x.1, V.int .i64 x.2]) (fun _ => rfl) p0).symm⟩⟩, trivial⟩ rfl
theorem ll (m : Nat) (p0 : (List (Int × Int))) (p1 : (Int × Int)) (i1v1 : Nat) (r0 : Bool) (h : ((i1v1 < p0.length) → ∃ (x1_1 : (Int × Int)), p0[i1v1]? = some x1_1 ∧ ((x1_1.1 = p1.1 ∧ x1_1.2 = p1.2) → true = r0) ∧ ((¬ (x1_1.1 = p1.1 ∧ x1_1.2 = p1.2)) → gf m p0 p1 (i1v1 + 1) r0)) ∧ ((¬ i1v1 < p0.length) → false = r0)) : gf (m + 1) p0 p1 i1v1 r0 := by
 intro K j1 hK hj1
 obtain ⟨j1, rfl⟩ : ∃ j, j1 = j + 1 := ⟨j1 - 1, by omega⟩
 refine gR 6 rfl ?_
 refine gV 8 (.int .i64 ((p0.length : Nat) : Int)) rfl (bc (aV (fun x : Int × Int => V.agg [V.int .i64 x.1, V.int .i64 x.2]) _)) rfl ?_
 refine gLO 0 rfl (aV (fun x : Int × Int => V.agg [V.int .i64 x.1, V.int .i64 x.2]) _) fun hl3 => ?_
 refine gR 3 rfl ?_
 refine gB 9 rfl rfl rfl (fun hd => ?_) (fun hd => ?_)
 replace hd := (cO hd)
 replace h := h.1 hd
 refine gR 6 rfl ?_
 refine gDs [0] 5 6 rfl (by kernel_rfl) (by kernel_rfl) ?_
 refine gDr [(0, 2), (1, 2)] (by kernel_rfl) rfl rfl ?_
 obtain ⟨x1_1, hxx1_1, h⟩ := h
 refine gYd 2 rfl (by kernel_rfl) (yIO aa rfl rfl rfl rfl (by have := (mapget (f := (fun x : Int × Int => V.agg [V.int .i64 x.1, V.int .i64 x.2])) hxx1_1); exact (List.getElem?_eq_some_iff.1 this).1)) rfl rfl ?_
 refine CC 3 rfl (by kernel_rfl) rfl aa rfl rfl rfl (mapget (f := (fun x : Int × Int => V.agg [V.int .i64 x.1, V.int .i64 x.2])) hxx1_1) rfl rfl ?_
 refine gDr [(4, 0)] (by kernel_rfl) rfl rfl ?_
 refine dF (v := .bool (x1_1.1 == p1.1 && x1_1.2 == p1.2)) 5 rfl (by kernel_rfl) (Bu (neg := false) Tryz.underlying52 Tryz.underlying3 (by kernel_rfl) (by kernel_rfl) (by kernel_rfl) rfl rfl) rfl rfl ?_
 refine gDe (by kernel_rfl) ?_
 refine gR 1 rfl ?_
 refine gB 17 rfl rfl rfl (fun hd => ?_) (fun hd => ?_)
 replace hd := (zq hd)
 replace h := h.1 hd
 refine gR 9 rfl ?_
 refine aM ?_
 refine gR 2 rfl ?_
 subst h
 refine ab (F' := (mkF 18 0 [(4, .bool true)])) (H' := ⟨1, [(0, .row 52 2 (List.map (fun x : Int × Int => V.agg [V.int .i64 x.1, V.int .i64 x.2]) p0))]⟩) [0] [0] rfl hK ⟨⟨_, rfl, .rfl⟩, trivial⟩ ⟨⟨_, rfl, ⟨rfl, rfl, (an _ (fun x : Int × Int => V.agg [V.int .i64 x.1, V.int .i64 x.2]) (fun _ => rfl) p0).symm⟩⟩, trivial⟩ rfl ?_
 exact aC [] aa (rs := [.tmp 4]) rfl rfl ⟨rfl, rfl⟩
 replace hd := (zx hd)
 replace h := h.2 hd
 refine gR 7 rfl ?_
 refine gV 11 (.int .i64 ((i1v1 + 1 : Nat) : Int)) rfl (ar (by have := hl3; omega) (by omega)) rfl ?_
 refine gR 2 rfl ?_
 refine aq ?_
 exact gJ (h K _ hK (by omega)) [0] [0] rfl hK ⟨⟨_, rfl, .rfl⟩, ⟨_, rfl, .rfl⟩, ⟨_, rfl, .rfl⟩, trivial⟩ ⟨⟨_, rfl, ⟨rfl, rfl, (an _ (fun x : Int × Int => V.agg [V.int .i64 x.1, V.int .i64 x.2]) (fun _ => rfl) p0).symm⟩⟩, trivial⟩ rfl
 replace hd := (cI hd)
 replace h := h.2 hd
 refine gR 3 rfl ?_
 refine av ?_
 refine gR 8 rfl ?_
 subst h
 refine ab (F' := (mkF 18 0 [(4, .bool false)])) (H' := ⟨1, [(0, .row 52 2 (List.map (fun x : Int × Int => V.agg [V.int .i64 x.1, V.int .i64 x.2]) p0))]⟩) [0] [0] rfl hK ⟨⟨_, rfl, .rfl⟩, trivial⟩ ⟨⟨_, rfl, ⟨rfl, rfl, (an _ (fun x : Int × Int => V.agg [V.int .i64 x.1, V.int .i64 x.2]) (fun _ => rfl) p0).symm⟩⟩, trivial⟩ rfl ?_
 exact aC [] aa (rs := [.tmp 4]) rfl rfl ⟨rfl, rfl⟩
theorem j6 (m : Nat) (p0 : (List Tree)) (p1 : Int) (p2 : Tree) (r0 : Tree) (r1 : Int) (h : ∃ (b0_1 : Bool), eG p0 b0_1 ∧ ((b0_1 = false) → (Tree.node 0 [] [] []) = r0 ∧ 5 = r1) ∧ ((b0_1 = true) → ((p1 < 0) → (Tree.node 0 [] [] []) = r0 ∧ 5 = r1) ∧ ((¬ p1 < 0) → ((((p0.length : Nat) : Int) ≤ p1) → (Tree.node 0 [] [] []) = r0 ∧ 5 = r1) ∧ ((¬ ((p0.length : Nat) : Int) ≤ p1) → ∃ (b0_2 : Bool), dG p2.kind b0_2 ∧ ((b0_2 = false) → (Tree.node 0 [] [] []) = r0 ∧ 5 = r1) ∧ ((b0_2 = true) → ∃ (b0_3 : Bool), cj p2 b0_3 ∧ ((b0_3 = false) → (Tree.node 0 [] [] []) = r0 ∧ 5 = r1) ∧ ((b0_3 = true) → ∃ (t0_4 : Tree), ∃ (n0_5 : Int), lf p0 p1 p2 t0_4 n0_5 ∧ t0_4 = r0 ∧ n0_5 = r1)))))) : cM p0 p1 p2 r0 r1 := by
 refine ⟨rfl, rfl, ?_⟩
 refine ak 39 [] Tryz.func13 rfl rfl rfl (aA rfl) fun K hK => ?_
 refine gR 3 rfl ?_
 refine gFP 0 rfl rfl rfl rfl ?_
 refine gR 8 rfl ?_
 obtain ⟨b0_1, hs6, h⟩ := h
 refine gC0 hs6 (by kernel_rfl) rfl rfl .rfl rfl ?_
 refine gR 2 rfl ?_
 refine gB 11 rfl rfl rfl (fun hd => ?_) (fun hd => ?_)
 refine gT 10 rfl hd rfl ?_
 replace hd := (bM hd)
 replace h := h.1 hd
 refine gR 32 rfl ?_
 obtain ⟨rfl, rfl⟩ := h
 refine ab (F' := (mkF 39 0 [(6, .ptr 0 0), (7, .int .i64 5)])) (H' := ⟨1, [(0, .var 29 [.int .i64 ((Tree.node 0 [] [] []).kind), .str ((Tree.node 0 [] [] []).text), .row 1 (List.map V.str ((Tree.node 0 [] [] []).leads)), .row 4 (kidsV ((Tree.node 0 [] [] []).kids))])]⟩) [1] [] rfl hK ⟨⟨_, rfl, .rfl⟩, ⟨_, rfl, .rfl⟩, trivial⟩ ⟨⟨_, rfl, ⟨rfl, (.cons .rfl (.cons .rfl (.cons (.nil 1) (.cons (.nil 4) .nil))))⟩⟩, trivial⟩ rfl ?_
 exact ac aa (rs := [.cell 6 29, .tmp 7]) rfl rfl rfl
 refine gF 10 rfl hd rfl ?_
 replace hd := (bL hd)
 replace h := h.2 hd
 refine gR 4 rfl ?_
 refine gB 15 rfl rfl rfl (fun hd => ?_) (fun hd => ?_)
 refine gT 14 rfl hd rfl ?_
 replace hd := (of_decide_eq_true hd)
 replace h := h.1 hd
 refine gR 28 rfl ?_
 obtain ⟨rfl, rfl⟩ := h
 refine ab (F' := (mkF 39 0 [(6, .ptr 0 0), (7, .int .i64 5)])) (H' := ⟨1, [(0, .var 29 [.int .i64 ((Tree.node 0 [] [] []).kind), .str ((Tree.node 0 [] [] []).text), .row 1 (List.map V.str ((Tree.node 0 [] [] []).leads)), .row 4 (kidsV ((Tree.node 0 [] [] []).kids))])]⟩) [1] [] rfl hK ⟨⟨_, rfl, .rfl⟩, ⟨_, rfl, .rfl⟩, trivial⟩ ⟨⟨_, rfl, ⟨rfl, (.cons .rfl (.cons .rfl (.cons (.nil 1) (.cons (.nil 4) .nil))))⟩⟩, trivial⟩ rfl ?_
 exact ac aa (rs := [.cell 6 29, .tmp 7]) rfl rfl rfl
 refine gF 14 rfl hd rfl ?_
 replace hd := (of_decide_eq_false hd)
 replace h := h.2 hd
 refine gR 3 rfl ?_
 refine gV 18 (.int .i64 ((p0.length : Nat) : Int)) rfl (bc (aD _)) rfl ?_
 refine gLB 17 rfl (aD _) fun hl7 => ?_
 refine gR 3 rfl ?_
 refine gB 21 rfl rfl rfl (fun hd => ?_) (fun hd => ?_)
 refine gT 20 rfl hd rfl ?_
 replace hd := (of_decide_eq_true hd)
 replace h := h.1 hd
 refine gR 22 rfl ?_
 obtain ⟨rfl, rfl⟩ := h
 refine ab (F' := (mkF 39 0 [(6, .ptr 0 0), (7, .int .i64 5)])) (H' := ⟨1, [(0, .var 29 [.int .i64 ((Tree.node 0 [] [] []).kind), .str ((Tree.node 0 [] [] []).text), .row 1 (List.map V.str ((Tree.node 0 [] [] []).leads)), .row 4 (kidsV ((Tree.node 0 [] [] []).kids))])]⟩) [1] [] rfl hK ⟨⟨_, rfl, .rfl⟩, ⟨_, rfl, .rfl⟩, trivial⟩ ⟨⟨_, rfl, ⟨rfl, (.cons .rfl (.cons .rfl (.cons (.nil 1) (.cons (.nil 4) .nil))))⟩⟩, trivial⟩ rfl ?_
 exact ac aa (rs := [.cell 6 29, .tmp 7]) rfl rfl rfl
 refine gF 20 rfl hd rfl ?_
 replace hd := (of_decide_eq_false hd)
 replace h := h.2 hd
 refine gR 2 rfl ?_
 obtain ⟨b0_2, hs8, h⟩ := h
 refine gC0 hs8 (by kernel_rfl) rfl rfl .rfl rfl ?_
 refine gR 3 rfl ?_
 refine gB 27 rfl rfl rfl (fun hd => ?_) (fun hd => ?_)
 refine gT 26 rfl hd rfl ?_
 replace hd := (bM hd)
 replace h := h.1 hd
 refine gR 16 rfl ?_
 obtain ⟨rfl, rfl⟩ := h
 refine ab (F' := (mkF 39 0 [(6, .ptr 0 0), (7, .int .i64 5)])) (H' := ⟨1, [(0, .var 29 [.int .i64 ((Tree.node 0 [] [] []).kind), .str ((Tree.node 0 [] [] []).text), .row 1 (List.map V.str ((Tree.node 0 [] [] []).leads)), .row 4 (kidsV ((Tree.node 0 [] [] []).kids))])]⟩) [1] [] rfl hK ⟨⟨_, rfl, .rfl⟩, ⟨_, rfl, .rfl⟩, trivial⟩ ⟨⟨_, rfl, ⟨rfl, (.cons .rfl (.cons .rfl (.cons (.nil 1) (.cons (.nil 4) .nil))))⟩⟩, trivial⟩ rfl ?_
 exact ac aa (rs := [.cell 6 29, .tmp 7]) rfl rfl rfl
 refine gF 26 rfl hd rfl ?_
 replace hd := (bL hd)
 replace h := h.2 hd
 refine gR 1 rfl ?_
 obtain ⟨b0_3, hs9, h⟩ := h
 refine gC0 hs9 (by kernel_rfl) rfl rfl .rfl rfl ?_
 refine gR 4 rfl ?_
 refine gB 31 rfl rfl rfl (fun hd => ?_) (fun hd => ?_)
 replace hd := (bM hd)
 replace h := h.1 hd
 refine gR 10 rfl ?_
 obtain ⟨rfl, rfl⟩ := h
 refine ab (F' := (mkF 39 0 [(6, .ptr 0 0), (7, .int .i64 5)])) (H' := ⟨1, [(0, .var 29 [.int .i64 ((Tree.node 0 [] [] []).kind), .str ((Tree.node 0 [] [] []).text), .row 1 (List.map V.str ((Tree.node 0 [] [] []).leads)), .row 4 (kidsV ((Tree.node 0 [] [] []).kids))])]⟩) [1] [] rfl hK ⟨⟨_, rfl, .rfl⟩, ⟨_, rfl, .rfl⟩, trivial⟩ ⟨⟨_, rfl, ⟨rfl, (.cons .rfl (.cons .rfl (.cons (.nil 1) (.cons (.nil 4) .nil))))⟩⟩, trivial⟩ rfl ?_
 exact ac aa (rs := [.cell 6 29, .tmp 7]) rfl rfl rfl
 replace hd := (bL hd)
 replace h := h.2 hd
 refine gR 8 rfl ?_
 obtain ⟨t0_4, n0_5, hs10, h⟩ := h
 refine gC0 hs10 (by kernel_rfl) rfl rfl .rfl rfl ?_
 refine gR 7 rfl ?_
 obtain ⟨rfl, rfl⟩ := h
 refine ab (F' := (mkF 39 0 [(6, .ptr 0 0), (7, .int .i64 n0_5)])) (H' := ⟨1, [(0, .var 29 [.int .i64 t0_4.kind, .str t0_4.text, .row 1 (List.map V.str t0_4.leads), .row 4 (kidsV t0_4.kids)])]⟩) [1] [] rfl hK ⟨⟨_, rfl, .rfl⟩, ⟨_, rfl, .rfl⟩, trivial⟩ ⟨⟨_, rfl, ⟨rfl, ah.rfl⟩⟩, trivial⟩ rfl ?_
 exact ac aa (rs := [.cell 6 29, .tmp 7]) rfl rfl rfl
def eX (m : Nat) (p0 : (List Tree)) (z1v1 : Int) (t1v2 : Tree) (l1v3 : (List (Int × Int))) (r0 : Tree) (r1 : Int) : Prop := ∀ (K : Ctx) (j1 : Nat), au K [] → m ≤ j1 → Go Tryz.prog K (bodyPost Tryz.prog Tryz.f34 (SP K (fun u _ => u = .tup [.agg (ai r0), .int .i64 r1]))) (.code (cL (cK (cA (cB (cB (cB (ae Tryz.f34)))))))) [.loop (cL (cK (cA (cB (cB (cB (ae Tryz.f34))))))) j1, .blk 0, .seq (cB (cB (cB (cB (ae Tryz.f34)))))] 62 (mkF 62 0 [(0, .row 4 (kidsV p0)), (1, .int .i64 z1v1), (6, .ptr 0 0), (8, .ptr 1 0), (9, .sl 2)]) ⟨3, [(2, .row 52 2 (List.map (fun x : Int × Int => V.agg [V.int .i64 x.1, V.int .i64 x.2]) l1v3)), (1, .var 29 (ai t1v2)), (0, .var 29 [.int .i64 0, .str [], .nils, .nils])]⟩
theorem oI (m : Nat) (p0 : (List Tree)) (p1 : Int) (p2 : Tree) (r0 : Tree) (r1 : Int) (h : ∃ (t0_1 : Tree), en p2 t0_1 ∧ eX m p0 p1 t0_1 ([] : List (Int × Int)) r0 r1) : lf p0 p1 p2 r0 r1 := by
 refine ⟨rfl, rfl, ?_⟩
 refine ak 62 [] Tryz.func34 rfl rfl rfl (aA rfl) fun K hK => ?_
 refine gR 3 rfl ?_
 refine gFP 0 rfl rfl rfl rfl ?_
 refine gR 7 rfl ?_
 obtain ⟨t0_1, hs15, h⟩ := h
 refine gC0 hs15 (by kernel_rfl) rfl rfl .rfl rfl ?_
 refine gR 11 rfl ?_
 refine go_loop m ?_
 refine gNS 9 52 2 rfl rfl rfl rfl ?_
 exact gJ (h K _ hK (by omega)) [1, 2, 3] [] rfl hK ⟨⟨_, rfl, .rfl⟩, ⟨_, rfl, .rfl⟩, ⟨_, rfl, .rfl⟩, ⟨_, rfl, .rfl⟩, ⟨_, rfl, .rfl⟩, trivial⟩ ⟨⟨_, rfl, ⟨rfl, rfl, rfl⟩⟩, ⟨⟨_, rfl, ⟨rfl, ah.rfl⟩⟩, ⟨⟨_, rfl, ⟨rfl, ah.rfl⟩⟩, trivial⟩⟩⟩ rfl
theorem ev (m : Nat) (p0 : (List Tree)) (z1v1 : Int) (t1v2 : Tree) (l1v3 : (List (Int × Int))) (r0 : Tree) (r1 : Int) (h : ∃ (t1_1 : Tree), dp t1v2 t1_1 ∧ ((t1_1.kind = 9) → ∃ (t1_2 : Tree), dp t1v2 t1_2 ∧ ∃ (n1_3 : Int), ∃ (n1_4 : Int), ∃ (b1_5 : Bool), fY p0 z1v1 t1_2.text n1_3 n1_4 b1_5 ∧ ((b1_5 = false) → (Tree.node 0 [] [] []) = r0 ∧ 7 = r1) ∧ ((b1_5 = true) → ∃ (b1_6 : Bool), gs l1v3 (n1_3, n1_4) b1_6 ∧ ((b1_6 = true) → (Tree.node 0 [] [] []) = r0 ∧ 19 = r1) ∧ ((b1_6 = false) → (l1v3 ++ [(n1_3, n1_4)]).length ≤ 1000000000 ∧ ∃ (k1_7 : Nat), n1_3 = ((k1_7 : Nat) : Int) ∧ ∃ (t1_8 : Tree), p0[k1_7]? = some t1_8 ∧ ∃ (k1_9 : Nat), n1_4 = ((k1_9 : Nat) : Int) ∧ ∃ (t1_10 : Tree), t1_8.kids[k1_9]? = some t1_10 ∧ ∃ (t1_11 : Tree), t1_10.kids[0]? = some t1_11 ∧ ∃ (t1_12 : Tree), en t1_11 t1_12 ∧ ∃ (t1_13 : Tree), gU t1v2 t1_12 t1_13 ∧ eX m p0 n1_3 t1_13 (l1v3 ++ [(n1_3, n1_4)]) r0 r1))) ∧ ((t1_1.kind ≠ 9) → t1v2 = r0 ∧ 0 = r1)) : eX (m + 1) p0 z1v1 t1v2 l1v3 r0 r1 := by
 intro K j1 hK hj1
 obtain ⟨j1, rfl⟩ : ∃ j, j1 = j + 1 := ⟨j1 - 1, by omega⟩
 refine gR 4 rfl ?_
 obtain ⟨t1_1, hs16, h⟩ := h
 refine gC0 hs16 (by kernel_rfl) rfl rfl .rfl rfl ?_
 refine gR 4 rfl ?_
 refine gB 18 rfl rfl rfl (fun hd => ?_) (fun hd => ?_)
 replace hd := (eq_of_beq hd)
 replace h := h.1 hd
 refine gR 9 rfl ?_
 obtain ⟨t1_2, hs17, h⟩ := h
 refine gC0 hs17 (by kernel_rfl) rfl rfl .rfl rfl ?_
 refine gR 1 rfl ?_
 obtain ⟨n1_3, n1_4, b1_5, hs18, h⟩ := h
 refine gC0 hs18 (by kernel_rfl) rfl rfl .rfl rfl ?_
 refine gR 18 rfl ?_
 refine gB 29 rfl rfl rfl (fun hd => ?_) (fun hd => ?_)
 refine gT 31 rfl hd rfl ?_
 replace hd := (bM hd)
 replace h := h.1 hd
 refine gR 12 rfl ?_
 refine aM ?_
 refine gR 2 rfl ?_
 obtain ⟨rfl, rfl⟩ := h
 refine ab (F' := (mkF 62 0 [(6, .ptr 0 0), (7, .int .i64 7)])) (H' := ⟨1, [(0, .var 29 [.int .i64 ((Tree.node 0 [] [] []).kind), .str ((Tree.node 0 [] [] []).text), .row 1 (List.map V.str ((Tree.node 0 [] [] []).leads)), .row 4 (kidsV ((Tree.node 0 [] [] []).kids))])]⟩) [0] [] rfl hK ⟨⟨_, rfl, .rfl⟩, ⟨_, rfl, .rfl⟩, trivial⟩ ⟨⟨_, rfl, ⟨rfl, (.cons .rfl (.cons .rfl (.cons (.nil 1) (.cons (.nil 4) .nil))))⟩⟩, trivial⟩ rfl ?_
 exact ac aa (rs := [.cell 6 29, .tmp 7]) rfl rfl rfl
 refine gF 31 rfl hd rfl ?_
 replace hd := (bL hd)
 replace h := h.2 hd
 refine gR 7 rfl ?_
 obtain ⟨b1_6, hs19, h⟩ := h
 refine gC hs19 [2] (by kernel_rfl) rfl rfl .rfl ⟨⟨_, rfl, ⟨rfl, rfl, (an _ (fun x : Int × Int => V.agg [V.int .i64 x.1, V.int .i64 x.2]) (fun _ => rfl) l1v3).symm⟩⟩, trivial⟩ rfl ?_
 rintro _ _ ⟨rfl, rfl⟩
 refine gHR 2 (List.map (fun x : Int × Int => V.agg [V.int .i64 x.1, V.int .i64 x.2]) l1v3) rfl (an _ (fun x : Int × Int => V.agg [V.int .i64 x.1, V.int .i64 x.2]) (fun _ => rfl) l1v3) rfl ?_
 refine gR 3 rfl ?_
 refine gB 33 rfl rfl rfl (fun hd => ?_) (fun hd => ?_)
 refine gT 38 rfl hd rfl ?_
 replace h := h.1 hd
 refine gR 12 rfl ?_
 refine aM ?_
 refine gR 2 rfl ?_
 obtain ⟨rfl, rfl⟩ := h
 refine ab (F' := (mkF 62 0 [(6, .ptr 0 0), (7, .int .i64 19)])) (H' := ⟨1, [(0, .var 29 [.int .i64 ((Tree.node 0 [] [] []).kind), .str ((Tree.node 0 [] [] []).text), .row 1 (List.map V.str ((Tree.node 0 [] [] []).leads)), .row 4 (kidsV ((Tree.node 0 [] [] []).kids))])]⟩) [0] [] rfl hK ⟨⟨_, rfl, .rfl⟩, ⟨_, rfl, .rfl⟩, trivial⟩ ⟨⟨_, rfl, ⟨rfl, (.cons .rfl (.cons .rfl (.cons (.nil 1) (.cons (.nil 4) .nil))))⟩⟩, trivial⟩ rfl ?_
 exact ac aa (rs := [.cell 6 29, .tmp 7]) rfl rfl rfl
 refine gF 38 rfl hd rfl ?_
 replace h := h.2 hd
 refine gR 11 rfl ?_
 obtain ⟨hb, h⟩ := h
 refine gDo (.repl 2 (.row 52 2 (List.map (fun x : Int × Int => V.agg [V.int .i64 x.1, V.int .i64 x.2]) (l1v3 ++ [(n1_3, n1_4)])))) (bN aa rfl rfl rfl rfl rfl (apM (fun x : Int × Int => V.agg [V.int .i64 x.1, V.int .i64 x.2]) l1v3 (n1_3, n1_4)) (by rw [aV]; exact hb)) (okR rfl) rfl rfl rfl ?_
 refine gR 4 rfl ?_
 refine gDs [1] 14 15 rfl (by kernel_rfl) (by kernel_rfl) ?_
 refine gDr [(0, 3), (1, 2), (2, 2)] (by kernel_rfl) rfl rfl ?_
 obtain ⟨k1_7, ek1_7, h⟩ := h
 refine gV 48 (.int .i64 ((k1_7 : Nat) : Int)) rfl (cw ek1_7) rfl ?_
 obtain ⟨t1_8, hxt1_8, h⟩ := h
 refine gYd 3 rfl (by kernel_rfl) (aK (am hxt1_8) aa rfl rfl rfl rfl) rfl rfl ?_
 refine gDr [(4, 2), (5, 2), (6, 0)] (by kernel_rfl) rfl rfl ?_
 obtain ⟨k1_9, ek1_9, h⟩ := h
 refine gV 52 (.int .i64 ((k1_9 : Nat) : Int)) rfl (cw ek1_9) rfl ?_
 obtain ⟨t1_10, hxt1_10, h⟩ := h
 refine dF 7 rfl (by kernel_rfl) (aK (am hxt1_10) aa rfl rfl rfl rfl) rfl rfl ?_
 refine gDr [(8, 0), (9, 0)] (by kernel_rfl) rfl rfl ?_
 obtain ⟨t1_11, hxt1_11, h⟩ := h
 refine dF 10 rfl (by kernel_rfl) (aK (am hxt1_11) aa rfl rfl rfl rfl) rfl rfl ?_
 refine gDr [(11, 0)] (by kernel_rfl) rfl rfl ?_
 obtain ⟨t1_12, hs20, h⟩ := h
 refine br 12 hs20 (by kernel_rfl) rfl (by kernel_rfl) rfl rfl .rfl rfl rfl ?_
 obtain ⟨t1_13, hs21, h⟩ := h
 refine br 13 hs21 (by kernel_rfl) rfl (by kernel_rfl) rfl rfl .rfl rfl rfl ?_
 refine gDr [(14, 1)] (by kernel_rfl) rfl rfl ?_
 refine gDe (by kernel_rfl) ?_
 refine gR 6 rfl ?_
 refine aq ?_
 exact gJ (h K _ hK (by omega)) [0, 1, 5] [] rfl hK ⟨⟨_, rfl, .rfl⟩, ⟨_, rfl, .rfl⟩, ⟨_, rfl, .rfl⟩, ⟨_, rfl, .rfl⟩, ⟨_, rfl, .rfl⟩, trivial⟩ ⟨⟨_, rfl, ⟨rfl, rfl, (an _ (fun x : Int × Int => V.agg [V.int .i64 x.1, V.int .i64 x.2]) (fun _ => rfl) (l1v3 ++ [(n1_3, n1_4)])).symm⟩⟩, ⟨⟨_, rfl, ⟨rfl, ah.rfl⟩⟩, ⟨⟨_, rfl, ⟨rfl, ah.rfl⟩⟩, trivial⟩⟩⟩ rfl
 replace hd := (ne_of_beq_false hd)
 replace h := h.2 hd
 refine gR 3 rfl ?_
 refine av ?_
 refine gR 10 rfl ?_
 obtain ⟨rfl, rfl⟩ := h
 refine ab (F' := (mkF 62 0 [(6, .ptr 0 0), (7, .int .i64 0)])) (H' := ⟨1, [(0, .var 29 [.int .i64 t1v2.kind, .str t1v2.text, .row 1 (List.map V.str t1v2.leads), .row 4 (kidsV t1v2.kids)])]⟩) [0] [] rfl hK ⟨⟨_, rfl, .rfl⟩, ⟨_, rfl, .rfl⟩, trivial⟩ ⟨⟨_, rfl, ⟨rfl, ah.rfl⟩⟩, trivial⟩ rfl ?_
 exact ac aa (rs := [.cell 6 29, .tmp 7]) rfl rfl rfl
def cU (m : Nat) (p0 : (List Tree)) (p1 : Int) (p2 : Int) (z1v1 : Int) (z1v2 : Int) (l1v3 : (List (Int × Int))) (r0 : Bool) : Prop := ∀ (K : Ctx) (j1 : Nat), au K [] → m ≤ j1 → Go Tryz.prog K (bodyPost Tryz.prog Tryz.f10 (SP K (fun u _ => u = .bool r0))) (.code (cL (cK (cB (cB (cB (cB (ae Tryz.f10)))))))) [.loop (cL (cK (cB (cB (cB (cB (ae Tryz.f10))))))) j1, .blk 0] 102 (mkF 102 0 [(0, .row 4 (kidsV p0)), (1, .int .i64 p1), (2, .int .i64 p2), (7, .ptr 0 0), (8, .sl 1)]) ⟨2, [(1, .row 52 2 (List.map (fun x : Int × Int => V.agg [V.int .i64 x.1, V.int .i64 x.2]) l1v3)), (0, .var 52 [.int .i64 z1v1, .int .i64 z1v2])]⟩
def fJ (m : Nat) (p0 : (List Tree)) (p1 : Int) (p2 : Int) (t1_6 : Tree) (z2v1 : Int) (z2v2 : Int) (l2v3 : (List (Int × Int))) (r0 : Bool) : Prop := ∀ (K : Ctx) (j1 : Nat), au K [] → m ≤ j1 → Go Tryz.prog K (bodyPost Tryz.prog Tryz.f10 (SP K (fun u _ => u = .bool r0))) (.ex .normal) [.seq (cB (cK (cL (cK (cB (cB (cB (cB (ae Tryz.f10))))))))), .blk 1, .loop (cL (cK (cB (cB (cB (cB (ae Tryz.f10))))))) j1, .blk 0] 102 (mkF 102 0 [(0, .row 4 (kidsV p0)), (1, .int .i64 p1), (2, .int .i64 p2), (7, .ptr 0 0), (8, .sl 1), (9, .ptr 2 0)]) ⟨3, [(2, .var 29 (ai t1_6)), (1, .row 52 2 (List.map (fun x : Int × Int => V.agg [V.int .i64 x.1, V.int .i64 x.2]) l2v3)), (0, .var 52 [.int .i64 z2v1, .int .i64 z2v2])]⟩
theorem bT (m : Nat) (p0 : (List Tree)) (p1 : Int) (p2 : Int) (r0 : Bool) (h : ∃ (b0_1 : Bool), eG p0 b0_1 ∧ ((b0_1 = false) → false = r0) ∧ ((b0_1 = true) → ((p1 < 0) → false = r0) ∧ ((¬ p1 < 0) → ((((p0.length : Nat) : Int) ≤ p1) → false = r0) ∧ ((¬ ((p0.length : Nat) : Int) ≤ p1) → ((p2 < 0) → false = r0) ∧ ((¬ p2 < 0) → ∃ (k0_2 : Nat), p1 = ((k0_2 : Nat) : Int) ∧ ∃ (t0_3 : Tree), p0[k0_2]? = some t0_3 ∧ ((((t0_3.kids.length : Nat) : Int) ≤ p2) → false = r0) ∧ ((¬ ((t0_3.kids.length : Nat) : Int) ≤ p2) → ∃ (k0_4 : Nat), p1 = ((k0_4 : Nat) : Int) ∧ ∃ (t0_5 : Tree), p0[k0_4]? = some t0_5 ∧ ∃ (k0_6 : Nat), p2 = ((k0_6 : Nat) : Int) ∧ ∃ (t0_7 : Tree), t0_5.kids[k0_6]? = some t0_7 ∧ ((t0_7.kind ≠ 3) → false = r0) ∧ ((t0_7.kind = 3) → cU m p0 p1 p2 p1 p2 ([] : List (Int × Int)) r0))))))) : ef p0 p1 p2 r0 := by
 refine ⟨rfl, rfl, ?_⟩
 refine ak 102 [] Tryz.func10 rfl rfl rfl (aA rfl) fun K hK => ?_
 refine gR 9 rfl ?_
 obtain ⟨b0_1, hs19, h⟩ := h
 refine gC0 hs19 (by kernel_rfl) rfl rfl .rfl rfl ?_
 refine gR 2 rfl ?_
 refine gB 16 rfl rfl rfl (fun hd => ?_) (fun hd => ?_)
 refine gT 15 rfl hd rfl ?_
 replace hd := (bM hd)
 replace h := h.1 hd
 refine gR 45 rfl ?_
 subst h
 refine ab (F' := (mkF 102 0 [(6, .bool false)])) (H' := ⟨0, []⟩) [] [] rfl hK ⟨⟨_, rfl, .rfl⟩, trivial⟩ trivial rfl ?_
 exact ac aa (rs := [.tmp 6]) rfl rfl rfl
 refine gF 15 rfl hd rfl ?_
 replace hd := (bL hd)
 replace h := h.2 hd
 refine gR 4 rfl ?_
 refine gB 20 rfl rfl rfl (fun hd => ?_) (fun hd => ?_)
 refine gT 19 rfl hd rfl ?_
 replace hd := (of_decide_eq_true hd)
 replace h := h.1 hd
 refine gR 41 rfl ?_
 subst h
 refine ab (F' := (mkF 102 0 [(6, .bool false)])) (H' := ⟨0, []⟩) [] [] rfl hK ⟨⟨_, rfl, .rfl⟩, trivial⟩ trivial rfl ?_
 exact ac aa (rs := [.tmp 6]) rfl rfl rfl
 refine gF 19 rfl hd rfl ?_
 replace hd := (of_decide_eq_false hd)
 replace h := h.2 hd
 refine gR 3 rfl ?_
 refine gV 23 (.int .i64 ((p0.length : Nat) : Int)) rfl (bc (aD _)) rfl ?_
 refine gLB 22 rfl (aD _) fun hl20 => ?_
 refine gR 3 rfl ?_
 refine gB 26 rfl rfl rfl (fun hd => ?_) (fun hd => ?_)
 refine gT 25 rfl hd rfl ?_
 replace hd := (of_decide_eq_true hd)
 replace h := h.1 hd
 refine gR 35 rfl ?_
 subst h
 refine ab (F' := (mkF 102 0 [(6, .bool false)])) (H' := ⟨0, []⟩) [] [] rfl hK ⟨⟨_, rfl, .rfl⟩, trivial⟩ trivial rfl ?_
 exact ac aa (rs := [.tmp 6]) rfl rfl rfl
 refine gF 25 rfl hd rfl ?_
 replace hd := (of_decide_eq_false hd)
 replace h := h.2 hd
 refine gR 4 rfl ?_
 refine gB 30 rfl rfl rfl (fun hd => ?_) (fun hd => ?_)
 refine gT 29 rfl hd rfl ?_
 replace hd := (of_decide_eq_true hd)
 replace h := h.1 hd
 refine gR 31 rfl ?_
 subst h
 refine ab (F' := (mkF 102 0 [(6, .bool false)])) (H' := ⟨0, []⟩) [] [] rfl hK ⟨⟨_, rfl, .rfl⟩, trivial⟩ trivial rfl ?_
 exact ac aa (rs := [.tmp 6]) rfl rfl rfl
 refine gF 29 rfl hd rfl ?_
 replace hd := (of_decide_eq_false hd)
 replace h := h.2 hd
 refine gR 3 rfl ?_
 obtain ⟨k0_2, ek0_2, h⟩ := h
 refine gV 33 (.int .i64 ((k0_2 : Nat) : Int)) rfl (cw ek0_2) rfl ?_
 obtain ⟨t0_3, hxt0_3, h⟩ := h
 refine gY (aK (am hxt0_3) aa rfl rfl rfl rfl) rfl rfl ?_
 refine gR 3 rfl ?_
 refine gV 37 (.int .i64 ((t0_3.kids.length : Nat) : Int)) rfl (bc (aD _)) rfl ?_
 refine gLB 36 rfl (aD _) fun hl21 => ?_
 refine gR 3 rfl ?_
 refine gB 40 rfl rfl rfl (fun hd => ?_) (fun hd => ?_)
 refine gT 39 rfl hd rfl ?_
 replace hd := (of_decide_eq_true hd)
 replace h := h.1 hd
 refine gR 21 rfl ?_
 subst h
 refine ab (F' := (mkF 102 0 [(6, .bool false)])) (H' := ⟨0, []⟩) [] [] rfl hK ⟨⟨_, rfl, .rfl⟩, trivial⟩ trivial rfl ?_
 exact ac aa (rs := [.tmp 6]) rfl rfl rfl
 refine gF 39 rfl hd rfl ?_
 replace hd := (of_decide_eq_false hd)
 replace h := h.2 hd
 refine gR 2 rfl ?_
 obtain ⟨k0_4, ek0_4, h⟩ := h
 refine gV 42 (.int .i64 ((k0_4 : Nat) : Int)) rfl (cw ek0_4) rfl ?_
 obtain ⟨t0_5, hxt0_5, h⟩ := h
 refine gY (aK (am hxt0_5) aa rfl rfl rfl rfl) rfl rfl ?_
 refine gR 3 rfl ?_
 obtain ⟨k0_6, ek0_6, h⟩ := h
 refine gV 46 (.int .i64 ((k0_6 : Nat) : Int)) rfl (cw ek0_6) rfl ?_
 obtain ⟨t0_7, hxt0_7, h⟩ := h
 refine gY (aK (am hxt0_7) aa rfl rfl rfl rfl) rfl rfl ?_
 refine gR 6 rfl ?_
 refine gB 51 rfl rfl rfl (fun hd => ?_) (fun hd => ?_)
 replace hd := (fe hd)
 replace h := h.1 hd
 refine gR 8 rfl ?_
 subst h
 refine ab (F' := (mkF 102 0 [(6, .bool false)])) (H' := ⟨0, []⟩) [] [] rfl hK ⟨⟨_, rfl, .rfl⟩, trivial⟩ trivial rfl ?_
 exact ac aa (rs := [.tmp 6]) rfl rfl rfl
 replace hd := (dA hd)
 replace h := h.2 hd
 refine gR 12 rfl ?_
 refine ab (F' := (mkF 102 0 [(0, .row 4 (kidsV p0)), (1, .int .i64 p1), (2, .int .i64 p2), (7, .ptr 0 0)])) (H' := ⟨1, [(0, .var 52 [.int .i64 p1, .int .i64 p2])]⟩) [0] [] rfl hK ⟨⟨_, rfl, .rfl⟩, ⟨_, rfl, .rfl⟩, ⟨_, rfl, .rfl⟩, ⟨_, rfl, .rfl⟩, trivial⟩ ⟨⟨_, rfl, ⟨rfl, ah.rfl⟩⟩, trivial⟩ rfl ?_
 refine gR 6 rfl ?_
 refine go_loop m ?_
 refine gNS 8 52 2 rfl rfl rfl rfl ?_
 exact gJ (h K _ hK (by omega)) [0, 1] [] rfl hK ⟨⟨_, rfl, .rfl⟩, ⟨_, rfl, .rfl⟩, ⟨_, rfl, .rfl⟩, ⟨_, rfl, .rfl⟩, ⟨_, rfl, .rfl⟩, trivial⟩ ⟨⟨_, rfl, ⟨rfl, rfl, rfl⟩⟩, ⟨⟨_, rfl, ⟨rfl, ah.rfl⟩⟩, trivial⟩⟩ rfl
theorem m5 (m : Nat) (p0 : (List Tree)) (p1 : Int) (p2 : Int) (z1v1 : Int) (z1v2 : Int) (l1v3 : (List (Int × Int))) (r0 : Bool) (h : ∃ (k1_1 : Nat), z1v1 = ((k1_1 : Nat) : Int) ∧ ∃ (t1_2 : Tree), p0[k1_1]? = some t1_2 ∧ ∃ (k1_3 : Nat), z1v2 = ((k1_3 : Nat) : Int) ∧ ∃ (t1_4 : Tree), t1_2.kids[k1_3]? = some t1_4 ∧ ∃ (t1_5 : Tree), t1_4.kids[0]? = some t1_5 ∧ ∃ (t1_6 : Tree), dp t1_5 t1_6 ∧ fJ m p0 p1 p2 t1_6 z1v1 z1v2 l1v3 r0) : cU (m + 1) p0 p1 p2 z1v1 z1v2 l1v3 r0 := by
 intro K j1 hK hj1
 obtain ⟨j1, rfl⟩ : ∃ j, j1 = j + 1 := ⟨j1 - 1, by omega⟩
 refine gR 2 rfl ?_
 refine gDs [0] 15 16 rfl (by kernel_rfl) (by kernel_rfl) ?_
 refine gDr [(0, 2)] (by kernel_rfl) rfl rfl ?_
 refine gYd 1 rfl (by kernel_rfl) (yIP (len := 2) (e := 3) (sz := 1) aa rfl rfl rfl rfl rfl rfl rfl rfl) rfl rfl ?_
 refine gDr [(2, 3)] (by kernel_rfl) rfl rfl ?_
 obtain ⟨k1_1, ek1_1, h⟩ := h
 refine gV 57 (.int .i64 ((k1_1 : Nat) : Int)) rfl (cw ek1_1) rfl ?_
 obtain ⟨t1_2, hxt1_2, h⟩ := h
 refine gYd 3 rfl (by kernel_rfl) (aK (am hxt1_2) aa rfl rfl rfl rfl) rfl rfl ?_
 refine gDr [(4, 2), (5, 2)] (by kernel_rfl) rfl rfl ?_
 refine gYd 6 rfl (by kernel_rfl) (yIP (len := 2) (e := 3) (sz := 1) aa rfl rfl rfl rfl rfl rfl rfl rfl) rfl rfl ?_
 refine gDr [(7, 3)] (by kernel_rfl) rfl rfl ?_
 obtain ⟨k1_3, ek1_3, h⟩ := h
 refine gV 62 (.int .i64 ((k1_3 : Nat) : Int)) rfl (cw ek1_3) rfl ?_
 obtain ⟨t1_4, hxt1_4, h⟩ := h
 refine gYd 8 rfl (by kernel_rfl) (aK (am hxt1_4) aa rfl rfl rfl rfl) rfl rfl ?_
 refine gDr [(9, 2), (10, 2)] (by kernel_rfl) rfl rfl ?_
 obtain ⟨t1_5, hxt1_5, h⟩ := h
 refine gYd 11 rfl (by kernel_rfl) (aK (am hxt1_5) aa rfl rfl rfl rfl) rfl rfl ?_
 refine gDr [(12, 2)] (by kernel_rfl) rfl rfl ?_
 obtain ⟨t1_6, hs22, h⟩ := h
 apply mG (i := 13) (j := 14) (by kernel_rfl) rfl rfl rfl rfl
 exact (jZ (L' := [0]) (by kernel_rfl) rfl rfl (qV hs22 .rfl [0] rfl) (.inl rfl))
 exact (mT aa rfl rfl)
 refine gDr [(14, 0), (15, 1)] (by kernel_rfl) rfl rfl ?_
 refine gDe (by kernel_rfl) ?_
 exact gJ (h K _ hK (by omega)) [0, 1, 2] [] rfl hK ⟨⟨_, rfl, .rfl⟩, ⟨_, rfl, .rfl⟩, ⟨_, rfl, .rfl⟩, ⟨_, rfl, .rfl⟩, ⟨_, rfl, .rfl⟩, ⟨_, rfl, .rfl⟩, trivial⟩ ⟨⟨_, rfl, ⟨rfl, ah.rfl⟩⟩, ⟨⟨_, rfl, ⟨rfl, rfl, (an _ (fun x : Int × Int => V.agg [V.int .i64 x.1, V.int .i64 x.2]) (fun _ => rfl) l1v3).symm⟩⟩, ⟨⟨_, rfl, ⟨rfl, ah.rfl⟩⟩, trivial⟩⟩⟩ rfl
 refine br 13 hs22 (by kernel_rfl) rfl (by kernel_rfl) rfl rfl .rfl rfl rfl ?_
 refine gDr [(15, 1)] (by kernel_rfl) rfl rfl ?_
 refine gDe (by kernel_rfl) ?_
 exact gJ (h K _ hK (by omega)) [0, 1, 2] [] rfl hK ⟨⟨_, rfl, .rfl⟩, ⟨_, rfl, .rfl⟩, ⟨_, rfl, .rfl⟩, ⟨_, rfl, .rfl⟩, ⟨_, rfl, .rfl⟩, ⟨_, rfl, .rfl⟩, trivial⟩ ⟨⟨_, rfl, ⟨rfl, ah.rfl⟩⟩, ⟨⟨_, rfl, ⟨rfl, rfl, (an _ (fun x : Int × Int => V.agg [V.int .i64 x.1, V.int .i64 x.2]) (fun _ => rfl) l1v3).symm⟩⟩, ⟨⟨_, rfl, ⟨rfl, ah.rfl⟩⟩, trivial⟩⟩⟩ rfl
theorem cC (m : Nat) (p0 : (List Tree)) (p1 : Int) (p2 : Int) (t1_6 : Tree) (z2v1 : Int) (z2v2 : Int) (l2v3 : (List (Int × Int))) (r0 : Bool) (h : ((t1_6.kind ≠ 9) → false = r0) ∧ ((t1_6.kind = 9) → ∃ (n2_1 : Int), ∃ (n2_2 : Int), ∃ (b2_3 : Bool), fY p0 z2v1 t1_6.text n2_1 n2_2 b2_3 ∧ ((b2_3 = false) → false = r0) ∧ ((b2_3 = true) → ((n2_1 = p1 ∧ n2_2 = p2) → true = r0) ∧ ((¬ (n2_1 = p1 ∧ n2_2 = p2)) → ∃ (b2_4 : Bool), gs l2v3 (n2_1, n2_2) b2_4 ∧ ((b2_4 = true) → false = r0) ∧ ((b2_4 = false) → (l2v3 ++ [(n2_1, n2_2)]).length ≤ 1000000000 ∧ cU m p0 p1 p2 n2_1 n2_2 (l2v3 ++ [(n2_1, n2_2)]) r0))))) : fJ (m + 1) p0 p1 p2 t1_6 z2v1 z2v2 l2v3 r0 := by
 intro K j1 hK hj1
 obtain ⟨j1, rfl⟩ : ∃ j, j1 = j + 1 := ⟨j1 - 1, by omega⟩
 refine gR 9 rfl ?_
 refine gB 71 rfl rfl rfl (fun hd => ?_) (fun hd => ?_)
 replace hd := (fe hd)
 replace h := h.1 hd
 refine gR 9 rfl ?_
 refine aM ?_
 refine gR 1 rfl ?_
 subst h
 refine ab (F' := (mkF 102 0 [(6, .bool false)])) (H' := ⟨0, []⟩) [] [] rfl hK ⟨⟨_, rfl, .rfl⟩, trivial⟩ trivial rfl ?_
 exact ac aa (rs := [.tmp 6]) rfl rfl rfl
 replace hd := (dA hd)
 replace h := h.2 hd
 refine gR 6 rfl ?_
 refine gY (yIP (len := 2) (e := 3) (sz := 1) aa rfl rfl rfl rfl rfl rfl rfl rfl) rfl rfl ?_
 refine gR 3 rfl ?_
 obtain ⟨n2_1, n2_2, b2_3, hs23, h⟩ := h
 refine gC0 hs23 (by kernel_rfl) rfl rfl .rfl rfl ?_
 refine gR 26 rfl ?_
 refine gB 85 rfl rfl rfl (fun hd => ?_) (fun hd => ?_)
 refine gT 87 rfl hd rfl ?_
 replace hd := (bM hd)
 replace h := h.1 hd
 refine gR 10 rfl ?_
 refine aM ?_
 refine gR 1 rfl ?_
 subst h
 refine ab (F' := (mkF 102 0 [(6, .bool false)])) (H' := ⟨0, []⟩) [] [] rfl hK ⟨⟨_, rfl, .rfl⟩, trivial⟩ trivial rfl ?_
 exact ac aa (rs := [.tmp 6]) rfl rfl rfl
 refine gF 87 rfl hd rfl ?_
 replace hd := (bL hd)
 replace h := h.2 hd
 refine gR 7 rfl ?_
 refine gY (v := .bool (n2_1 == p1 && n2_2 == p2)) (Bu (neg := false) Tryz.underlying52 Tryz.underlying3 (by kernel_rfl) (by kernel_rfl) (by kernel_rfl) rfl rfl) rfl rfl ?_
 refine gR 3 rfl ?_
 refine gB 88 rfl rfl rfl (fun hd => ?_) (fun hd => ?_)
 refine gT 93 rfl hd rfl ?_
 replace hd := (zq hd)
 replace h := h.1 hd
 refine gR 10 rfl ?_
 refine aM ?_
 refine gR 1 rfl ?_
 subst h
 refine ab (F' := (mkF 102 0 [(6, .bool true)])) (H' := ⟨0, []⟩) [] [] rfl hK ⟨⟨_, rfl, .rfl⟩, trivial⟩ trivial rfl ?_
 exact ac aa (rs := [.tmp 6]) rfl rfl rfl
 refine gF 93 rfl hd rfl ?_
 replace hd := (zx hd)
 replace h := h.2 hd
 refine gR 5 rfl ?_
 obtain ⟨b2_4, hs24, h⟩ := h
 refine gC hs24 [1] (by kernel_rfl) rfl rfl .rfl ⟨⟨_, rfl, ⟨rfl, rfl, (an _ (fun x : Int × Int => V.agg [V.int .i64 x.1, V.int .i64 x.2]) (fun _ => rfl) l2v3).symm⟩⟩, trivial⟩ rfl ?_
 rintro _ _ ⟨rfl, rfl⟩
 refine gHR 1 (List.map (fun x : Int × Int => V.agg [V.int .i64 x.1, V.int .i64 x.2]) l2v3) rfl (an _ (fun x : Int × Int => V.agg [V.int .i64 x.1, V.int .i64 x.2]) (fun _ => rfl) l2v3) rfl ?_
 refine gR 3 rfl ?_
 refine gB 94 rfl rfl rfl (fun hd => ?_) (fun hd => ?_)
 refine gT 97 rfl hd rfl ?_
 replace h := h.1 hd
 refine gR 10 rfl ?_
 refine aM ?_
 refine gR 1 rfl ?_
 subst h
 refine ab (F' := (mkF 102 0 [(6, .bool false)])) (H' := ⟨0, []⟩) [] [] rfl hK ⟨⟨_, rfl, .rfl⟩, trivial⟩ trivial rfl ?_
 exact ac aa (rs := [.tmp 6]) rfl rfl rfl
 refine gF 97 rfl hd rfl ?_
 replace h := h.2 hd
 refine gR 8 rfl ?_
 obtain ⟨hb, h⟩ := h
 refine gDo (.repl 1 (.row 52 2 (List.map (fun x : Int × Int => V.agg [V.int .i64 x.1, V.int .i64 x.2]) (l2v3 ++ [(n2_1, n2_2)])))) (bN aa rfl rfl rfl rfl rfl (apM (fun x : Int × Int => V.agg [V.int .i64 x.1, V.int .i64 x.2]) l2v3 (n2_1, n2_2)) (by rw [aV]; exact hb)) (okR rfl) rfl rfl rfl ?_
 refine gR 3 rfl ?_
 refine aq ?_
 exact gJ (h K _ hK (by omega)) [0, 5] [] rfl hK ⟨⟨_, rfl, .rfl⟩, ⟨_, rfl, .rfl⟩, ⟨_, rfl, .rfl⟩, ⟨_, rfl, .rfl⟩, ⟨_, rfl, .rfl⟩, trivial⟩ ⟨⟨_, rfl, ⟨rfl, rfl, (an _ (fun x : Int × Int => V.agg [V.int .i64 x.1, V.int .i64 x.2]) (fun _ => rfl) (l2v3 ++ [(n2_1, n2_2)])).symm⟩⟩, ⟨⟨_, rfl, ⟨rfl, ah.rfl⟩⟩, trivial⟩⟩ rfl
theorem gN (m : Nat) (p0 : (List Tree)) (p1 : Int) (p2 : Tree) (p3 : Int) (p4 : Tree) (r0 : Bool) (h : ∃ (t0_1 : Tree), ∃ (n0_2 : Int), cM p0 p1 p2 t0_1 n0_2 ∧ ∃ (t0_3 : Tree), ∃ (n0_4 : Int), cM p0 p3 p4 t0_3 n0_4 ∧ ((n0_2 = 0) → ((n0_4 = 0) → ∃ (b0_5 : Bool), cf t0_1 t0_3 b0_5 ∧ b0_5 = r0) ∧ ((n0_4 ≠ 0) → false = r0)) ∧ ((n0_2 ≠ 0) → false = r0)) : ip p0 p1 p2 p3 p4 r0 := by
 refine ⟨rfl, rfl, ?_⟩
 refine ak 40 [] Tryz.func17 rfl rfl rfl (aA rfl) fun K hK => ?_
 refine gR 3 rfl ?_
 refine gFP 0 rfl rfl rfl rfl ?_
 refine gR 1 rfl ?_
 refine gFP 1 rfl rfl rfl rfl ?_
 refine gR 8 rfl ?_
 obtain ⟨t0_1, n0_2, hs4, h⟩ := h
 refine gC0 hs4 (by kernel_rfl) rfl rfl .rfl rfl ?_
 refine gR 13 rfl ?_
 obtain ⟨t0_3, n0_4, hs5, h⟩ := h
 refine gC0 hs5 (by kernel_rfl) rfl rfl .rfl rfl ?_
 refine gR 13 rfl ?_
 refine gB 31 rfl rfl rfl (fun hd => ?_) (fun hd => ?_)
 refine gT 30 rfl hd rfl ?_
 replace hd := (eq_of_beq hd)
 replace h := h.1 hd
 refine gR 4 rfl ?_
 refine gB 35 rfl rfl rfl (fun hd => ?_) (fun hd => ?_)
 refine gT 34 rfl hd rfl ?_
 replace hd := (eq_of_beq hd)
 replace h := h.1 hd
 refine gR 2 rfl ?_
 obtain ⟨b0_5, hs6, h⟩ := h
 refine gC0 hs6 (by kernel_rfl) rfl rfl .rfl rfl ?_
 refine gR 5 rfl ?_
 subst h
 refine ab (F' := (mkF 40 0 [(10, .bool b0_5)])) (H' := ⟨0, []⟩) [] [] rfl hK ⟨⟨_, rfl, .rfl⟩, trivial⟩ trivial rfl ?_
 exact ac aa (rs := [.tmp 10]) rfl rfl rfl
 refine gF 34 rfl hd rfl ?_
 replace hd := (ne_of_beq_false hd)
 replace h := h.2 hd
 refine gR 8 rfl ?_
 subst h
 refine ab (F' := (mkF 40 0 [(10, .bool false)])) (H' := ⟨0, []⟩) [] [] rfl hK ⟨⟨_, rfl, .rfl⟩, trivial⟩ trivial rfl ?_
 exact ac aa (rs := [.tmp 10]) rfl rfl rfl
 refine gF 30 rfl hd rfl ?_
 replace hd := (ne_of_beq_false hd)
 replace h := h.2 hd
 refine gR 12 rfl ?_
 subst h
 refine ab (F' := (mkF 40 0 [(10, .bool false)])) (H' := ⟨0, []⟩) [] [] rfl hK ⟨⟨_, rfl, .rfl⟩, trivial⟩ trivial rfl ?_
 exact ac aa (rs := [.tmp 10]) rfl rfl rfl
def fG (m : Nat) (p0 : Tree) (l1v1 : (List Tree)) (i1v2 : Nat) (r0 : Tree) : Prop := ∀ (K : Ctx) (j1 : Nat), au K [] → m ≤ j1 → Go Tryz.prog K (bodyPost Tryz.prog Tryz.f59 (SP K (fun u _ => u = .agg (ai r0)))) (.code (cL (cK (cB (cA (cB (cB (ae Tryz.f59)))))))) [.loop (cL (cK (cB (cA (cB (cB (ae Tryz.f59))))))) j1, .blk 0, .seq (cB (cB (cB (ae Tryz.f59))))] 29 (mkF 29 0 [(1, .box (ai p0) 0), (2, .ptr 0 0), (3, .ptr 1 0), (4, .int .i64 ((i1v2 : Nat) : Int))]) ⟨3, [(2, .row 29 4 (kidsV l1v1)), (1, .var 29 [.int .i64 p0.kind, .str p0.text, .nils, .sl 2]), (0, .var 29 [.int .i64 0, .str [], .nils, .nils])]⟩
theorem o9 (m : Nat) (p0 : Tree) (r0 : Tree) (h : fG m p0 ([] : List Tree) 0 r0) : en p0 r0 := by
 refine ⟨rfl, rfl, ?_⟩
 refine ak 29 [] Tryz.func59 rfl rfl rfl (aA rfl) fun K hK => ?_
 refine gR 3 rfl ?_
 refine gFP 0 rfl rfl rfl rfl ?_
 refine gR 21 rfl ?_
 refine go_loop m ?_
 refine gNC 2 3 29 4 rfl rfl rfl rfl ?_
 exact gJ (h K _ hK (by omega)) [1, 2, 3] [] rfl hK ⟨⟨_, rfl, .rfl⟩, ⟨_, rfl, .rfl⟩, ⟨_, rfl, .rfl⟩, ⟨_, rfl, .rfl⟩, trivial⟩ ⟨⟨_, rfl, ⟨rfl, rfl, rfl⟩⟩, ⟨⟨_, rfl, ⟨rfl, ah.rfl⟩⟩, ⟨⟨_, rfl, ⟨rfl, ah.rfl⟩⟩, trivial⟩⟩⟩ rfl
theorem k0 (m : Nat) (p0 : Tree) (l1v1 : (List Tree)) (i1v2 : Nat) (r0 : Tree) (h : ((i1v2 < p0.kids.length) → ∃ (t1_1 : Tree), p0.kids[i1v2]? = some t1_1 ∧ ∃ (t1_2 : Tree), en t1_1 t1_2 ∧ (l1v1 ++ [t1_2]).length ≤ 1000000000 ∧ fG m p0 (l1v1 ++ [t1_2]) (i1v2 + 1) r0) ∧ ((¬ i1v2 < p0.kids.length) → (Tree.node p0.kind p0.text [] l1v1) = r0)) : fG (m + 1) p0 l1v1 i1v2 r0 := by
 intro K j1 hK hj1
 obtain ⟨j1, rfl⟩ : ∃ j, j1 = j + 1 := ⟨j1 - 1, by omega⟩
 refine gR 7 rfl ?_
 refine gV 13 (.int .i64 ((p0.kids.length : Nat) : Int)) rfl (bc (aD _)) rfl ?_
 refine gLB 12 rfl (aD _) fun hl5 => ?_
 refine gR 3 rfl ?_
 refine gB 14 rfl rfl rfl (fun hd => ?_) (fun hd => ?_)
 replace hd := (cO hd)
 replace h := h.1 hd
 refine gR 5 rfl ?_
 refine gDs [1] 11 12 rfl (by kernel_rfl) (by kernel_rfl) ?_
 refine gDr [(0, 2), (1, 3), (2, 2), (3, 2), (4, 0)] (by kernel_rfl) rfl rfl ?_
 obtain ⟨t1_1, hxt1_1, h⟩ := h
 refine dF 5 rfl (by kernel_rfl) (aK (am hxt1_1) aa rfl rfl rfl rfl) rfl rfl ?_
 refine gDr [(6, 0)] (by kernel_rfl) rfl rfl ?_
 obtain ⟨t1_2, hs6, h⟩ := h
 refine br 7 hs6 (by kernel_rfl) rfl (by kernel_rfl) rfl rfl .rfl rfl rfl ?_
 refine gDr [(8, 0)] (by kernel_rfl) rfl rfl ?_
 refine gHR 3 (kidsV [t1_2]) rfl (jb t1_2) rfl ?_
 obtain ⟨hb, h⟩ := h
 refine cW 9 (.repl 2 (.row 29 4 (kidsV (l1v1 ++ [t1_2])))) rfl (by kernel_rfl) (bN aa rfl rfl rfl rfl rfl (fh l1v1 [t1_2]).symm (by rw [aD]; exact hb)) (okR rfl) rfl (by kernel_rfl) rfl rfl ?_
 refine gDr [(10, 0), (11, 1)] (by kernel_rfl) rfl rfl ?_
 refine gDe (by kernel_rfl) ?_
 refine gR 5 rfl ?_
 refine gV 16 (.int .i64 ((i1v2 + 1 : Nat) : Int)) rfl (ar (by have := hl5; omega) (by omega)) rfl ?_
 refine gR 2 rfl ?_
 refine aq ?_
 exact gJ (h K _ hK (by omega)) [0, 1, 4] [] rfl hK ⟨⟨_, rfl, .rfl⟩, ⟨_, rfl, .rfl⟩, ⟨_, rfl, .rfl⟩, ⟨_, rfl, .rfl⟩, trivial⟩ ⟨⟨_, rfl, ⟨rfl, rfl, (eO _ (l1v1 ++ [t1_2])).symm⟩⟩, ⟨⟨_, rfl, ⟨rfl, ah.rfl⟩⟩, ⟨⟨_, rfl, ⟨rfl, ah.rfl⟩⟩, trivial⟩⟩⟩ rfl
 replace hd := (cI hd)
 replace h := h.2 hd
 refine gR 3 rfl ?_
 refine av ?_
 refine gR 9 rfl ?_
 refine gFR 2 rfl (co _) rfl rfl ?_
 subst h
 refine ab (F' := (mkF 29 0 [(2, .ptr 0 0)])) (H' := ⟨1, [(0, .var 29 [.int .i64 ((Tree.node p0.kind p0.text [] l1v1).kind), .str ((Tree.node p0.kind p0.text [] l1v1).text), .row 1 (List.map V.str ((Tree.node p0.kind p0.text [] l1v1).leads)), .row 4 (kidsV ((Tree.node p0.kind p0.text [] l1v1).kids))])]⟩) [0] [] rfl hK ⟨⟨_, rfl, .rfl⟩, trivial⟩ ⟨⟨_, rfl, ⟨rfl, (.cons .rfl (.cons .rfl (.cons (.nil 1) (.cons .rfl .nil))))⟩⟩, trivial⟩ rfl ?_
 exact ac aa (rs := [.cell 2 29]) rfl rfl rfl
def it (m : Nat) (p0 : Tree) (p1 : Tree) (i1v1 : Nat) (r0 : Bool) : Prop := ∀ (K : Ctx) (j1 : Nat), au K [] → m ≤ j1 → Go Tryz.prog K (bodyPost Tryz.prog Tryz.f14 (SP K (fun u _ => u = .bool r0))) (.code (cL (cK (cB (cA (cB (cB (ae Tryz.f14)))))))) [.loop (cL (cK (cB (cA (cB (cB (ae Tryz.f14))))))) j1, .blk 0, .seq (cB (cB (cB (ae Tryz.f14))))] 54 (mkF 54 0 [(2, .box (ai p0) 0), (3, .box (ai p1) 0), (5, .int .i64 ((i1v1 : Nat) : Int))]) ⟨0, []⟩
theorem d5 (m : Nat) (p0 : Tree) (p1 : Tree) (r0 : Bool) (h : ((p0.kind ≠ p1.kind) → false = r0) ∧ ((p0.kind = p1.kind) → ((p0.text ≠ p1.text) → false = r0) ∧ ((p0.text = p1.text) → ∃ (b0_1 : Bool), fO p0.leads p1.leads b0_1 ∧ ((b0_1 = false) → false = r0) ∧ ((b0_1 = true) → ((p0.kids.length ≠ p1.kids.length) → false = r0) ∧ ((p0.kids.length = p1.kids.length) → it m p0 p1 0 r0))))) : cf p0 p1 r0 := by
 refine ⟨rfl, rfl, ?_⟩
 refine ak 54 [] Tryz.func14 rfl rfl rfl (aA rfl) fun K hK => ?_
 refine gR 3 rfl ?_
 refine gFP 0 rfl rfl rfl rfl ?_
 refine gR 1 rfl ?_
 refine gFP 1 rfl rfl rfl rfl ?_
 refine gR 12 rfl ?_
 refine gB 11 rfl rfl rfl (fun hd => ?_) (fun hd => ?_)
 refine gT 10 rfl hd rfl ?_
 replace hd := (fe hd)
 replace h := h.1 hd
 refine gR 33 rfl ?_
 subst h
 refine ab (F' := (mkF 54 0 [(4, .bool false)])) (H' := ⟨0, []⟩) [] [] rfl hK ⟨⟨_, rfl, .rfl⟩, trivial⟩ trivial rfl ?_
 exact ac aa (rs := [.tmp 4]) rfl rfl rfl
 refine gF 10 rfl hd rfl ?_
 replace hd := (dA hd)
 replace h := h.2 hd
 refine gR 7 rfl ?_
 refine gB 18 rfl rfl rfl (fun hd => ?_) (fun hd => ?_)
 refine gT 17 rfl hd rfl ?_
 replace hd := (fe hd)
 replace h := h.1 hd
 refine gR 26 rfl ?_
 subst h
 refine ab (F' := (mkF 54 0 [(4, .bool false)])) (H' := ⟨0, []⟩) [] [] rfl hK ⟨⟨_, rfl, .rfl⟩, trivial⟩ trivial rfl ?_
 exact ac aa (rs := [.tmp 4]) rfl rfl rfl
 refine gF 17 rfl hd rfl ?_
 replace hd := (dA hd)
 replace h := h.2 hd
 refine gR 4 rfl ?_
 obtain ⟨b0_1, hs11, h⟩ := h
 refine gC0 hs11 (by kernel_rfl) rfl rfl .rfl rfl ?_
 refine gR 3 rfl ?_
 refine gB 26 rfl rfl rfl (fun hd => ?_) (fun hd => ?_)
 refine gT 25 rfl hd rfl ?_
 replace hd := (bM hd)
 replace h := h.1 hd
 refine gR 18 rfl ?_
 subst h
 refine ab (F' := (mkF 54 0 [(4, .bool false)])) (H' := ⟨0, []⟩) [] [] rfl hK ⟨⟨_, rfl, .rfl⟩, trivial⟩ trivial rfl ?_
 exact ac aa (rs := [.tmp 4]) rfl rfl rfl
 refine gF 25 rfl hd rfl ?_
 replace hd := (bL hd)
 replace h := h.2 hd
 refine gR 3 rfl ?_
 refine gV 29 (.int .i64 ((p0.kids.length : Nat) : Int)) rfl (bc (aD _)) rfl ?_
 refine gLB 28 rfl (aD _) fun hl12 => ?_
 refine gR 3 rfl ?_
 refine gV 32 (.int .i64 ((p1.kids.length : Nat) : Int)) rfl (bc (aD _)) rfl ?_
 refine gLB 31 rfl (aD _) fun hl13 => ?_
 refine gR 4 rfl ?_
 refine gB 34 rfl rfl rfl (fun hd => ?_) (fun hd => ?_)
 replace hd := (wJ hd)
 replace h := h.1 hd
 refine gR 8 rfl ?_
 subst h
 refine ab (F' := (mkF 54 0 [(4, .bool false)])) (H' := ⟨0, []⟩) [] [] rfl hK ⟨⟨_, rfl, .rfl⟩, trivial⟩ trivial rfl ?_
 exact ac aa (rs := [.tmp 4]) rfl rfl rfl
 replace hd := (wW hd)
 replace h := h.2 hd
 refine gR 10 rfl ?_
 refine go_loop m ?_
 exact gJ (h K _ hK (by omega)) [] [] rfl hK ⟨⟨_, rfl, .rfl⟩, ⟨_, rfl, .rfl⟩, ⟨_, rfl, .rfl⟩, trivial⟩ trivial rfl
theorem hD (m : Nat) (p0 : Tree) (p1 : Tree) (i1v1 : Nat) (r0 : Bool) (h : ((i1v1 < p0.kids.length) → ∃ (t1_1 : Tree), p0.kids[i1v1]? = some t1_1 ∧ ∃ (t1_2 : Tree), p1.kids[i1v1]? = some t1_2 ∧ ∃ (b1_3 : Bool), cf t1_1 t1_2 b1_3 ∧ ((b1_3 = false) → false = r0) ∧ ((b1_3 = true) → it m p0 p1 (i1v1 + 1) r0)) ∧ ((¬ i1v1 < p0.kids.length) → true = r0)) : it (m + 1) p0 p1 i1v1 r0 := by
 intro K j1 hK hj1
 obtain ⟨j1, rfl⟩ : ∃ j, j1 = j + 1 := ⟨j1 - 1, by omega⟩
 refine gR 7 rfl ?_
 refine gV 38 (.int .i64 ((p0.kids.length : Nat) : Int)) rfl (bc (aD _)) rfl ?_
 refine gLB 37 rfl (aD _) fun hl14 => ?_
 refine gR 3 rfl ?_
 refine gB 39 rfl rfl rfl (fun hd => ?_) (fun hd => ?_)
 replace hd := (cO hd)
 replace h := h.1 hd
 refine gR 6 rfl ?_
 refine gDs [] 12 12 rfl (by kernel_rfl) (by kernel_rfl) ?_
 refine gDr [(0, 2), (1, 2), (2, 2)] (by kernel_rfl) rfl rfl ?_
 obtain ⟨t1_1, hxt1_1, h⟩ := h
 refine gYd 3 rfl (by kernel_rfl) (aK (am hxt1_1) aa rfl rfl rfl rfl) rfl rfl ?_
 refine gDr [(4, 2), (5, 2), (6, 2), (7, 0)] (by kernel_rfl) rfl rfl ?_
 obtain ⟨t1_2, hxt1_2, h⟩ := h
 refine dF 8 rfl (by kernel_rfl) (aK (am hxt1_2) aa rfl rfl rfl rfl) rfl rfl ?_
 refine gDr [(9, 0)] (by kernel_rfl) rfl rfl ?_
 obtain ⟨b1_3, hs15, h⟩ := h
 refine br 10 hs15 (by kernel_rfl) rfl (by kernel_rfl) rfl rfl .rfl rfl rfl ?_
 refine gDr [(11, 0)] (by kernel_rfl) rfl rfl ?_
 refine gDe (by kernel_rfl) ?_
 refine gR 1 rfl ?_
 refine gB 53 rfl rfl rfl (fun hd => ?_) (fun hd => ?_)
 replace hd := (bM hd)
 replace h := h.1 hd
 refine gR 9 rfl ?_
 refine aM ?_
 refine gR 2 rfl ?_
 subst h
 refine ab (F' := (mkF 54 0 [(4, .bool false)])) (H' := ⟨0, []⟩) [] [] rfl hK ⟨⟨_, rfl, .rfl⟩, trivial⟩ trivial rfl ?_
 exact ac aa (rs := [.tmp 4]) rfl rfl rfl
 replace hd := (bL hd)
 replace h := h.2 hd
 refine gR 7 rfl ?_
 refine gV 41 (.int .i64 ((i1v1 + 1 : Nat) : Int)) rfl (ar (by have := hl14; omega) (by omega)) rfl ?_
 refine gR 2 rfl ?_
 refine aq ?_
 exact gJ (h K _ hK (by omega)) [] [] rfl hK ⟨⟨_, rfl, .rfl⟩, ⟨_, rfl, .rfl⟩, ⟨_, rfl, .rfl⟩, trivial⟩ trivial rfl
 replace hd := (cI hd)
 replace h := h.2 hd
 refine gR 3 rfl ?_
 refine av ?_
 refine gR 8 rfl ?_
 subst h
 refine ab (F' := (mkF 54 0 [(4, .bool true)])) (H' := ⟨0, []⟩) [] [] rfl hK ⟨⟨_, rfl, .rfl⟩, trivial⟩ trivial rfl ?_
 exact ac aa (rs := [.tmp 4]) rfl rfl rfl
def fb (m : Nat) (p0 : Tree) (l1v1 : (List Tree)) (i1v2 : Nat) (r0 : (List Tree)) : Prop := ∀ (K : Ctx) (j1 : Nat), au K [] → m ≤ j1 → Go Tryz.prog K (bodyPost Tryz.prog Tryz.f11 (SP K (fun u _ => u = .row 4 (kidsV r0)))) (.code (cL (cK (cB (cA (cB (cB (ae Tryz.f11)))))))) [.loop (cL (cK (cB (cA (cB (cB (ae Tryz.f11))))))) j1, .blk 0, .seq (cB (cB (cB (ae Tryz.f11))))] 23 (mkF 23 0 [(1, .box (ai p0) 0), (3, .sl 0), (4, .int .i64 ((i1v2 : Nat) : Int))]) ⟨1, [(0, .row 29 4 (kidsV l1v1))]⟩
theorem oO (m : Nat) (p0 : Tree) (r0 : (List Tree)) (h : fb m p0 [p0] 0 r0) : fF p0 r0 := by
 refine ⟨rfl, rfl, ?_⟩
 refine ak 23 [] Tryz.func11 rfl rfl rfl (aA rfl) fun K hK => ?_
 refine gR 3 rfl ?_
 refine gFP 0 rfl rfl rfl rfl ?_
 refine gR 7 rfl ?_
 refine gHR 1 (kidsV [p0]) rfl (jb p0) rfl ?_
 refine gR 10 rfl ?_
 refine go_loop m ?_
 exact gJ (h K _ hK (by omega)) [1] [] rfl hK ⟨⟨_, rfl, .rfl⟩, ⟨_, rfl, .rfl⟩, ⟨_, rfl, .rfl⟩, trivial⟩ ⟨⟨_, rfl, ⟨rfl, rfl, (eO _ [p0]).symm⟩⟩, trivial⟩ rfl
theorem j0 (m : Nat) (p0 : Tree) (l1v1 : (List Tree)) (i1v2 : Nat) (r0 : (List Tree)) (h : ((i1v2 < p0.kids.length) → ∃ (t1_1 : Tree), p0.kids[i1v2]? = some t1_1 ∧ ∃ (r1_2 : (List Tree)), fF t1_1 r1_2 ∧ (l1v1 ++ r1_2).length ≤ 1000000000 ∧ fb m p0 (l1v1 ++ r1_2) (i1v2 + 1) r0) ∧ ((¬ i1v2 < p0.kids.length) → l1v1 = r0)) : fb (m + 1) p0 l1v1 i1v2 r0 := by
 intro K j1 hK hj1
 obtain ⟨j1, rfl⟩ : ∃ j, j1 = j + 1 := ⟨j1 - 1, by omega⟩
 refine gR 7 rfl ?_
 refine gV 10 (.int .i64 ((p0.kids.length : Nat) : Int)) rfl (bc (aD _)) rfl ?_
 refine gLB 9 rfl (aD _) fun hl5 => ?_
 refine gR 3 rfl ?_
 refine gB 11 rfl rfl rfl (fun hd => ?_) (fun hd => ?_)
 replace hd := (cO hd)
 replace h := h.1 hd
 refine gR 10 rfl ?_
 obtain ⟨t1_1, hxt1_1, h⟩ := h
 refine gY (aK (am hxt1_1) aa rfl rfl rfl rfl) rfl rfl ?_
 refine gR 1 rfl ?_
 obtain ⟨r1_2, hs6, h⟩ := h
 refine gC0 hs6 (by kernel_rfl) rfl rfl .rfl rfl ?_
 obtain ⟨hb, h⟩ := h
 refine gDo (.repl 0 (.row 29 4 (kidsV (l1v1 ++ r1_2)))) (bN aa rfl rfl rfl rfl rfl (fh _ _).symm (by rw [aD]; exact hb)) (okR rfl) rfl rfl rfl ?_
 refine gR 7 rfl ?_
 refine gV 13 (.int .i64 ((i1v2 + 1 : Nat) : Int)) rfl (ar (by have := hl5; omega) (by omega)) rfl ?_
 refine gR 2 rfl ?_
 refine aq ?_
 exact gJ (h K _ hK (by omega)) [1] [] rfl hK ⟨⟨_, rfl, .rfl⟩, ⟨_, rfl, .rfl⟩, ⟨_, rfl, .rfl⟩, trivial⟩ ⟨⟨_, rfl, ⟨rfl, rfl, (eO _ (l1v1 ++ r1_2)).symm⟩⟩, trivial⟩ rfl
 replace hd := (cI hd)
 replace h := h.2 hd
 refine gR 3 rfl ?_
 refine av ?_
 refine gR 9 rfl ?_
 refine gFR 0 rfl (co _) rfl rfl ?_
 subst h
 refine ab (F' := (mkF 23 0 [(2, .row 4 (kidsV l1v1))])) (H' := ⟨0, []⟩) [] [] rfl hK ⟨⟨_, rfl, .rfl⟩, trivial⟩ trivial rfl ?_
 exact ac aa (rs := [.tmp 2]) rfl rfl rfl
def fH (m : Nat) (p0 : Tree) (z1v1 : Int) (i1v2 : Nat) (r0 : Int) : Prop := ∀ (K : Ctx) (j1 : Nat), au K [] → m ≤ j1 → Go Tryz.prog K (bodyPost Tryz.prog Tryz.f36 (SP K (fun u _ => u = .int .i64 r0))) (.code (cL (cK (cB (cA (cB (cB (ae Tryz.f36)))))))) [.loop (cL (cK (cB (cA (cB (cB (ae Tryz.f36))))))) j1, .blk 0, .seq (cB (cB (cB (ae Tryz.f36))))] 21 (mkF 21 0 [(1, .box (ai p0) 0), (3, .int .i64 z1v1), (4, .int .i64 ((i1v2 : Nat) : Int))]) ⟨0, []⟩
theorem o7 (m : Nat) (p0 : Tree) (r0 : Int) (h : fH m p0 1 0 r0) : f5 p0 r0 := by
 refine ⟨rfl, rfl, ?_⟩
 refine ak 21 [] Tryz.func36 rfl rfl rfl (aA rfl) fun K hK => ?_
 refine gR 3 rfl ?_
 refine gFP 0 rfl rfl rfl rfl ?_
 refine gR 15 rfl ?_
 refine go_loop m ?_
 exact gJ (h K _ hK (by omega)) [] [] rfl hK ⟨⟨_, rfl, .rfl⟩, ⟨_, rfl, .rfl⟩, ⟨_, rfl, .rfl⟩, trivial⟩ trivial rfl
theorem gW (m : Nat) (p0 : Tree) (z1v1 : Int) (i1v2 : Nat) (r0 : Int) (h : ((i1v2 < p0.kids.length) → ∃ (t1_1 : Tree), p0.kids[i1v2]? = some t1_1 ∧ ∃ (n1_2 : Int), f5 t1_1 n1_2 ∧ InI (z1v1 + n1_2) ∧ fH m p0 (z1v1 + n1_2) (i1v2 + 1) r0) ∧ ((¬ i1v2 < p0.kids.length) → z1v1 = r0)) : fH (m + 1) p0 z1v1 i1v2 r0 := by
 intro K j1 hK hj1
 obtain ⟨j1, rfl⟩ : ∃ j, j1 = j + 1 := ⟨j1 - 1, by omega⟩
 refine gR 7 rfl ?_
 refine gV 8 (.int .i64 ((p0.kids.length : Nat) : Int)) rfl (bc (aD _)) rfl ?_
 refine gLB 7 rfl (aD _) fun hl5 => ?_
 refine gR 3 rfl ?_
 refine gB 9 rfl rfl rfl (fun hd => ?_) (fun hd => ?_)
 replace hd := (cO hd)
 replace h := h.1 hd
 refine gR 10 rfl ?_
 obtain ⟨t1_1, hxt1_1, h⟩ := h
 refine gY (aK (am hxt1_1) aa rfl rfl rfl rfl) rfl rfl ?_
 refine gR 1 rfl ?_
 obtain ⟨n1_2, hs6, h⟩ := h
 refine gC0 hs6 (by kernel_rfl) rfl rfl .rfl rfl ?_
 obtain ⟨hb, h⟩ := h
 refine gR 1 rfl ?_
 refine gV 19 (.int .i64 (z1v1 + n1_2)) rfl (ar hb rfl) rfl ?_
 refine gR 7 rfl ?_
 refine gV 11 (.int .i64 ((i1v2 + 1 : Nat) : Int)) rfl (ar (by have := hl5; omega) (by omega)) rfl ?_
 refine gR 2 rfl ?_
 refine aq ?_
 exact gJ (h K _ hK (by omega)) [] [] rfl hK ⟨⟨_, rfl, .rfl⟩, ⟨_, rfl, .rfl⟩, ⟨_, rfl, .rfl⟩, trivial⟩ trivial rfl
 replace hd := (cI hd)
 replace h := h.2 hd
 refine gR 3 rfl ?_
 refine av ?_
 refine gR 9 rfl ?_
 subst h
 refine ab (F' := (mkF 21 0 [(2, .int .i64 z1v1)])) (H' := ⟨0, []⟩) [] [] rfl hK ⟨⟨_, rfl, .rfl⟩, trivial⟩ trivial rfl ?_
 exact ac aa (rs := [.tmp 2]) rfl rfl rfl
end Go.Proofs.YtiknldgpnhikhaaGreat
