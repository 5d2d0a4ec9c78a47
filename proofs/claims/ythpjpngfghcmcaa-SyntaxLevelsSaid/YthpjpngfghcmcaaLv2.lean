/- Contracts of the functions that the law reaches, part 2. -/
import Derived.Test.YthpjpngfghcmcaaLv1
set_option linter.unusedVariables false
set_option linter.unusedSimpArgs false
namespace Go.Proofs.Ythpjpngfghcmcaa
open Go.RowKit Lx Sx
def TokSl (S : Nat → Prop) (w : World) (v : Value) (l : List Tok) : Prop := ∃ A c, v = .slice A l.length c ∧ l.length ≤ c ∧ c ≤ maxLen ∧ RowIn S w 3 A l.length (tokCells l)
theorem TokSl.keep {S S' : Nat → Prop} {w w' : World} {v : Value} {l : List Tok} (h : TokSl S w v l) (hS : ∀ b, S b → S' b) (hk : ∀ b, S b → b < w.heap.size → w'.heap[b]? = w.heap[b]?) : TokSl S' w' v l := by
  obtain ⟨A, c, e, h1, h2, h3⟩ := h
  exact ⟨A, c, e, h1, h2, h3.keep hS hk⟩
def sumLen : List Tok → Nat
  | [] => 0
  | t :: r => t.lead.length + t.text.length + sumLen r
def restLen : List Tok → Nat
  | [] => 0
  | t :: r => t.text.length + sumLen r
def PsOk (s : PS) : Prop := s.off + restLen s.toks ≤ 1099511627776 ∧ s.size ≤ 1099511627776 ∧ s.failed ≤ 1000 ∧ s.toks.length ≤ 1000000
def PAt (H : Nat) (w : World) (p : Nat) (s : PS) : Prop :=
  H ≤ p ∧ PsOk s ∧ ∃ v, Blk w p 47 [v, .int .i64 (s.off : Nat), .int .i64 (s.size : Nat), .int .i64 (s.failed : Nat), .int .i64 (s.place : Nat)] ∧ TokSl (fun b => b < H) w v s.toks
section
variable {H p : Nat} {w w' : World} {s : PS} {X : List Nat}
theorem PAt.lt (h : PAt H w p s) : p < w.heap.size := by obtain ⟨_, _, _, hB, _⟩ := h; exact hB.lt
theorem PAt.cnt (h : PAt H w p s) : s.toks.length ≤ 1000000 := h.2.1.2.2.2
theorem PAt.le (h : PAt H w p s) : H ≤ p := h.1
theorem PAt.chg (h : PAt H w p s) (hx : Chg X w w') (hX : ∀ b, b ∈ X → H ≤ b ∧ p ≠ b) : PAt H w' p s := by
  obtain ⟨h1, h2, v, hB, hT⟩ := h
  refine ⟨h1, h2, v, hB.chg hx (fun hp => (hX p hp).2 rfl), hT.keep (fun _ h => h) (fun b hb hlt => hx.block b hlt (fun hc => ?_))⟩
  have := (hX b hc).1
  omega
end
abbrev tokV (t : Tok) : Value := .agg #[.int .i64 t.kind, strV t.lead, strV t.text]
theorem len_cons_ne {α : Type} (t : α) (r : List α) : (((t :: r).length : Int) == 0) = false := by simp; omega
theorem tok_cells3 {t : Tok} {r : List Tok} {w : World} {tb to : Nat} {n : Nat} (hn : n = (t :: r).length * 3) (h : ∀ j, j < n → w.cell? ⟨tb, to + j, none⟩ = (tokCells (t :: r))[j]?) : ∀ j, j < 3 → w.cell? ⟨tb, to + j, none⟩ = ([.int .i64 t.kind, strV t.lead, strV t.text] : List Value)[j]? := by
  intro j hj
  rw [h j (by subst hn; simp; omega)]
  simp only [tokCells, List.flatMap_cons]
  rw [List.getElem?_append_left (by simpa using hj)]
theorem pFail_some (e : Nat) {toks : List Tok} {off size failed place : Nat} (h : ¬ failed = 0) : pFail e ⟨toks, off, size, failed, place⟩ = ⟨[], off, size, failed, place⟩ := by simp [pFail, h]
theorem tokSl_nil (S : Nat → Prop) (w : World) (A : Option Addr) (c : Nat) (hc : c ≤ maxLen) : TokSl S w (.slice A 0 c) [] := ⟨A, c, rfl, Nat.zero_le _, hc, RowIn.none_⟩
theorem tokSl_tail {S : Nat → Prop} {w : World} {t u : Tok} {r : List Tok} {tb to c : Nat} (hS : S tb) (hb : tb < w.heap.size) (hc : (t :: u :: r).length ≤ c) (hm : c ≤ maxLen)
    (h : ∀ j, j < (t :: u :: r).length * 3 → w.cell? ⟨tb, to + j, none⟩ = (tokCells (t :: u :: r))[j]?) : TokSl S w (.slice (some ⟨tb, to + 3, none⟩) (u :: r).length (c - 1)) (u :: r) := by
  simp only [List.length_cons] at hc
  refine ⟨_, _, rfl, by simp; omega, by omega, ?_, fun _ => ⟨tb, to + 3, rfl, hS, hb, fun j hj => ?_⟩⟩
  · have : ∀ l : List Tok, (tokCells l).length = l.length * 3 := fun l => by induction l with | nil => rfl | cons t r ih => simp [tokCells] at ih ⊢; omega
    exact this _
  · have := h (3 + j) (by simp at hj ⊢; omega)
    rw [Nat.add_assoc, this]
    simp only [tokCells, List.flatMap_cons]
    rw [List.getElem?_append_right (by simp)]
    simp
section
variable {toks r : List Tok} {t u : Tok} {off size failed place e pl : Nat}
theorem ok_nil (h : PsOk ⟨toks, off, size, failed, place⟩) (he : e ≤ 1000) : PsOk ⟨[], off, size, e, pl⟩ := by
  obtain ⟨h1, h2, h3, h4⟩ := h
  simp only at h1 h2 h3 h4
  exact ⟨by simp only [restLen]; omega, h2, he, by simp⟩
theorem ok_take1 (h : PsOk ⟨toks, off, size, failed, place⟩) : PsOk ⟨[], size, size, failed, place⟩ := by
  obtain ⟨h1, h2, h3, h4⟩ := h
  simp only at h1 h2 h3 h4
  exact ⟨by simp only [restLen]; omega, h2, h3, by simp⟩
theorem ok_take2 (h : PsOk ⟨t :: u :: r, off, size, failed, place⟩) : PsOk ⟨u :: r, off + (t.text.length + u.lead.length), size, failed, place⟩ := by
  obtain ⟨h1, h2, h3, h4⟩ := h
  simp only [restLen, sumLen] at h1 h2 h3
  simp only [List.length_cons] at h4
  exact ⟨by simp only [restLen]; omega, h2, h3, by simp; omega⟩
theorem ok_sum (h : PsOk ⟨t :: u :: r, off, size, failed, place⟩) : off + (t.text.length + u.lead.length) ≤ 1099511627776 := by
  obtain ⟨h1, h2, h3, h4⟩ := h
  simp only [restLen, sumLen] at h1
  omega
end
theorem pNext_cons {s : PS} (h : (pNext s).text ≠ [] ∨ (pNext s).kind ≠ 0) : ∃ t r, s.toks = t :: r ∧ pNext s = t := by
  cases hs : s.toks with
  | nil => simp [pNext, hs, zeroTok] at h
  | cons t r => exact ⟨t, r, rfl, by simp [pNext, hs]⟩
theorem pNextL {H p : Nat} {s : PS} {w : World} (hP : PAt H w p s) : Calls Try.prog 50 [.pointer (some ⟨p, 0, none⟩)].toArray w fun e w' => e = .returned (tokV (pNext s)) ∧ PAt H w' p s ∧ Chg [] w w' := by
  obtain ⟨toks, off, size, failed, place⟩ := s
  obtain ⟨hH, hok, v, hB, hTS⟩ := hP
  dsimp only at hB hTS
  obtain ⟨A, c, rfl, hc1, hc2, hrow⟩ := id hTS
  cases toks with
  | nil =>
    refine enter_fr 16 Try.func50 rfl rfl rfl ?_
    intro a hf
    have hE := Chg.refl [] w
    refine wS fun K1 hK1 => wR ?_
    obtain ⟨w2, b3, he, hB4, hx5, eb6, lb7⟩ := ef_alloc (P := Try.prog) (t := 49) [.int .i64 0, .string ⟨([] : List UInt8).toArray⟩, .string ⟨([] : List UInt8).toArray⟩] (by kernel_rfl) a w 0
    refine sV hf rfl he fun a hf => ?_
    have ne_p_b3 : p ≠ b3 := ne_new hB.lt eb6
    have ge_b3 := ge_new hE eb6
    replace hB := hB.c0 hx5
    replace hE := hE.t0 hx5
    clear eb6 lb7
    refine sN <| hK1 _ _ <| wS fun K8 hK8 => wS fun K9 hK9 => wR <| sM hf rfl rfl fun a hf => sV hf rfl (ex_nil hf rfl) fun a hf => sV hf rfl (ex_fa (k := 0) (r := 0) hf rfl (by kernel_rfl) rfl) fun a hf => sV hf rfl (ex_loadB hf rfl (by kernel_rfl) hB rfl) fun a hf => sV hf rfl (ex_len hf Try.underlying42 rfl) fun a hf => sV hf rfl (ex_eqI (c := true) hf rfl rfl (by rfl)) fun a hf => sN <| hK9 _ _ <| cT hf rfl <| wS fun K10 hK10 => wR <| sV hf rfl (ex_bd (ps := []) (z := [.int .i64 0, .string ⟨([] : List UInt8).toArray⟩, .string ⟨([] : List UInt8).toArray⟩]) (os := []) hf rfl (by kernel_rfl) (by kernel_rfl) (by kernel_rfl) rfl rfl) fun a hf => ?_
    obtain ⟨w11, he, hB12, hx13⟩ := ef_storeN (P := Try.prog) (t := 49) (x := (.tmp 2)) (y := (.tmp 9)) (m := 3) hf rfl rfl (by kernel_rfl) rfl rfl hB4 rfl 0
    refine st_s hf rfl rfl he fun a hf => ?_
    replace hB := hB.chg hx13 (nmc ne_p_b3 nm0)
    replace hE := hE.trans hx13 (allc (.inr ge_b3) all0)
    clear hB4
    refine sN <| hK10 _ _ <| wp_ret ?_
    try simp only [Exit.then, Exit.inBlock]
    exact ret_of (rs := [.cell 2 49]) hf rfl ⟨_, _, _, _, 3, rfl, rfl, by kernel_rfl, hB12, rfl, rfl⟩ ⟨rfl, ⟨hH, hok, _, hB, hTS.keep (fun _ h => h) (fun b _ hb => hE.ext.block hb)⟩, hE⟩
  | cons t r =>
    obtain ⟨tb, to, rfl, hS, lt_tb, hcell⟩ := hrow.2 (by simp)
    have hT := tok_cells3 rfl hcell
    clear hcell hS
    refine enter_fr 16 Try.func50 rfl rfl rfl ?_
    intro a hf
    have hE := Chg.refl [] w
    refine wS fun K1 hK1 => wR ?_
    obtain ⟨w2, b3, he, hB4, hx5, eb6, lb7⟩ := ef_alloc (P := Try.prog) (t := 49) [.int .i64 0, .string ⟨([] : List UInt8).toArray⟩, .string ⟨([] : List UInt8).toArray⟩] (by kernel_rfl) a w 0
    refine sV hf rfl he fun a hf => ?_
    have ne_p_b3 : p ≠ b3 := ne_new hB.lt eb6
    have ne_tb_b3 : tb ≠ b3 := ne_new lt_tb eb6
    have ge_b3 := ge_new hE eb6
    replace hB := hB.c0 hx5
    replace hT : ∀ j, j < 3 → w2.cell? ⟨tb, to + j, none⟩ = _ := fun j hj => (hx5.cell lt_tb nm0).trans (hT j hj)
    replace lt_tb := hx5.lt lt_tb
    replace hE := hE.t0 hx5
    clear eb6 lb7
    refine sN <| hK1 _ _ <| wS fun K8 hK8 => wS fun K9 hK9 => wR <| sM hf rfl rfl fun a hf => sV hf rfl (ex_nil hf rfl) fun a hf => sV hf rfl (ex_fa (k := 0) (r := 0) hf rfl (by kernel_rfl) rfl) fun a hf => sV hf rfl (ex_loadB hf rfl (by kernel_rfl) hB rfl) fun a hf => sV hf rfl (ex_len hf Try.underlying42 rfl) fun a hf => sV hf rfl (ex_eqI (c := false) hf rfl rfl (len_cons_ne _ _)) fun a hf => sN <| hK9 _ _ <| cF hf rfl <| wp_skip <| hK8 _ _ <| wS fun K10 hK10 => wR <| sM hf rfl rfl fun a hf => sV hf rfl (ex_nil hf rfl) fun a hf => sV hf rfl (ex_fa (k := 0) (r := 0) hf rfl (by kernel_rfl) rfl) fun a hf => sV hf rfl (ex_loadB hf rfl (by kernel_rfl) hB rfl) fun a hf => sV hf rfl (ex_index (sz := 3) (k := 0) (r := to) hf Try.underlying42 (by kernel_rfl) rfl rfl rfl (by simp) rfl) fun a hf => sV hf rfl (ex_loadN (cs := [.int .i64 t.kind, strV t.lead, strV t.text]) (m := 3) hf rfl (by kernel_rfl) rfl hT) fun a hf => ?_
    obtain ⟨w11, he, hB12, hx13⟩ := ef_storeN (P := Try.prog) (t := 49) (x := (.tmp 2)) (y := (.tmp 15)) (m := 3) hf rfl rfl (by kernel_rfl) rfl rfl hB4 rfl 0
    refine st_s hf rfl rfl he fun a hf => ?_
    replace hB := hB.chg hx13 (nmc ne_p_b3 nm0)
    replace hT : ∀ j, j < 3 → w11.cell? ⟨tb, to + j, none⟩ = _ := fun j hj => (hx13.cell lt_tb (nmc ne_tb_b3 nm0)).trans (hT j hj)
    replace lt_tb := hx13.lt lt_tb
    replace hE := hE.trans hx13 (allc (.inr ge_b3) all0)
    clear hB4
    refine sN <| hK10 _ _ <| wp_ret ?_
    try simp only [Exit.then, Exit.inBlock]
    exact ret_of (rs := [.cell 2 49]) hf rfl ⟨_, _, _, _, 3, rfl, rfl, by kernel_rfl, hB12, rfl, rfl⟩ ⟨rfl, ⟨hH, hok, _, hB, hTS.keep (fun _ h => h) (fun b _ hb => hE.ext.block hb)⟩, hE⟩
theorem pFailL {H p e : Nat} {s : PS} {w : World} (hP : PAt H w p s) (he1 : e ≤ 1000) : Calls Try.prog 51 [.pointer (some ⟨p, 0, none⟩), .int .i64 (e : Nat)].toArray w fun x w' => x = .returned (.tuple #[]) ∧ PAt H w' p (pFail e s) ∧ Chg [p] w w' := by
  obtain ⟨toks, off, size, failed, place⟩ := s
  obtain ⟨hH, hok, v, hB, hTS⟩ := hP
  dsimp only at hB hTS
  clear hTS
  by_cases h0 : failed = 0
  · subst h0
    refine enter_fr 23 Try.func51 rfl rfl rfl ?_
    intro a hf
    have hE := Chg.refl [p] w
    refine wS fun K1 hK1 => wS fun K2 hK2 => wR <| sM hf rfl rfl fun a hf => sV hf rfl (ex_nil hf rfl) fun a hf => sV hf rfl (ex_fa (k := 3) (r := 3) hf rfl (by kernel_rfl) rfl) fun a hf => sV hf rfl (ex_loadB hf rfl (by kernel_rfl) hB rfl) fun a hf => sV hf rfl (ex_eqI (c := true) hf rfl rfl rfl) fun a hf => sN <| hK2 _ _ <| cT hf rfl <| wR <| sM hf rfl rfl fun a hf => sM hf rfl rfl fun a hf => sM hf rfl rfl fun a hf => sM hf rfl rfl fun a hf => sV hf rfl (ex_nil hf rfl) fun a hf => sV hf rfl (ex_fa (k := 1) (r := 1) hf rfl (by kernel_rfl) rfl) fun a hf => sV hf rfl (ex_loadB hf rfl (by kernel_rfl) hB rfl) fun a hf => sV hf rfl (ex_nil hf rfl) fun a hf => sV hf rfl (ex_fa (k := 3) (r := 3) hf rfl (by kernel_rfl) rfl) fun a hf => ?_
    obtain ⟨w3, he, hB4, hx5⟩ := ef_store (P := Try.prog) (t := 27) (x := (.tmp 17)) (y := (.tmp 11)) hf rfl rfl (by kernel_rfl) rfl hB (Nat.le_of_ble_eq_true rfl) 0
    refine st_s hf rfl rfl he fun a hf => ?_
    replace hE := hE.trans hx5 (allc (.inl (by simp)) all0)
    clear hB
    refine sV hf rfl (ex_nil hf rfl) fun a hf => sV hf rfl (ex_fa (k := 4) (r := 4) hf rfl (by kernel_rfl) rfl) fun a hf => ?_
    obtain ⟨w6, he, hB7, hx8⟩ := ef_store (P := Try.prog) (t := 3) (x := (.tmp 19)) (y := (.tmp 15)) hf rfl rfl (by kernel_rfl) rfl hB4 (Nat.le_of_ble_eq_true rfl) 0
    refine st_s hf rfl rfl he fun a hf => ?_
    replace hE := hE.trans hx8 (allc (.inl (by simp)) all0)
    clear hB4
    refine sN <| hK1 _ _ <| wR <| sM hf rfl rfl fun a hf => sV hf rfl (ex_nil hf rfl) fun a hf => sV hf rfl (ex_fa (k := 0) (r := 0) hf rfl (by kernel_rfl) rfl) fun a hf => ?_
    obtain ⟨w9, he, hB10, hx11⟩ := ef_store (P := Try.prog) (t := 42) (x := (.tmp 22)) (y := (.const (.slice none 0 0))) hf rfl rfl (by kernel_rfl) rfl hB7 (Nat.le_of_ble_eq_true rfl) 0
    refine st_s hf rfl rfl he fun a hf => ?_
    replace hE := hE.trans hx11 (allc (.inl (by simp)) all0)
    clear hB7
    refine sN ?_
    try simp only [Exit.then, Exit.inBlock]
    exact end_of (rs := []) hf rfl rfl ⟨rfl, ⟨hH, ok_nil hok he1, _, hB10, tokSl_nil _ _ _ _ (Nat.zero_le _)⟩, hE⟩
  · skip
    refine enter_fr 23 Try.func51 rfl rfl rfl ?_
    intro a hf
    have hE := Chg.refl [p] w
    refine wS fun K1 hK1 => wS fun K2 hK2 => wR <| sM hf rfl rfl fun a hf => sV hf rfl (ex_nil hf rfl) fun a hf => sV hf rfl (ex_fa (k := 3) (r := 3) hf rfl (by kernel_rfl) rfl) fun a hf => sV hf rfl (ex_loadB hf rfl (by kernel_rfl) hB rfl) fun a hf => sV hf rfl (ex_eqI (c := false) hf rfl rfl (by simp; omega)) fun a hf => sN <| hK2 _ _ <| cF hf rfl <| wp_skip <| hK1 _ _ <| wR <| sM hf rfl rfl fun a hf => sV hf rfl (ex_nil hf rfl) fun a hf => sV hf rfl (ex_fa (k := 0) (r := 0) hf rfl (by kernel_rfl) rfl) fun a hf => ?_
    obtain ⟨w3, he, hB4, hx5⟩ := ef_store (P := Try.prog) (t := 42) (x := (.tmp 22)) (y := (.const (.slice none 0 0))) hf rfl rfl (by kernel_rfl) rfl hB (Nat.le_of_ble_eq_true rfl) 0
    refine st_s hf rfl rfl he fun a hf => ?_
    replace hE := hE.trans hx5 (allc (.inl (by simp)) all0)
    clear hB
    refine sN ?_
    try simp only [Exit.then, Exit.inBlock]
    exact end_of (rs := []) hf rfl rfl ⟨rfl, (pFail_some e h0).symm ▸ ⟨hH, ok_nil hok hok.2.2.1, _, hB4, tokSl_nil _ _ _ _ (Nat.zero_le _)⟩, hE⟩
theorem pTakeL {H p : Nat} {s : PS} {t : Tok} {r : List Tok} {w : World} (hP : PAt H w p s) (hs : s.toks = t :: r) : Calls Try.prog 81 [.pointer (some ⟨p, 0, none⟩)].toArray w fun x w' => x = .returned (tokV t) ∧ PAt H w' p (pTake s) ∧ Chg [p] w w' := by
  obtain ⟨toks, off, size, failed, place⟩ := s
  simp only at hs
  subst hs
  obtain ⟨hH, hok, v, hB, hTS⟩ := hP
  dsimp only at hB hTS
  obtain ⟨A, c, rfl, hc1, hc2, hrow⟩ := id hTS
  obtain ⟨tb, to, rfl, hS, lt_tb, hcell⟩ := hrow.2 (by simp)
  have hT := tok_cells3 rfl hcell
  have ne_tb_p : tb ≠ p := by omega
  cases r with
  | nil =>
    refine enter_fr 51 Try.func81 rfl rfl rfl ?_
    intro a hf
    have hE := Chg.refl [p] w
    refine wS fun K1 hK1 => wR ?_
    obtain ⟨w2, b3, he, hB4, hx5, eb6, lb7⟩ := ef_alloc (P := Try.prog) (t := 49) [.int .i64 0, .string ⟨([] : List UInt8).toArray⟩, .string ⟨([] : List UInt8).toArray⟩] (by kernel_rfl) a w 0
    refine sV hf rfl he fun a hf => ?_
    have ne_p_b3 : p ≠ b3 := ne_new hB.lt eb6
    have ne_tb_b3 : tb ≠ b3 := ne_new lt_tb eb6
    have ge_b3 := ge_new hE eb6
    replace hB := hB.c0 hx5
    replace hT : ∀ j, j < 3 → w2.cell? ⟨tb, to + j, none⟩ = _ := fun j hj => (hx5.cell lt_tb nm0).trans (hT j hj)
    replace lt_tb := hx5.lt lt_tb
    replace hE := hE.t0 hx5
    clear eb6 lb7
    refine sN <| hK1 _ _ <| wS fun K8 hK8 => wR <| sM hf rfl rfl fun a hf => sV hf rfl (ex_nil hf rfl) fun a hf => sV hf rfl (ex_fa (k := 0) (r := 0) hf rfl (by kernel_rfl) rfl) fun a hf => sV hf rfl (ex_loadB hf rfl (by kernel_rfl) hB rfl) fun a hf => sV hf rfl (ex_index (sz := 3) (k := 0) (r := to) hf Try.underlying42 (by kernel_rfl) rfl rfl rfl (by simp) rfl) fun a hf => sV hf rfl (ex_loadN (cs := [.int .i64 t.kind, strV t.lead, strV t.text]) (m := 3) hf rfl (by kernel_rfl) rfl hT) fun a hf => ?_
    obtain ⟨w9, b10, he, hB11, hx12, eb13, lb14⟩ := ef_alloc (P := Try.prog) (t := 49) [.int .i64 0, .string ⟨([] : List UInt8).toArray⟩, .string ⟨([] : List UInt8).toArray⟩] (by kernel_rfl) a w2 0
    refine sV hf rfl he fun a hf => ?_
    have ne_p_b10 : p ≠ b10 := ne_new hB.lt eb13
    have ne_b3_b10 : b3 ≠ b10 := ne_new hB4.lt eb13
    have ne_tb_b10 : tb ≠ b10 := ne_new lt_tb eb13
    have ge_b10 := ge_new hE eb13
    replace hB := hB.c0 hx12
    replace hB4 := hB4.c0 hx12
    replace hT : ∀ j, j < 3 → w9.cell? ⟨tb, to + j, none⟩ = _ := fun j hj => (hx12.cell lt_tb nm0).trans (hT j hj)
    replace lt_tb := hx12.lt lt_tb
    replace hE := hE.t0 hx12
    clear eb13 lb14
    obtain ⟨w15, he, hB16, hx17⟩ := ef_storeN (P := Try.prog) (t := 49) (x := (.tmp 3)) (y := (.tmp 9)) (m := 3) hf rfl rfl (by kernel_rfl) rfl rfl hB11 rfl 0
    refine st_s hf rfl rfl he fun a hf => ?_
    replace hB := hB.chg hx17 (nmc ne_p_b10 nm0)
    replace hB4 := hB4.chg hx17 (nmc ne_b3_b10 nm0)
    replace hT : ∀ j, j < 3 → w15.cell? ⟨tb, to + j, none⟩ = _ := fun j hj => (hx17.cell lt_tb (nmc ne_tb_b10 nm0)).trans (hT j hj)
    replace lt_tb := hx17.lt lt_tb
    replace hE := hE.trans hx17 (allc (.inr ge_b10) all0)
    clear hB11
    refine sN <| hK8 _ _ <| wS fun K18 hK18 => wR <| sM hf rfl rfl fun a hf => sM hf rfl rfl fun a hf => sV hf rfl (ex_nil hf rfl) fun a hf => sV hf rfl (ex_fa (k := 0) (r := 0) hf rfl (by kernel_rfl) rfl) fun a hf => sV hf rfl (ex_loadB hf rfl (by kernel_rfl) hB rfl) fun a hf => sV hf rfl (ex_slL (sz := 3) (k := 1) (A' := _) (m' := 0) hf Try.underlying42 (by kernel_rfl) rfl rfl (by simp) rfl rfl) fun a hf => sV hf rfl (ex_nil hf rfl) fun a hf => sV hf rfl (ex_fa (k := 0) (r := 0) hf rfl (by kernel_rfl) rfl) fun a hf => ?_
    obtain ⟨w19, he, hB20, hx21⟩ := ef_store (P := Try.prog) (t := 42) (x := (.tmp 17)) (y := (.tmp 15)) hf rfl rfl (by kernel_rfl) rfl hB (Nat.le_of_ble_eq_true rfl) 0
    refine st_s hf rfl rfl he fun a hf => ?_
    replace hB4 := hB4.chg hx21 (nmc (Ne.symm ne_p_b3) nm0)
    replace hB16 := hB16.chg hx21 (nmc (Ne.symm ne_p_b10) nm0)
    replace hT : ∀ j, j < 3 → w19.cell? ⟨tb, to + j, none⟩ = _ := fun j hj => (hx21.cell lt_tb (nmc ne_tb_p nm0)).trans (hT j hj)
    replace lt_tb := hx21.lt lt_tb
    replace hE := hE.trans hx21 (allc (.inl (by simp)) all0)
    clear hB
    refine sN <| hK18 _ _ <| wS fun K22 hK22 => wS fun K23 hK23 => wR <| sM hf rfl rfl fun a hf => sV hf rfl (ex_nil hf rfl) fun a hf => sV hf rfl (ex_fa (k := 0) (r := 0) hf rfl (by kernel_rfl) rfl) fun a hf => sV hf rfl (ex_loadB hf rfl (by kernel_rfl) hB20 rfl) fun a hf => sV hf rfl (ex_len hf Try.underlying42 rfl) fun a hf => sV hf rfl (ex_eqI (c := true) hf rfl rfl rfl) fun a hf => sN <| hK23 _ _ <| cT hf rfl <| wR <| sM hf rfl rfl fun a hf => sM hf rfl rfl fun a hf => sV hf rfl (ex_nil hf rfl) fun a hf => sV hf rfl (ex_fa (k := 2) (r := 2) hf rfl (by kernel_rfl) rfl) fun a hf => sV hf rfl (ex_loadB hf rfl (by kernel_rfl) hB20 rfl) fun a hf => sV hf rfl (ex_nil hf rfl) fun a hf => sV hf rfl (ex_fa (k := 1) (r := 1) hf rfl (by kernel_rfl) rfl) fun a hf => ?_
    obtain ⟨w24, he, hB25, hx26⟩ := ef_store (P := Try.prog) (t := 3) (x := (.tmp 30)) (y := (.tmp 28)) hf rfl rfl (by kernel_rfl) rfl hB20 (Nat.le_of_ble_eq_true rfl) 0
    refine st_s hf rfl rfl he fun a hf => ?_
    replace hB4 := hB4.chg hx26 (nmc (Ne.symm ne_p_b3) nm0)
    replace hB16 := hB16.chg hx26 (nmc (Ne.symm ne_p_b10) nm0)
    replace hT : ∀ j, j < 3 → w24.cell? ⟨tb, to + j, none⟩ = _ := fun j hj => (hx26.cell lt_tb (nmc ne_tb_p nm0)).trans (hT j hj)
    replace lt_tb := hx26.lt lt_tb
    replace hE := hE.trans hx26 (allc (.inl (by simp)) all0)
    clear hB20
    refine sN <| hK22 _ _ <| wS fun K27 hK27 => wR <| sV hf rfl (ex_loadBN (m := 3) hf rfl (by kernel_rfl) hB16 rfl) fun a hf => ?_
    obtain ⟨w28, he, hB29, hx30⟩ := ef_storeN (P := Try.prog) (t := 49) (x := (.tmp 2)) (y := (.tmp 50)) (m := 3) hf rfl rfl (by kernel_rfl) rfl rfl hB4 rfl 0
    refine st_s hf rfl rfl he fun a hf => ?_
    replace hB25 := hB25.chg hx30 (nmc ne_p_b3 nm0)
    replace hB16 := hB16.chg hx30 (nmc (Ne.symm ne_b3_b10) nm0)
    replace hT : ∀ j, j < 3 → w28.cell? ⟨tb, to + j, none⟩ = _ := fun j hj => (hx30.cell lt_tb (nmc ne_tb_b3 nm0)).trans (hT j hj)
    replace lt_tb := hx30.lt lt_tb
    replace hE := hE.trans hx30 (allc (.inr ge_b3) all0)
    clear hB4
    refine sN <| hK27 _ _ <| wp_ret ?_
    try simp only [Exit.then, Exit.inBlock]
    exact ret_of (rs := [.cell 2 49]) hf rfl ⟨_, _, _, _, 3, rfl, rfl, by kernel_rfl, hB29, rfl, rfl⟩ ⟨rfl, ⟨hH, ok_take1 hok, _, hB25, tokSl_nil _ _ _ _ (by omega)⟩, hE⟩
  | cons u r =>
    have hTT := tokSl_tail (S := fun b => b < H) hS lt_tb hc1 hc2 hcell
    have hU : w.cell? ⟨tb, to + 3 + 1, none⟩ = some (strV u.lead) := by
      have := hcell 4 (by simp; omega)
      rw [Nat.add_assoc]; rw [this]; rfl
    have hA : (if c = 1 then some (⟨tb, to, none⟩ : Addr) else (some (⟨tb, to, none⟩ : Addr)).map (·.add (1 * 3))) = some ⟨tb, to + 3, none⟩ := by
      rw [if_neg (by simp at hc1; omega)]; simp [addr_add]
    clear hcell
    refine enter_fr 51 Try.func81 rfl rfl rfl ?_
    intro a hf
    have hE := Chg.refl [p] w
    refine wS fun K1 hK1 => wR ?_
    obtain ⟨w2, b3, he, hB4, hx5, eb6, lb7⟩ := ef_alloc (P := Try.prog) (t := 49) [.int .i64 0, .string ⟨([] : List UInt8).toArray⟩, .string ⟨([] : List UInt8).toArray⟩] (by kernel_rfl) a w 0
    refine sV hf rfl he fun a hf => ?_
    have ne_p_b3 : p ≠ b3 := ne_new hB.lt eb6
    have ne_tb_b3 : tb ≠ b3 := ne_new lt_tb eb6
    have ge_b3 := ge_new hE eb6
    replace hB := hB.c0 hx5
    replace hU : w2.cell? ⟨tb, to + 3 + 1, none⟩ = _ := (hx5.cell lt_tb nm0).trans hU
    replace hT : ∀ j, j < 3 → w2.cell? ⟨tb, to + j, none⟩ = _ := fun j hj => (hx5.cell lt_tb nm0).trans (hT j hj)
    replace lt_tb := hx5.lt lt_tb
    replace hE := hE.t0 hx5
    clear eb6 lb7
    refine sN <| hK1 _ _ <| wS fun K8 hK8 => wR <| sM hf rfl rfl fun a hf => sV hf rfl (ex_nil hf rfl) fun a hf => sV hf rfl (ex_fa (k := 0) (r := 0) hf rfl (by kernel_rfl) rfl) fun a hf => sV hf rfl (ex_loadB hf rfl (by kernel_rfl) hB rfl) fun a hf => sV hf rfl (ex_index (sz := 3) (k := 0) (r := to) hf Try.underlying42 (by kernel_rfl) rfl rfl rfl (by simp) rfl) fun a hf => sV hf rfl (ex_loadN (cs := [.int .i64 t.kind, strV t.lead, strV t.text]) (m := 3) hf rfl (by kernel_rfl) rfl hT) fun a hf => ?_
    obtain ⟨w9, b10, he, hB11, hx12, eb13, lb14⟩ := ef_alloc (P := Try.prog) (t := 49) [.int .i64 0, .string ⟨([] : List UInt8).toArray⟩, .string ⟨([] : List UInt8).toArray⟩] (by kernel_rfl) a w2 0
    refine sV hf rfl he fun a hf => ?_
    have ne_p_b10 : p ≠ b10 := ne_new hB.lt eb13
    have ne_b3_b10 : b3 ≠ b10 := ne_new hB4.lt eb13
    have ne_tb_b10 : tb ≠ b10 := ne_new lt_tb eb13
    have ge_b10 := ge_new hE eb13
    replace hB := hB.c0 hx12
    replace hB4 := hB4.c0 hx12
    replace hU : w9.cell? ⟨tb, to + 3 + 1, none⟩ = _ := (hx12.cell lt_tb nm0).trans hU
    replace hT : ∀ j, j < 3 → w9.cell? ⟨tb, to + j, none⟩ = _ := fun j hj => (hx12.cell lt_tb nm0).trans (hT j hj)
    replace lt_tb := hx12.lt lt_tb
    replace hE := hE.t0 hx12
    clear eb13 lb14
    obtain ⟨w15, he, hB16, hx17⟩ := ef_storeN (P := Try.prog) (t := 49) (x := (.tmp 3)) (y := (.tmp 9)) (m := 3) hf rfl rfl (by kernel_rfl) rfl rfl hB11 rfl 0
    refine st_s hf rfl rfl he fun a hf => ?_
    replace hB := hB.chg hx17 (nmc ne_p_b10 nm0)
    replace hB4 := hB4.chg hx17 (nmc ne_b3_b10 nm0)
    replace hU : w15.cell? ⟨tb, to + 3 + 1, none⟩ = _ := (hx17.cell lt_tb (nmc ne_tb_b10 nm0)).trans hU
    replace hT : ∀ j, j < 3 → w15.cell? ⟨tb, to + j, none⟩ = _ := fun j hj => (hx17.cell lt_tb (nmc ne_tb_b10 nm0)).trans (hT j hj)
    replace lt_tb := hx17.lt lt_tb
    replace hE := hE.trans hx17 (allc (.inr ge_b10) all0)
    clear hB11
    refine sN <| hK8 _ _ <| wS fun K18 hK18 => wR <| sM hf rfl rfl fun a hf => sM hf rfl rfl fun a hf => sV hf rfl (ex_nil hf rfl) fun a hf => sV hf rfl (ex_fa (k := 0) (r := 0) hf rfl (by kernel_rfl) rfl) fun a hf => sV hf rfl (ex_loadB hf rfl (by kernel_rfl) hB rfl) fun a hf => sV hf rfl (ex_slL (sz := 3) (k := 1) (A' := some ⟨tb, to + 3, none⟩) (m' := (u :: r).length) hf Try.underlying42 (by kernel_rfl) rfl rfl (by simp) hA rfl) fun a hf => sV hf rfl (ex_nil hf rfl) fun a hf => sV hf rfl (ex_fa (k := 0) (r := 0) hf rfl (by kernel_rfl) rfl) fun a hf => ?_
    obtain ⟨w19, he, hB20, hx21⟩ := ef_store (P := Try.prog) (t := 42) (x := (.tmp 17)) (y := (.tmp 15)) hf rfl rfl (by kernel_rfl) rfl hB (Nat.le_of_ble_eq_true rfl) 0
    refine st_s hf rfl rfl he fun a hf => ?_
    replace hB4 := hB4.chg hx21 (nmc (Ne.symm ne_p_b3) nm0)
    replace hB16 := hB16.chg hx21 (nmc (Ne.symm ne_p_b10) nm0)
    replace hU : w19.cell? ⟨tb, to + 3 + 1, none⟩ = _ := (hx21.cell lt_tb (nmc ne_tb_p nm0)).trans hU
    replace hT : ∀ j, j < 3 → w19.cell? ⟨tb, to + j, none⟩ = _ := fun j hj => (hx21.cell lt_tb (nmc ne_tb_p nm0)).trans (hT j hj)
    replace lt_tb := hx21.lt lt_tb
    replace hE := hE.trans hx21 (allc (.inl (by simp)) all0)
    clear hB
    refine sN <| hK18 _ _ <| wS fun K22 hK22 => wS fun K23 hK23 => wR <| sM hf rfl rfl fun a hf => sV hf rfl (ex_nil hf rfl) fun a hf => sV hf rfl (ex_fa (k := 0) (r := 0) hf rfl (by kernel_rfl) rfl) fun a hf => sV hf rfl (ex_loadB hf rfl (by kernel_rfl) hB20 rfl) fun a hf => sV hf rfl (ex_len hf Try.underlying42 rfl) fun a hf => sV hf rfl (ex_eqI (c := false) hf rfl rfl (len_cons_ne _ _)) fun a hf => sN <| hK23 _ _ <| cF hf rfl ?_
    have s_hU := hU
    have s_hB20 := hB20
    have s_hB16 := hB16
    refine dl_start (fun x => x.cell? ⟨p, 1, none⟩ = w19.cell? ⟨p, 1, none⟩ ∧ x.cell? ⟨b10, 2, none⟩ = w19.cell? ⟨b10, 2, none⟩ ∧ x.cell? ⟨p, 0, none⟩ = w19.cell? ⟨p, 0, none⟩ ∧ x.cell? ⟨tb, to + 3 + 1, none⟩ = w19.cell? ⟨tb, to + 3 + 1, none⟩) 19 20 rfl (by kernel_rfl) (by kernel_rfl) ?_
    intro w24 hx25 hsel
    replace hB20 := hB20.c0 hx25
    replace hB4 := hB4.c0 hx25
    replace hB16 := hB16.c0 hx25
    replace hU : w24.cell? ⟨tb, to + 3 + 1, none⟩ = _ := (hx25.cell lt_tb nm0).trans hU
    replace hT : ∀ j, j < 3 → w24.cell? ⟨tb, to + j, none⟩ = _ := fun j hj => (hx25.cell lt_tb nm0).trans (hT j hj)
    replace lt_tb := hx25.lt lt_tb
    replace hE := hE.t0 hx25
    have hS0 : w24.cell? ⟨p, 1, none⟩ = w19.cell? ⟨p, 1, none⟩ ∧ w24.cell? ⟨b10, 2, none⟩ = w19.cell? ⟨b10, 2, none⟩ ∧ w24.cell? ⟨p, 0, none⟩ = w19.cell? ⟨p, 0, none⟩ ∧ w24.cell? ⟨tb, to + 3 + 1, none⟩ = w19.cell? ⟨tb, to + 3 + 1, none⟩ := ⟨(hB20.cell 1).trans (s_hB20.cell 1).symm, (hB16.cell 2).trans (s_hB16.cell 2).symm, (hB20.cell 0).trans (s_hB20.cell 0).symm, (hU.trans s_hU.symm)⟩
    refine dM 0 rfl rfl hsel (by kernel_rfl) hf rfl hS0 rfl fun a hf => dV 1 rfl rfl hsel (by kernel_rfl) hf rfl (.inl hS0) (fun x => ex_nil hf rfl) fun a hf => dV 2 rfl rfl hsel (by kernel_rfl) hf rfl (.inl hS0) (fun x => ex_fa (k := 1) (r := 1) hf rfl (by kernel_rfl) rfl) fun a hf => dL 3 rfl rfl hsel (by kernel_rfl) hf rfl hS0 (fun x hS => ex_load hf rfl (by kernel_rfl) (hS.1.trans ((s_hB20.cell 1).trans rfl))) fun a hf => dV 4 rfl rfl hsel (by kernel_rfl) hf rfl (.inl hS0) (fun x => ex_fa (k := 2) (r := 2) hf rfl (by kernel_rfl) rfl) fun a hf => dL 5 rfl rfl hsel (by kernel_rfl) hf rfl hS0 (fun x hS => ex_load hf rfl (by kernel_rfl) (hS.2.1.trans ((s_hB16.cell 2).trans rfl))) fun a hf => dV 6 rfl rfl hsel (by kernel_rfl) hf rfl (.inl hS0) (fun x => ex_lenS hf Try.underlying9 rfl) fun a hf => dM 7 rfl rfl hsel (by kernel_rfl) hf rfl hS0 rfl fun a hf => dV 8 rfl rfl hsel (by kernel_rfl) hf rfl (.inl hS0) (fun x => ex_nil hf rfl) fun a hf => dV 9 rfl rfl hsel (by kernel_rfl) hf rfl (.inl hS0) (fun x => ex_fa (k := 0) (r := 0) hf rfl (by kernel_rfl) rfl) fun a hf => dL 10 rfl rfl hsel (by kernel_rfl) hf rfl hS0 (fun x hS => ex_load hf rfl (by kernel_rfl) (hS.2.2.1.trans ((s_hB20.cell 0).trans rfl))) fun a hf => dV 11 rfl rfl hsel (by kernel_rfl) hf rfl (.inl hS0) (fun x => ex_index (sz := 3) (k := 0) (r := to + 3) hf Try.underlying42 (by kernel_rfl) rfl rfl rfl (by simp) rfl) fun a hf => dV 12 rfl rfl hsel (by kernel_rfl) hf rfl (.inl hS0) (fun x => ex_fa (k := 1) (r := to + 3 + 1) hf rfl (by kernel_rfl) rfl) fun a hf => dL 13 rfl rfl hsel (by kernel_rfl) hf rfl hS0 (fun x hS => ex_load hf rfl (by kernel_rfl) (hS.2.2.2.trans s_hU)) fun a hf => dV 14 rfl rfl hsel (by kernel_rfl) hf rfl (.inl hS0) (fun x => ex_lenS hf Try.underlying9 rfl) fun a hf => dV 15 rfl rfl hsel (by kernel_rfl) hf rfl (.inl hS0) (fun x => ex_addI hf rfl rfl rfl (by have := ok_sum hok; omega)) fun a hf => dV 16 rfl rfl hsel (by kernel_rfl) hf rfl (.inl hS0) (fun x => ex_addI hf rfl rfl rfl (by have := ok_sum hok; omega)) fun a hf => ?_
    refine dV 17 rfl rfl hsel (by kernel_rfl) hf rfl (.inl hS0) (fun x => ex_nil hf rfl) fun a hf => dV 18 rfl rfl hsel (by kernel_rfl) hf rfl (.inl hS0) (fun x => ex_fa (k := 1) (r := 1) hf rfl (by kernel_rfl) rfl) fun a hf => ?_
    obtain ⟨w26, he, hB27, hx28⟩ := ef_store (P := Try.prog) (t := 3) (x := (.tmp 49)) (y := (.tmp 47)) hf rfl rfl (by kernel_rfl) rfl hB20 (Nat.le_of_ble_eq_true rfl) 0
    refine dl_s 19 (by kernel_rfl) rfl hf rfl rfl he fun a hf => ?_
    replace hB4 := hB4.chg hx28 (nmc (Ne.symm ne_p_b3) nm0)
    replace hB16 := hB16.chg hx28 (nmc (Ne.symm ne_p_b10) nm0)
    replace hU : w26.cell? ⟨tb, to + 3 + 1, none⟩ = _ := (hx28.cell lt_tb (nmc ne_tb_p nm0)).trans hU
    replace hT : ∀ j, j < 3 → w26.cell? ⟨tb, to + j, none⟩ = _ := fun j hj => (hx28.cell lt_tb (nmc ne_tb_p nm0)).trans (hT j hj)
    replace lt_tb := hx28.lt lt_tb
    replace hE := hE.trans hx28 (allc (.inl (by simp)) all0)
    clear hB20
    refine ⟨.inr (by kernel_rfl), ?_⟩
    refine dl_done (by kernel_rfl) ?_
    clear hS0 hsel
    refine hK22 _ _ <| wS fun K29 hK29 => wR <| sV hf rfl (ex_loadBN (m := 3) hf rfl (by kernel_rfl) hB16 rfl) fun a hf => ?_
    obtain ⟨w30, he, hB31, hx32⟩ := ef_storeN (P := Try.prog) (t := 49) (x := (.tmp 2)) (y := (.tmp 50)) (m := 3) hf rfl rfl (by kernel_rfl) rfl rfl hB4 rfl 0
    refine st_s hf rfl rfl he fun a hf => ?_
    replace hB27 := hB27.chg hx32 (nmc ne_p_b3 nm0)
    replace hB16 := hB16.chg hx32 (nmc (Ne.symm ne_b3_b10) nm0)
    replace hU : w30.cell? ⟨tb, to + 3 + 1, none⟩ = _ := (hx32.cell lt_tb (nmc ne_tb_b3 nm0)).trans hU
    replace hT : ∀ j, j < 3 → w30.cell? ⟨tb, to + j, none⟩ = _ := fun j hj => (hx32.cell lt_tb (nmc ne_tb_b3 nm0)).trans (hT j hj)
    replace lt_tb := hx32.lt lt_tb
    replace hE := hE.trans hx32 (allc (.inr ge_b3) all0)
    clear hB4
    refine sN <| hK29 _ _ <| wp_ret ?_
    try simp only [Exit.then, Exit.inBlock]
    exact ret_of (rs := [.cell 2 49]) hf rfl ⟨_, _, _, _, 3, rfl, rfl, by kernel_rfl, hB31, rfl, rfl⟩ ⟨rfl, ⟨hH, ok_take2 hok, _, hB27, hTT.keep (fun _ h => h) (fun b hb hlt => hE.block b hlt (by simp; omega))⟩, hE⟩
theorem pWordL {H p : Nat} {s : PS} {x : List UInt8} {w : World} (hP : PAt H w p s) (hx : x ≠ []) : Calls Try.prog 48 [.pointer (some ⟨p, 0, none⟩), strV x].toArray w fun e w' => e = .returned (strV (pWord x s).1) ∧ PAt H w' p (pWord x s).2 ∧ Chg [p] w w' := by
  by_cases h : (pNext s).text = x
  · obtain ⟨t, r, hs, hn⟩ := pNext_cons (s := s) (.inl (by rw [h]; exact hx))
    have hq : pWord x s = (t.lead, pTake s) := by unfold pWord; rw [if_pos h, hn]
    refine enter_fr 15 Try.func48 rfl rfl rfl ?_
    intro a hf
    have hE := Chg.refl [p] w
    refine wS fun K1 hK1 => wR <| sA hf rfl rfl fun a hf => sN <| hK1 _ _ <| wS fun K2 hK2 => wS fun K3 hK3 => wR <| sM hf rfl rfl fun a hf => st_c hf rfl rfl rfl (by kernel_rfl) (pNextL hP) ?_
    rintro _ w5 ⟨rfl, hP, hx4⟩
    refine ⟨_, rfl, fun a hf => ?_⟩
    replace hE := hE.t0 hx4
    refine sV hf rfl (ex_fd (k := 2) hf rfl (by kernel_rfl) rfl) fun a hf => sM hf rfl rfl fun a hf => sV hf rfl (ex_neS (c := false) hf rfl rfl (by simp [h])) fun a hf => sN <| hK3 _ _ <| cF hf rfl <| wp_skip <| hK2 _ _ <| wS fun K6 hK6 => wR <| sM hf rfl rfl fun a hf => st_c hf rfl rfl rfl (by kernel_rfl) (pTakeL hP hs) ?_
    rintro _ w8 ⟨rfl, hP, hx7⟩
    refine ⟨_, rfl, fun a hf => ?_⟩
    replace hE := hE.trans hx7 (allc (.inl (by simp)) all0)
    refine sV hf rfl (ex_fd (k := 1) hf rfl (by kernel_rfl) rfl) fun a hf => sA hf rfl rfl fun a hf => sN <| hK6 _ _ <| wp_ret ?_
    try simp only [Exit.then, Exit.inBlock]
    exact ret_of (rs := [.tmp 4]) hf rfl ⟨_, _, rfl, rfl, rfl⟩ (by rw [hq]; exact ⟨rfl, hP, hE⟩)
  · have hq : pWord x s = ([], pFail 2 s) := by simp [pWord, h]
    refine enter_fr 15 Try.func48 rfl rfl rfl ?_
    intro a hf
    have hE := Chg.refl [p] w
    refine wS fun K1 hK1 => wR <| sA hf rfl rfl fun a hf => sN <| hK1 _ _ <| wS fun K2 hK2 => wS fun K3 hK3 => wR <| sM hf rfl rfl fun a hf => st_c hf rfl rfl rfl (by kernel_rfl) (pNextL hP) ?_
    rintro _ w5 ⟨rfl, hP, hx4⟩
    refine ⟨_, rfl, fun a hf => ?_⟩
    replace hE := hE.t0 hx4
    refine sV hf rfl (ex_fd (k := 2) hf rfl (by kernel_rfl) rfl) fun a hf => sM hf rfl rfl fun a hf => sV hf rfl (ex_neS (c := true) hf rfl rfl (by simp [h])) fun a hf => sN <| hK3 _ _ <| cT hf rfl <| wS fun K6 hK6 => wR <| sM hf rfl rfl fun a hf => st_c hf rfl rfl rfl (by kernel_rfl) (pFailL (e := 2) hP (by decide)) ?_
    rintro _ w8 ⟨rfl, hP, hx7⟩
    refine ⟨_, rfl, fun a hf => ?_⟩
    replace hE := hE.trans hx7 (allc (.inl (by simp)) all0)
    refine sN <| hK6 _ _ <| wS fun K9 hK9 => wR <| sA hf rfl rfl fun a hf => sN <| hK9 _ _ <| wp_ret ?_
    try simp only [Exit.then, Exit.inBlock]
    exact ret_of (rs := [.tmp 4]) hf rfl ⟨_, _, rfl, rfl, rfl⟩ (by rw [hq]; exact ⟨rfl, hP, hE⟩)
theorem pNameL {H p : Nat} {s : PS} {k o : Int} {w : World} (hP : PAt H w p s) : Calls Try.prog 49 [.pointer (some ⟨p, 0, none⟩), .int .i64 k, .int .i64 o].toArray w fun e w' => e = .returned (.tuple #[strV (pName k o s).1, strV (pName k o s).2.1]) ∧ PAt H w' p (pName k o s).2.2 ∧ Chg [p] w w' := by
  by_cases h0 : (pNext s).kind = 0
  · have hq : pName k o s = ([], [], pFail 2 s) := by simp [pName, h0]
    refine enter_fr 33 Try.func49 rfl rfl rfl ?_
    intro a hf
    have hE := Chg.refl [p] w
    refine wS fun K1 hK1 => wR <| sA hf rfl rfl fun a hf => sA hf rfl rfl fun a hf => sN <| hK1 _ _ <| wS fun K2 hK2 => wR <| sM hf rfl rfl fun a hf => st_c hf rfl rfl rfl (by kernel_rfl) (pNextL hP) ?_
    rintro _ w4 ⟨rfl, hP, hx3⟩
    refine ⟨_, rfl, fun a hf => ?_⟩
    replace hE := hE.t0 hx3
    refine sV hf rfl (ex_fd (k := 0) hf rfl (by kernel_rfl) rfl) fun a hf => sA hf rfl rfl fun a hf => sN <| hK2 _ _ <| wS fun K5 hK5 => wS fun K6 hK6 => wR <| sM hf rfl rfl fun a hf => sV hf rfl (ex_eqI (c := true) hf rfl rfl (by simp [h0])) fun a hf => sM hf rfl rfl fun a hf => st_k hf rfl rfl fun a hf => st_k hf rfl rfl fun a hf => st_k hf rfl rfl fun a hf => st_k hf rfl rfl fun a hf => st_k hf rfl rfl fun a hf => st_k hf rfl rfl fun a hf => st_k hf rfl rfl fun a hf => st_k hf rfl rfl fun a hf => sV hf rfl (ex_pickT hf rfl rfl) fun a hf => sN <| hK6 _ _ <| cT hf rfl <| wS fun K7 hK7 => wR <| sM hf rfl rfl fun a hf => st_c hf rfl rfl rfl (by kernel_rfl) (pFailL (e := 2) hP (by decide)) ?_
    rintro _ w9 ⟨rfl, hP, hx8⟩
    refine ⟨_, rfl, fun a hf => ?_⟩
    replace hE := hE.trans hx8 (allc (.inl (by simp)) all0)
    refine sN <| hK7 _ _ <| wS fun K10 hK10 => wR <| sA hf rfl rfl fun a hf => sA hf rfl rfl fun a hf => sN <| hK10 _ _ <| wp_ret ?_
    try simp only [Exit.then, Exit.inBlock]
    exact ret_of (rs := [.tmp 6, .tmp 7]) hf rfl ⟨_, _, rfl, rfl, ⟨_, _, rfl, rfl, rfl⟩⟩ (by rw [hq]; exact ⟨rfl, hP, hE⟩)
  obtain ⟨t, r, hs, hn⟩ := pNext_cons (s := s) (.inr h0)
  by_cases h1 : (pNext s).kind = k
  · have hq : pName k o s = (t.text, t.lead, pTake s) := by unfold pName; rw [if_neg (fun hh => hh.elim h0 (fun hh => hh.1 h1)), hn]
    refine enter_fr 33 Try.func49 rfl rfl rfl ?_
    intro a hf
    have hE := Chg.refl [p] w
    refine wS fun K1 hK1 => wR <| sA hf rfl rfl fun a hf => sA hf rfl rfl fun a hf => sN <| hK1 _ _ <| wS fun K2 hK2 => wR <| sM hf rfl rfl fun a hf => st_c hf rfl rfl rfl (by kernel_rfl) (pNextL hP) ?_
    rintro _ w4 ⟨rfl, hP, hx3⟩
    refine ⟨_, rfl, fun a hf => ?_⟩
    replace hE := hE.t0 hx3
    refine sV hf rfl (ex_fd (k := 0) hf rfl (by kernel_rfl) rfl) fun a hf => sA hf rfl rfl fun a hf => sN <| hK2 _ _ <| wS fun K5 hK5 => wS fun K6 hK6 => wR <| sM hf rfl rfl fun a hf => sV hf rfl (ex_eqI (c := false) hf rfl rfl (by simp [h0])) fun a hf => sM hf rfl rfl fun a hf => sM hf rfl rfl fun a hf => sM hf rfl rfl fun a hf => sV hf rfl (ex_neI (c := false) hf rfl rfl (by simp [h1])) fun a hf => sM hf rfl rfl fun a hf => st_k hf rfl rfl fun a hf => st_k hf rfl rfl fun a hf => st_k hf rfl rfl fun a hf => sV hf rfl (ex_pickF hf rfl rfl) fun a hf => sV hf rfl (ex_pickF hf rfl rfl) fun a hf => sN <| hK6 _ _ <| cF hf rfl <| wp_skip <| hK5 _ _ <| wS fun K7 hK7 => wR <| sM hf rfl rfl fun a hf => st_c hf rfl rfl rfl (by kernel_rfl) (pTakeL hP hs) ?_
    rintro _ w9 ⟨rfl, hP, hx8⟩
    refine ⟨_, rfl, fun a hf => ?_⟩
    replace hE := hE.trans hx8 (allc (.inl (by simp)) all0)
    obtain ⟨w10, b11, he, hB12, hx13, eb14, lb15⟩ := ef_alloc (P := Try.prog) (t := 49) [.int .i64 0, .string ⟨([] : List UInt8).toArray⟩, .string ⟨([] : List UInt8).toArray⟩] (by kernel_rfl) a w9 0
    refine sV hf rfl he fun a hf => ?_
    have ne_p_b11 : p ≠ b11 := ne_new hP.lt eb14
    have ge_b11 := ge_new hE eb14
    have hH_b11 : H ≤ b11 := by have := hP.le; have := hP.lt; omega
    replace hP := hP.chg hx13 all0
    replace hE := hE.t0 hx13
    clear eb14 lb15
    obtain ⟨w16, he, hB17, hx18⟩ := ef_storeN (P := Try.prog) (t := 49) (x := (.tmp 9)) (y := (.tmp 28)) (m := 3) hf rfl rfl (by kernel_rfl) rfl rfl hB12 rfl 0
    refine st_s hf rfl rfl he fun a hf => ?_
    replace hP := hP.chg hx18 (allc ⟨hH_b11, ne_p_b11⟩ all0)
    replace hE := hE.trans hx18 (allc (.inr ge_b11) all0)
    clear hB12
    refine sN <| hK7 _ _ <| wS fun K19 hK19 => ?_
    have s_hB17 := hB17
    refine dl_start (fun x => x.cell? ⟨b11, 2, none⟩ = w16.cell? ⟨b11, 2, none⟩ ∧ x.cell? ⟨b11, 1, none⟩ = w16.cell? ⟨b11, 1, none⟩) 6 6 rfl (by kernel_rfl) (by kernel_rfl) ?_
    intro w20 hx21 hsel
    replace hB17 := hB17.c0 hx21
    replace hP := hP.chg hx21 all0
    replace hE := hE.t0 hx21
    have hS0 : w20.cell? ⟨b11, 2, none⟩ = w16.cell? ⟨b11, 2, none⟩ ∧ w20.cell? ⟨b11, 1, none⟩ = w16.cell? ⟨b11, 1, none⟩ := ⟨(hB17.cell 2).trans (s_hB17.cell 2).symm, (hB17.cell 1).trans (s_hB17.cell 1).symm⟩
    refine dV 0 rfl rfl hsel (by kernel_rfl) hf rfl (.inl hS0) (fun x => ex_fa (k := 2) (r := 2) hf rfl (by kernel_rfl) rfl) fun a hf => dL 1 rfl rfl hsel (by kernel_rfl) hf rfl hS0 (fun x hS => ex_load hf rfl (by kernel_rfl) (hS.1.trans ((s_hB17.cell 2).trans rfl))) fun a hf => dV 2 rfl rfl hsel (by kernel_rfl) hf rfl (.inl hS0) (fun x => ex_fa (k := 1) (r := 1) hf rfl (by kernel_rfl) rfl) fun a hf => dL 3 rfl rfl hsel (by kernel_rfl) hf rfl hS0 (fun x hS => ex_load hf rfl (by kernel_rfl) (hS.2.trans ((s_hB17.cell 1).trans rfl))) fun a hf => dV 4 rfl rfl hsel (by kernel_rfl) hf rfl (.inl hS0) (fun x => ex_assign hf rfl) fun a hf => dV 5 rfl rfl hsel (by kernel_rfl) hf rfl (.inl hS0) (fun x => ex_assign hf rfl) fun a hf => dl_done (by kernel_rfl) ?_
    clear hS0 hsel
    refine hK19 _ _ <| wp_ret ?_
    try simp only [Exit.then, Exit.inBlock]
    exact ret_of (rs := [.tmp 6, .tmp 7]) hf rfl ⟨_, _, rfl, rfl, ⟨_, _, rfl, rfl, rfl⟩⟩ (by rw [hq]; exact ⟨rfl, hP, hE⟩)
  by_cases h2 : (pNext s).kind = o
  · have hq : pName k o s = (t.text, t.lead, pTake s) := by unfold pName; rw [if_neg (fun hh => hh.elim h0 (fun hh => hh.2 h2)), hn]
    refine enter_fr 33 Try.func49 rfl rfl rfl ?_
    intro a hf
    have hE := Chg.refl [p] w
    refine wS fun K1 hK1 => wR <| sA hf rfl rfl fun a hf => sA hf rfl rfl fun a hf => sN <| hK1 _ _ <| wS fun K2 hK2 => wR <| sM hf rfl rfl fun a hf => st_c hf rfl rfl rfl (by kernel_rfl) (pNextL hP) ?_
    rintro _ w4 ⟨rfl, hP, hx3⟩
    refine ⟨_, rfl, fun a hf => ?_⟩
    replace hE := hE.t0 hx3
    refine sV hf rfl (ex_fd (k := 0) hf rfl (by kernel_rfl) rfl) fun a hf => sA hf rfl rfl fun a hf => sN <| hK2 _ _ <| wS fun K5 hK5 => wS fun K6 hK6 => wR <| sM hf rfl rfl fun a hf => sV hf rfl (ex_eqI (c := false) hf rfl rfl (by simp [h0])) fun a hf => sM hf rfl rfl fun a hf => sM hf rfl rfl fun a hf => sM hf rfl rfl fun a hf => sV hf rfl (ex_neI (c := true) hf rfl rfl (by simp [h1])) fun a hf => sM hf rfl rfl fun a hf => sM hf rfl rfl fun a hf => sM hf rfl rfl fun a hf => sV hf rfl (ex_neI (c := false) hf rfl rfl (by simp [h2])) fun a hf => sV hf rfl (ex_pickT hf rfl rfl) fun a hf => sV hf rfl (ex_pickF hf rfl rfl) fun a hf => sN <| hK6 _ _ <| cF hf rfl <| wp_skip <| hK5 _ _ <| wS fun K7 hK7 => wR <| sM hf rfl rfl fun a hf => st_c hf rfl rfl rfl (by kernel_rfl) (pTakeL hP hs) ?_
    rintro _ w9 ⟨rfl, hP, hx8⟩
    refine ⟨_, rfl, fun a hf => ?_⟩
    replace hE := hE.trans hx8 (allc (.inl (by simp)) all0)
    obtain ⟨w10, b11, he, hB12, hx13, eb14, lb15⟩ := ef_alloc (P := Try.prog) (t := 49) [.int .i64 0, .string ⟨([] : List UInt8).toArray⟩, .string ⟨([] : List UInt8).toArray⟩] (by kernel_rfl) a w9 0
    refine sV hf rfl he fun a hf => ?_
    have ne_p_b11 : p ≠ b11 := ne_new hP.lt eb14
    have ge_b11 := ge_new hE eb14
    have hH_b11 : H ≤ b11 := by have := hP.le; have := hP.lt; omega
    replace hP := hP.chg hx13 all0
    replace hE := hE.t0 hx13
    clear eb14 lb15
    obtain ⟨w16, he, hB17, hx18⟩ := ef_storeN (P := Try.prog) (t := 49) (x := (.tmp 9)) (y := (.tmp 28)) (m := 3) hf rfl rfl (by kernel_rfl) rfl rfl hB12 rfl 0
    refine st_s hf rfl rfl he fun a hf => ?_
    replace hP := hP.chg hx18 (allc ⟨hH_b11, ne_p_b11⟩ all0)
    replace hE := hE.trans hx18 (allc (.inr ge_b11) all0)
    clear hB12
    refine sN <| hK7 _ _ <| wS fun K19 hK19 => ?_
    have s_hB17 := hB17
    refine dl_start (fun x => x.cell? ⟨b11, 2, none⟩ = w16.cell? ⟨b11, 2, none⟩ ∧ x.cell? ⟨b11, 1, none⟩ = w16.cell? ⟨b11, 1, none⟩) 6 6 rfl (by kernel_rfl) (by kernel_rfl) ?_
    intro w20 hx21 hsel
    replace hB17 := hB17.c0 hx21
    replace hP := hP.chg hx21 all0
    replace hE := hE.t0 hx21
    have hS0 : w20.cell? ⟨b11, 2, none⟩ = w16.cell? ⟨b11, 2, none⟩ ∧ w20.cell? ⟨b11, 1, none⟩ = w16.cell? ⟨b11, 1, none⟩ := ⟨(hB17.cell 2).trans (s_hB17.cell 2).symm, (hB17.cell 1).trans (s_hB17.cell 1).symm⟩
    refine dV 0 rfl rfl hsel (by kernel_rfl) hf rfl (.inl hS0) (fun x => ex_fa (k := 2) (r := 2) hf rfl (by kernel_rfl) rfl) fun a hf => dL 1 rfl rfl hsel (by kernel_rfl) hf rfl hS0 (fun x hS => ex_load hf rfl (by kernel_rfl) (hS.1.trans ((s_hB17.cell 2).trans rfl))) fun a hf => dV 2 rfl rfl hsel (by kernel_rfl) hf rfl (.inl hS0) (fun x => ex_fa (k := 1) (r := 1) hf rfl (by kernel_rfl) rfl) fun a hf => dL 3 rfl rfl hsel (by kernel_rfl) hf rfl hS0 (fun x hS => ex_load hf rfl (by kernel_rfl) (hS.2.trans ((s_hB17.cell 1).trans rfl))) fun a hf => dV 4 rfl rfl hsel (by kernel_rfl) hf rfl (.inl hS0) (fun x => ex_assign hf rfl) fun a hf => dV 5 rfl rfl hsel (by kernel_rfl) hf rfl (.inl hS0) (fun x => ex_assign hf rfl) fun a hf => dl_done (by kernel_rfl) ?_
    clear hS0 hsel
    refine hK19 _ _ <| wp_ret ?_
    try simp only [Exit.then, Exit.inBlock]
    exact ret_of (rs := [.tmp 6, .tmp 7]) hf rfl ⟨_, _, rfl, rfl, ⟨_, _, rfl, rfl, rfl⟩⟩ (by rw [hq]; exact ⟨rfl, hP, hE⟩)
  · have hq : pName k o s = ([], [], pFail 2 s) := by unfold pName; rw [if_pos (.inr ⟨h1, h2⟩)]
    refine enter_fr 33 Try.func49 rfl rfl rfl ?_
    intro a hf
    have hE := Chg.refl [p] w
    refine wS fun K1 hK1 => wR <| sA hf rfl rfl fun a hf => sA hf rfl rfl fun a hf => sN <| hK1 _ _ <| wS fun K2 hK2 => wR <| sM hf rfl rfl fun a hf => st_c hf rfl rfl rfl (by kernel_rfl) (pNextL hP) ?_
    rintro _ w4 ⟨rfl, hP, hx3⟩
    refine ⟨_, rfl, fun a hf => ?_⟩
    replace hE := hE.t0 hx3
    refine sV hf rfl (ex_fd (k := 0) hf rfl (by kernel_rfl) rfl) fun a hf => sA hf rfl rfl fun a hf => sN <| hK2 _ _ <| wS fun K5 hK5 => wS fun K6 hK6 => wR <| sM hf rfl rfl fun a hf => sV hf rfl (ex_eqI (c := false) hf rfl rfl (by simp [h0])) fun a hf => sM hf rfl rfl fun a hf => sM hf rfl rfl fun a hf => sM hf rfl rfl fun a hf => sV hf rfl (ex_neI (c := true) hf rfl rfl (by simp [h1])) fun a hf => sM hf rfl rfl fun a hf => sM hf rfl rfl fun a hf => sM hf rfl rfl fun a hf => sV hf rfl (ex_neI (c := true) hf rfl rfl (by simp [h2])) fun a hf => sV hf rfl (ex_pickT hf rfl rfl) fun a hf => sV hf rfl (ex_pickF hf rfl rfl) fun a hf => sN <| hK6 _ _ <| cT hf rfl <| wS fun K7 hK7 => wR <| sM hf rfl rfl fun a hf => st_c hf rfl rfl rfl (by kernel_rfl) (pFailL (e := 2) hP (by decide)) ?_
    rintro _ w9 ⟨rfl, hP, hx8⟩
    refine ⟨_, rfl, fun a hf => ?_⟩
    replace hE := hE.trans hx8 (allc (.inl (by simp)) all0)
    refine sN <| hK7 _ _ <| wS fun K10 hK10 => wR <| sA hf rfl rfl fun a hf => sA hf rfl rfl fun a hf => sN <| hK10 _ _ <| wp_ret ?_
    try simp only [Exit.then, Exit.inBlock]
    exact ret_of (rs := [.tmp 6, .tmp 7]) hf rfl ⟨_, _, rfl, rfl, ⟨_, _, rfl, rfl, rfl⟩⟩ (by rw [hq]; exact ⟨rfl, hP, hE⟩)
end Go.Proofs.Ythpjpngfghcmcaa
namespace Go.Proofs.Ythpjpngfghcmcaa
open Go.RowKit Lx Sx
set_option maxRecDepth 100000
section
variable {S S' : Nat → Prop} {w w' : World} {X : List Nat}
theorem TreeIs.chg {t : Tree} {c : List Value} (h : TreeIs S w t c) (hx : Chg X w w') (hX : ∀ b, S b → b < w.heap.size → b ∉ X) : TreeIs S w' t c := h.keepB (fun _ h _ => h) (fun b hb hlt => hx.block b hlt (hX b hb hlt))
theorem TreeIs.mono {t : Tree} {c : List Value} (h : TreeIs S w t c) (hS : ∀ b, S b → S' b) : TreeIs S' w t c := h.keepB (fun b hb _ => hS b hb) (fun _ _ _ => rfl)
theorem KidsAre.chg {t : List Tree} {c : List Value} (h : KidsAre S w t c) (hx : Chg X w w') (hX : ∀ b, S b → b < w.heap.size → b ∉ X) : KidsAre S w' t c := h.keepB (fun _ h _ => h) (fun b hb hlt => hx.block b hlt (hX b hb hlt))
theorem KidsAre.mono {t : List Tree} {c : List Value} (h : KidsAre S w t c) (hS : ∀ b, S b → S' b) : KidsAre S' w t c := h.keepB (fun b hb _ => hS b hb) (fun _ _ _ => rfl)
theorem RowIn.of_blk {t : TypeId} {g size n : Nat} {cs : List Value} (h : Blk w g t cs) (hS : S g) (hl : cs.length = n * size) : RowIn S w size (some ⟨g, 0, none⟩) n cs :=
  ⟨hl, fun _ => ⟨g, 0, rfl, hS, h.lt, fun j _ => by rw [Nat.zero_add, h.cell]⟩⟩
theorem kids_one {t : Tree} {c : List Value} (h : TreeIs S w t c) : KidsAre S w [t] c := ⟨c, [], by simp, h, rfl⟩
theorem kids_two {t u : Tree} {c d : List Value} (h : TreeIs S w t c) (k : TreeIs S w u d) : KidsAre S w [t, u] (c ++ d) := ⟨c, d, rfl, h, kids_one k⟩
theorem kids_three {t u v : Tree} {c d e : List Value} (h : TreeIs S w t c) (k : TreeIs S w u d) (l : TreeIs S w v e) : KidsAre S w [t, u, v] (c ++ (d ++ e)) := ⟨c, d ++ e, rfl, h, kids_two k l⟩
theorem kids_none : KidsAre S w [] [] := rfl
end
theorem maxLen_ge {n : Nat} (h : Nat.ble n 1000000 = true) : n ≤ maxLen := by have := Nat.le_of_ble_eq_true h; simp only [maxLen]; omega
theorem pTake_len (s : PS) : (pTake s).toks.length ≤ s.toks.length := by
  unfold pTake
  split <;> simp_all
theorem pTake_lt {s : PS} {t : Tok} {r : List Tok} (h : s.toks = t :: r) : (pTake s).toks.length < s.toks.length := by
  unfold pTake
  rw [h]
  cases r <;> simp
theorem pFail_len (e : Nat) (s : PS) : (pFail e s).toks.length ≤ s.toks.length := by unfold pFail; split <;> simp
theorem pWord_len (x : List UInt8) (s : PS) : (pWord x s).2.toks.length ≤ s.toks.length := by
  unfold pWord
  split
  · exact pTake_len s
  · exact pFail_len 2 s
theorem pName_len (k o : Int) (s : PS) : (pName k o s).2.2.toks.length ≤ s.toks.length := by
  unfold pName
  split
  · exact pFail_len 2 s
  · exact pTake_len s
def TreePost (w : World) (H p : Nat) (s : PS) (r : Tree × PS) (e : Ending) (w' : World) : Prop :=
  ∃ c0 c1 c2 c3, e = .returned (.agg #[c0, c1, c2, c3]) ∧ TreeIs (fun b => w.heap.size ≤ b) w' r.1 [c0, c1, c2, c3] ∧ PAt H w' p r.2 ∧ Chg [p] w w' ∧ r.2.toks.length ≤ s.toks.length
theorem own_cap {w : World} {base : Nat} {e : TypeId} {size k cap g : Nat} {xs : List Value} (h : w.ownsRow base e size (.slice (some ⟨g, 0, none⟩) k cap) k xs) : k ≤ cap ∧ cap ≤ maxLen := by
  obtain ⟨A, c, hv, h1, h2⟩ := own_slice h
  injection hv with _ _ hc
  subst hc
  exact ⟨h1, h2⟩
def TypOk (n : Nat) : Prop := ∀ (H p : Nat) (s : PS) (w : World), PAt H w p s → s.toks.length < n → Calls Try.prog 83 [.pointer (some ⟨p, 0, none⟩)].toArray w (TreePost w H p s (typT n s))
theorem typ_step {n : Nat} (ih : TypOk n) : TypOk (n + 1) := by
    intro H p s w hP hn
    by_cases h0 : (pNext s).text = wInt
    · obtain ⟨t, r, hs, hnx⟩ := pNext_cons (s := s) (.inl (by rw [h0]; decide))
      have hq : typT (n + 1) s = (.node 5 [] [t.lead] [], pTake s) := by rw [typT, if_pos h0, hnx]
      refine enter_fr 54 Try.func83 rfl rfl rfl ?_
      intro a hf
      have hE := Chg.refl [p] w
      have hL := Nat.le_refl s.toks.length
      refine wS fun K1 hK1 => wR ?_
      obtain ⟨w2, b3, he, hB4, hx5, eb6, lb7⟩ := eT a w 0
      refine sV hf rfl he fun a hf => ?_
      have ne_p_b3 : p ≠ b3 := ne_new hP.lt eb6
      have ge_b3 := ge_new hE eb6
      have hH_b3 : H ≤ b3 := by have := hP.le; have := hP.lt; omega
      replace hP := hP.chg hx5 all0
      replace hE := hE.t0 hx5
      clear eb6 lb7
      refine sN <| hK1 _ _ <| wS fun K8 hK8 => wR <| sA hf rfl rfl fun a hf => sN <| hK8 _ _ <| wS fun K9 hK9 => wS fun K10 hK10 => wR <| sM hf rfl rfl fun a hf => st_c hf rfl rfl rfl (by kernel_rfl) (pNextL hP) ?_
      rintro _ w12 ⟨rfl, hP, hx11⟩
      refine ⟨_, rfl, fun a hf => ?_⟩
      replace hB4 := hB4.c0 hx11
      replace hE := hE.t0 hx11
      refine sV hf rfl (ex_fd (k := 2) hf rfl (by kernel_rfl) rfl) fun a hf => sN <| hK10 _ _ <| wp_block <| wS fun K13 hK13 => wR <| sV hf rfl (ex_eqS (c := true) hf rfl rfl (beqT h0)) fun a hf => sA hf rfl rfl fun a hf => sN <| hK13 _ _ <| cT hf rfl <| wR <| sA hf rfl rfl fun a hf => sN <| hK9 _ _ <| wS fun K14 hK14 => wR <| sM hf rfl rfl fun a hf => sM hf rfl rfl fun a hf => st_c hf rfl rfl rfl (by kernel_rfl) (pTakeL hP hs) ?_
      rintro _ w16 ⟨rfl, hP, hx15⟩
      refine ⟨_, rfl, fun a hf => ?_⟩
      replace hB4 := hB4.chg hx15 (nmc (Ne.symm ne_p_b3) nm0)
      replace hE := hE.trans hx15 (allc (.inl (by simp)) all0)
      replace hL := nlt (Nat.le_of_lt (pTake_lt hs)) hL
      refine sV hf rfl (ex_fd (k := 1) hf rfl (by kernel_rfl) rfl) fun a hf => ?_
      obtain ⟨w17, b18, he, hB19, hx20, eb21, lb22⟩ := ef_bslice (P := Try.prog) (ps := [(0, (.tmp 51))]) (m := 1) (sz := 1) (z := [.string ⟨([] : List UInt8).toArray⟩]) hf rfl Try.underlying23 (by kernel_rfl) (by kernel_rfl) rfl rfl (by kernel_rfl) rfl w16 23
      refine sV hf rfl he fun a hf => ?_
      have ne_b3_b18 : b3 ≠ b18 := ne_new hB4.lt eb21
      have ne_p_b18 : p ≠ b18 := ne_new hP.lt eb21
      have ge_b18 := ge_new hE eb21
      have hH_b18 : H ≤ b18 := by have := hP.le; have := hP.lt; omega
      replace hB4 := hB4.c0 hx20
      replace hP := hP.chg hx20 all0
      replace hE := hE.t0 hx20
      clear eb21 lb22
      refine sV hf rfl (ex_bd (ps := [(0, (.tmp 48)), (2, (.tmp 52))]) (z := zT) (os := [0, 2]) hf rfl (by kernel_rfl) (by kernel_rfl) (by kernel_rfl) rfl rfl) fun a hf => ?_
      obtain ⟨w23, he, hB24, hx25⟩ := eN (.tmp 2) (.tmp 53) hf rfl rfl rfl rfl hB4 rfl 0
      refine st_s hf rfl rfl he fun a hf => ?_
      replace hB19 := hB19.chg hx25 (nmc (Ne.symm ne_b3_b18) nm0)
      replace hP := hP.chg hx25 (allc ⟨hH_b3, ne_p_b3⟩ all0)
      replace hE := hE.trans hx25 (allc (.inr ge_b3) all0)
      clear hB4
      refine sN <| hK14 _ _ <| wp_ret ?_
      rw [hq]
      try simp only [Exit.then, Exit.inBlock]
      exact ret_of (rs := [.cell 2 26]) hf rfl ⟨_, _, _, _, 4, rfl, rfl, by kernel_rfl, hB24, rfl, rfl⟩ ⟨_, _, _, _, rfl, tree_mk (Nat.le_refl _) (maxLen_ge rfl) (Nat.le_refl _) (maxLen_ge rfl) (RowIn.of_blk hB19 ge_b18 rfl) kids_none RowIn.none_, hP, hE, hL⟩
    by_cases h1 : (pNext s).text = wText
    · obtain ⟨t, r, hs, hnx⟩ := pNext_cons (s := s) (.inl (by rw [h1]; decide))
      have hq : typT (n + 1) s = (.node 6 [] [t.lead] [], pTake s) := by rw [typT, if_neg h0, if_pos h1, hnx]
      refine enter_fr 54 Try.func83 rfl rfl rfl ?_
      intro a hf
      have hE := Chg.refl [p] w
      have hL := Nat.le_refl s.toks.length
      refine wS fun K1 hK1 => wR ?_
      obtain ⟨w2, b3, he, hB4, hx5, eb6, lb7⟩ := eT a w 0
      refine sV hf rfl he fun a hf => ?_
      have ne_p_b3 : p ≠ b3 := ne_new hP.lt eb6
      have ge_b3 := ge_new hE eb6
      have hH_b3 : H ≤ b3 := by have := hP.le; have := hP.lt; omega
      replace hP := hP.chg hx5 all0
      replace hE := hE.t0 hx5
      clear eb6 lb7
      refine sN <| hK1 _ _ <| wS fun K8 hK8 => wR <| sA hf rfl rfl fun a hf => sN <| hK8 _ _ <| wS fun K9 hK9 => wS fun K10 hK10 => wR <| sM hf rfl rfl fun a hf => st_c hf rfl rfl rfl (by kernel_rfl) (pNextL hP) ?_
      rintro _ w12 ⟨rfl, hP, hx11⟩
      refine ⟨_, rfl, fun a hf => ?_⟩
      replace hB4 := hB4.c0 hx11
      replace hE := hE.t0 hx11
      refine sV hf rfl (ex_fd (k := 2) hf rfl (by kernel_rfl) rfl) fun a hf => sN <| hK10 _ _ <| wp_block <| wS fun K13 hK13 => wR <| sV hf rfl (ex_eqS (c := false) hf rfl rfl (beqF h0)) fun a hf => sA hf rfl rfl fun a hf => sN <| hK13 _ _ <| cF hf rfl <| wS fun K14 hK14 => wR <| sV hf rfl (ex_eqS (c := true) hf rfl rfl (beqT h1)) fun a hf => sA hf rfl rfl fun a hf => sN <| hK14 _ _ <| cT hf rfl <| wR <| sA hf rfl rfl fun a hf => sN <| hK9 _ _ <| wS fun K15 hK15 => wR <| sM hf rfl rfl fun a hf => sM hf rfl rfl fun a hf => st_c hf rfl rfl rfl (by kernel_rfl) (pTakeL hP hs) ?_
      rintro _ w17 ⟨rfl, hP, hx16⟩
      refine ⟨_, rfl, fun a hf => ?_⟩
      replace hB4 := hB4.chg hx16 (nmc (Ne.symm ne_p_b3) nm0)
      replace hE := hE.trans hx16 (allc (.inl (by simp)) all0)
      replace hL := nlt (Nat.le_of_lt (pTake_lt hs)) hL
      refine sV hf rfl (ex_fd (k := 1) hf rfl (by kernel_rfl) rfl) fun a hf => ?_
      obtain ⟨w18, b19, he, hB20, hx21, eb22, lb23⟩ := ef_bslice (P := Try.prog) (ps := [(0, (.tmp 51))]) (m := 1) (sz := 1) (z := [.string ⟨([] : List UInt8).toArray⟩]) hf rfl Try.underlying23 (by kernel_rfl) (by kernel_rfl) rfl rfl (by kernel_rfl) rfl w17 23
      refine sV hf rfl he fun a hf => ?_
      have ne_b3_b19 : b3 ≠ b19 := ne_new hB4.lt eb22
      have ne_p_b19 : p ≠ b19 := ne_new hP.lt eb22
      have ge_b19 := ge_new hE eb22
      have hH_b19 : H ≤ b19 := by have := hP.le; have := hP.lt; omega
      replace hB4 := hB4.c0 hx21
      replace hP := hP.chg hx21 all0
      replace hE := hE.t0 hx21
      clear eb22 lb23
      refine sV hf rfl (ex_bd (ps := [(0, (.tmp 48)), (2, (.tmp 52))]) (z := zT) (os := [0, 2]) hf rfl (by kernel_rfl) (by kernel_rfl) (by kernel_rfl) rfl rfl) fun a hf => ?_
      obtain ⟨w24, he, hB25, hx26⟩ := eN (.tmp 2) (.tmp 53) hf rfl rfl rfl rfl hB4 rfl 0
      refine st_s hf rfl rfl he fun a hf => ?_
      replace hB20 := hB20.chg hx26 (nmc (Ne.symm ne_b3_b19) nm0)
      replace hP := hP.chg hx26 (allc ⟨hH_b3, ne_p_b3⟩ all0)
      replace hE := hE.trans hx26 (allc (.inr ge_b3) all0)
      clear hB4
      refine sN <| hK15 _ _ <| wp_ret ?_
      rw [hq]
      try simp only [Exit.then, Exit.inBlock]
      exact ret_of (rs := [.cell 2 26]) hf rfl ⟨_, _, _, _, 4, rfl, rfl, by kernel_rfl, hB25, rfl, rfl⟩ ⟨_, _, _, _, rfl, tree_mk (Nat.le_refl _) (maxLen_ge rfl) (Nat.le_refl _) (maxLen_ge rfl) (RowIn.of_blk hB20 ge_b19 rfl) kids_none RowIn.none_, hP, hE, hL⟩
    by_cases h2 : (pNext s).text = wBool
    · obtain ⟨t, r, hs, hnx⟩ := pNext_cons (s := s) (.inl (by rw [h2]; decide))
      have hq : typT (n + 1) s = (.node 7 [] [t.lead] [], pTake s) := by rw [typT, if_neg h0, if_neg h1, if_pos h2, hnx]
      refine enter_fr 54 Try.func83 rfl rfl rfl ?_
      intro a hf
      have hE := Chg.refl [p] w
      have hL := Nat.le_refl s.toks.length
      refine wS fun K1 hK1 => wR ?_
      obtain ⟨w2, b3, he, hB4, hx5, eb6, lb7⟩ := eT a w 0
      refine sV hf rfl he fun a hf => ?_
      have ne_p_b3 : p ≠ b3 := ne_new hP.lt eb6
      have ge_b3 := ge_new hE eb6
      have hH_b3 : H ≤ b3 := by have := hP.le; have := hP.lt; omega
      replace hP := hP.chg hx5 all0
      replace hE := hE.t0 hx5
      clear eb6 lb7
      refine sN <| hK1 _ _ <| wS fun K8 hK8 => wR <| sA hf rfl rfl fun a hf => sN <| hK8 _ _ <| wS fun K9 hK9 => wS fun K10 hK10 => wR <| sM hf rfl rfl fun a hf => st_c hf rfl rfl rfl (by kernel_rfl) (pNextL hP) ?_
      rintro _ w12 ⟨rfl, hP, hx11⟩
      refine ⟨_, rfl, fun a hf => ?_⟩
      replace hB4 := hB4.c0 hx11
      replace hE := hE.t0 hx11
      refine sV hf rfl (ex_fd (k := 2) hf rfl (by kernel_rfl) rfl) fun a hf => sN <| hK10 _ _ <| wp_block <| wS fun K13 hK13 => wR <| sV hf rfl (ex_eqS (c := false) hf rfl rfl (beqF h0)) fun a hf => sA hf rfl rfl fun a hf => sN <| hK13 _ _ <| cF hf rfl <| wS fun K14 hK14 => wR <| sV hf rfl (ex_eqS (c := false) hf rfl rfl (beqF h1)) fun a hf => sA hf rfl rfl fun a hf => sN <| hK14 _ _ <| cF hf rfl <| wS fun K15 hK15 => wR <| sV hf rfl (ex_eqS (c := true) hf rfl rfl (beqT h2)) fun a hf => sA hf rfl rfl fun a hf => sN <| hK15 _ _ <| cT hf rfl <| wR <| sA hf rfl rfl fun a hf => sN <| hK9 _ _ <| wS fun K16 hK16 => wR <| sM hf rfl rfl fun a hf => sM hf rfl rfl fun a hf => st_c hf rfl rfl rfl (by kernel_rfl) (pTakeL hP hs) ?_
      rintro _ w18 ⟨rfl, hP, hx17⟩
      refine ⟨_, rfl, fun a hf => ?_⟩
      replace hB4 := hB4.chg hx17 (nmc (Ne.symm ne_p_b3) nm0)
      replace hE := hE.trans hx17 (allc (.inl (by simp)) all0)
      replace hL := nlt (Nat.le_of_lt (pTake_lt hs)) hL
      refine sV hf rfl (ex_fd (k := 1) hf rfl (by kernel_rfl) rfl) fun a hf => ?_
      obtain ⟨w19, b20, he, hB21, hx22, eb23, lb24⟩ := ef_bslice (P := Try.prog) (ps := [(0, (.tmp 51))]) (m := 1) (sz := 1) (z := [.string ⟨([] : List UInt8).toArray⟩]) hf rfl Try.underlying23 (by kernel_rfl) (by kernel_rfl) rfl rfl (by kernel_rfl) rfl w18 23
      refine sV hf rfl he fun a hf => ?_
      have ne_b3_b20 : b3 ≠ b20 := ne_new hB4.lt eb23
      have ne_p_b20 : p ≠ b20 := ne_new hP.lt eb23
      have ge_b20 := ge_new hE eb23
      have hH_b20 : H ≤ b20 := by have := hP.le; have := hP.lt; omega
      replace hB4 := hB4.c0 hx22
      replace hP := hP.chg hx22 all0
      replace hE := hE.t0 hx22
      clear eb23 lb24
      refine sV hf rfl (ex_bd (ps := [(0, (.tmp 48)), (2, (.tmp 52))]) (z := zT) (os := [0, 2]) hf rfl (by kernel_rfl) (by kernel_rfl) (by kernel_rfl) rfl rfl) fun a hf => ?_
      obtain ⟨w25, he, hB26, hx27⟩ := eN (.tmp 2) (.tmp 53) hf rfl rfl rfl rfl hB4 rfl 0
      refine st_s hf rfl rfl he fun a hf => ?_
      replace hB21 := hB21.chg hx27 (nmc (Ne.symm ne_b3_b20) nm0)
      replace hP := hP.chg hx27 (allc ⟨hH_b3, ne_p_b3⟩ all0)
      replace hE := hE.trans hx27 (allc (.inr ge_b3) all0)
      clear hB4
      refine sN <| hK16 _ _ <| wp_ret ?_
      rw [hq]
      try simp only [Exit.then, Exit.inBlock]
      exact ret_of (rs := [.cell 2 26]) hf rfl ⟨_, _, _, _, 4, rfl, rfl, by kernel_rfl, hB26, rfl, rfl⟩ ⟨_, _, _, _, rfl, tree_mk (Nat.le_refl _) (maxLen_ge rfl) (Nat.le_refl _) (maxLen_ge rfl) (RowIn.of_blk hB21 ge_b20 rfl) kids_none RowIn.none_, hP, hE, hL⟩
    by_cases h3 : (pNext s).text = [91]
    · obtain ⟨t, r, hs, hnx⟩ := pNext_cons (s := s) (.inl (by rw [h3]; decide))
      have hq : typT (n + 1) s = (.node 8 [] [t.lead, (pWord [93] (typT n (pTake s)).2).1] [(typT n (pTake s)).1], (pWord [93] (typT n (pTake s)).2).2) := by rw [typT, if_neg h0, if_neg h1, if_neg h2, if_pos h3, hnx]
      have htl := pTake_lt hs
      refine enter_fr 54 Try.func83 rfl rfl rfl ?_
      intro a hf
      have hE := Chg.refl [p] w
      have hL := Nat.le_refl s.toks.length
      refine wS fun K1 hK1 => wR ?_
      obtain ⟨w2, b3, he, hB4, hx5, eb6, lb7⟩ := eT a w 0
      refine sV hf rfl he fun a hf => ?_
      have ne_p_b3 : p ≠ b3 := ne_new hP.lt eb6
      have ge_b3 := ge_new hE eb6
      have hH_b3 : H ≤ b3 := by have := hP.le; have := hP.lt; omega
      replace hP := hP.chg hx5 all0
      replace hE := hE.t0 hx5
      clear eb6 lb7
      refine sN <| hK1 _ _ <| wS fun K8 hK8 => wR <| sA hf rfl rfl fun a hf => sN <| hK8 _ _ <| wS fun K9 hK9 => wS fun K10 hK10 => wR <| sM hf rfl rfl fun a hf => st_c hf rfl rfl rfl (by kernel_rfl) (pNextL hP) ?_
      rintro _ w12 ⟨rfl, hP, hx11⟩
      refine ⟨_, rfl, fun a hf => ?_⟩
      replace hB4 := hB4.c0 hx11
      replace hE := hE.t0 hx11
      refine sV hf rfl (ex_fd (k := 2) hf rfl (by kernel_rfl) rfl) fun a hf => sN <| hK10 _ _ <| wp_block <| wS fun K13 hK13 => wR <| sV hf rfl (ex_eqS (c := false) hf rfl rfl (beqF h0)) fun a hf => sA hf rfl rfl fun a hf => sN <| hK13 _ _ <| cF hf rfl <| wS fun K14 hK14 => wR <| sV hf rfl (ex_eqS (c := false) hf rfl rfl (beqF h1)) fun a hf => sA hf rfl rfl fun a hf => sN <| hK14 _ _ <| cF hf rfl <| wS fun K15 hK15 => wR <| sV hf rfl (ex_eqS (c := false) hf rfl rfl (beqF h2)) fun a hf => sA hf rfl rfl fun a hf => sN <| hK15 _ _ <| cF hf rfl <| wS fun K16 hK16 => wR <| sV hf rfl (ex_eqS (c := true) hf rfl rfl (beqT h3)) fun a hf => sA hf rfl rfl fun a hf => sN <| hK16 _ _ <| cT hf rfl <| wS fun K17 hK17 => wR ?_
      obtain ⟨w18, b19, he, hB20, hx21, eb22, lb23⟩ := ef_make (P := Try.prog) (m := 2) (x := (.const (.int .i64 2))) (y := (.const (.int .i64 2))) (z := .string ⟨([] : List UInt8).toArray⟩) (sz := 1) (by_ := 16) (cs := [.string ⟨([] : List UInt8).toArray⟩, .string ⟨([] : List UInt8).toArray⟩]) hf rfl rfl Try.underlying23 (by kernel_rfl) (by kernel_rfl) (by kernel_rfl) (by kernel_rfl) w12 23
      refine sV hf rfl he fun a hf => ?_
      have ne_b3_b19 : b3 ≠ b19 := ne_new hB4.lt eb22
      have ne_p_b19 : p ≠ b19 := ne_new hP.lt eb22
      have ge_b19 := ge_new hE eb22
      have hH_b19 : H ≤ b19 := by have := hP.le; have := hP.lt; omega
      replace hB4 := hB4.c0 hx21
      replace hP := hP.chg hx21 all0
      replace hE := hE.t0 hx21
      clear eb22 lb23
      refine sV hf rfl (ex_bd (ps := [(0, (.const (.int .i64 8))), (2, (.tmp 27))]) (z := zT) (os := [0, 2]) hf rfl (by kernel_rfl) (by kernel_rfl) (by kernel_rfl) rfl rfl) fun a hf => ?_
      obtain ⟨w24, b25, he, hB26, hx27, eb28, lb29⟩ := eT a w18 0
      refine sV hf rfl he fun a hf => ?_
      have ne_b3_b25 : b3 ≠ b25 := ne_new hB4.lt eb28
      have ne_b19_b25 : b19 ≠ b25 := ne_new hB20.lt eb28
      have ne_p_b25 : p ≠ b25 := ne_new hP.lt eb28
      have ge_b25 := ge_new hE eb28
      have hH_b25 : H ≤ b25 := by have := hP.le; have := hP.lt; omega
      replace hB4 := hB4.c0 hx27
      replace hB20 := hB20.c0 hx27
      replace hP := hP.chg hx27 all0
      replace hE := hE.t0 hx27
      clear eb28 lb29
      obtain ⟨w30, he, hB31, hx32⟩ := eN (.tmp 4) (.tmp 28) hf rfl rfl rfl rfl hB26 rfl 0
      refine st_s hf rfl rfl he fun a hf => ?_
      replace hB4 := hB4.chg hx32 (nmc ne_b3_b25 nm0)
      replace hB20 := hB20.chg hx32 (nmc ne_b19_b25 nm0)
      replace hP := hP.chg hx32 (allc ⟨hH_b25, ne_p_b25⟩ all0)
      replace hE := hE.trans hx32 (allc (.inr ge_b25) all0)
      clear hB26
      refine sN <| hK17 _ _ <| wS fun K33 hK33 => ?_
      have s_hB31 := hB31
      refine dl_start (fun x => x.cell? ⟨b25, 2, none⟩ = w30.cell? ⟨b25, 2, none⟩) 7 7 rfl (by kernel_rfl) (by kernel_rfl) ?_
      intro w34 hx35 hsel
      replace hB4 := hB4.c0 hx35
      replace hB20 := hB20.c0 hx35
      replace hB31 := hB31.c0 hx35
      replace hP := hP.chg hx35 all0
      replace hE := hE.t0 hx35
      have hS0 := hB31.same s_hB31 2
      refine dV 0 rfl rfl hsel (by kernel_rfl) hf rfl (.inl hS0) (fun x => ex_fa (k := 2) (r := 2) hf rfl (by kernel_rfl) rfl) fun a hf => dL 1 rfl rfl hsel (by kernel_rfl) hf rfl hS0 (fun x hS => ex_load hf rfl (by kernel_rfl) (hS.trans ((s_hB31.cell 2).trans rfl))) fun a hf => dM 2 rfl rfl hsel (by kernel_rfl) hf rfl hS0 rfl fun a hf => dl_c 3 (by kernel_rfl) rfl hf rfl rfl rfl (by kernel_rfl) (pTakeL hP hs) ?_
      rintro _ w37 ⟨rfl, hP, hx36⟩
      refine ⟨_, rfl, fun a hf => ?_⟩
      replace hB4 := hB4.chg hx36 (nmc (Ne.symm ne_p_b3) nm0)
      replace hB20 := hB20.chg hx36 (nmc (Ne.symm ne_p_b19) nm0)
      replace hB31 := hB31.chg hx36 (nmc (Ne.symm ne_p_b25) nm0)
      replace hE := hE.trans hx36 (allc (.inl (by simp)) all0)
      replace hL := nlt (Nat.le_of_lt (pTake_lt hs)) hL
      clear hS0
      have hS0 := hB31.same s_hB31 2
      refine ⟨.inl hS0, ?_⟩
      refine dV 4 rfl rfl hsel (by kernel_rfl) hf rfl (.inl hS0) (fun x => ex_fd (k := 1) hf rfl (by kernel_rfl) rfl) fun a hf => dV 5 rfl rfl hsel (by kernel_rfl) hf rfl (.inl hS0) (fun x => ex_index (sz := 1) (k := 0) (r := 0) hf Try.underlying23 (by kernel_rfl) rfl rfl rfl (by first | decide | simp) rfl) fun a hf => ?_
      obtain ⟨w38, he, hB39, hx40⟩ := ef_store (P := Try.prog) (t := 9) (x := (.tmp 34)) (y := (.tmp 33)) hf rfl rfl (by kernel_rfl) rfl hB20 (Nat.le_of_ble_eq_true rfl) 0
      refine dl_s 6 (by kernel_rfl) rfl hf rfl rfl he fun a hf => ?_
      replace hB4 := hB4.chg hx40 (nmc ne_b3_b19 nm0)
      replace hB31 := hB31.chg hx40 (nmc (Ne.symm ne_b19_b25) nm0)
      replace hP := hP.chg hx40 (allc ⟨hH_b19, ne_p_b19⟩ all0)
      replace hE := hE.trans hx40 (allc (.inr ge_b19) all0)
      clear hB20
      clear hS0
      have hS0 := hB31.same s_hB31 2
      refine ⟨.inl hS0, ?_⟩
      refine dl_done (by kernel_rfl) ?_
      clear hS0 hsel
      refine hK33 _ _ <| wS fun K41 hK41 => ?_
      have s_hB31 := hB31
      refine dl_start (fun x => x.cell? ⟨b25, 3, none⟩ = w38.cell? ⟨b25, 3, none⟩) 7 8 rfl (by kernel_rfl) (by kernel_rfl) ?_
      intro w42 hx43 hsel
      replace hB4 := hB4.c0 hx43
      replace hB39 := hB39.c0 hx43
      replace hB31 := hB31.c0 hx43
      replace hP := hP.chg hx43 all0
      replace hE := hE.t0 hx43
      have hS0 := hB31.same s_hB31 3
      refine dV 0 rfl rfl hsel (by kernel_rfl) hf rfl (.inl hS0) (fun x => ex_fa (k := 3) (r := 3) hf rfl (by kernel_rfl) rfl) fun a hf => dL 1 rfl rfl hsel (by kernel_rfl) hf rfl hS0 (fun x hS => ex_load hf rfl (by kernel_rfl) (hS.trans ((s_hB31.cell 3).trans rfl))) fun a hf => dM 2 rfl rfl hsel (by kernel_rfl) hf rfl hS0 rfl fun a hf => ?_
      have plt44 := hP.lt
      refine dl_c 3 (by kernel_rfl) rfl hf rfl rfl rfl (by kernel_rfl) (ih _ _ _ _ hP (by omega)) ?_
      rintro _ w45 ⟨c44_0, c44_1, c44_2, c44_3, rfl, hT44, hP, hx44, hl44⟩
      refine ⟨_, rfl, fun a hf => ?_⟩
      obtain ⟨lo46, elo46⟩ : ∃ x, x = w42.heap.size := ⟨_, rfl⟩
      obtain ⟨hi46, ehi46⟩ : ∃ x, x = w45.heap.size := ⟨_, rfl⟩
      replace hT44 := hT44.within elo46 ehi46
      have hle46 : hi46 ≤ w45.heap.size := Nat.le_of_eq ehi46
      have ge_lo46 : w.heap.size ≤ lo46 := elo46 ▸ hE.size
      have tb_lo46_b3 : b3 < lo46 := elo46 ▸ hB4.lt
      have tb_lo46_b19 : b19 < lo46 := elo46 ▸ hB39.lt
      have tb_lo46_b25 : b25 < lo46 := elo46 ▸ hB31.lt
      have tb_lo46_p : p < lo46 := elo46 ▸ plt44
      clear elo46 ehi46
      clear plt44
      have on_hT44 := hT44.one
      replace hB4 := hB4.chg hx44 (nmc (Ne.symm ne_p_b3) nm0)
      replace hB39 := hB39.chg hx44 (nmc (Ne.symm ne_p_b19) nm0)
      replace hB31 := hB31.chg hx44 (nmc (Ne.symm ne_p_b25) nm0)
      replace hE := hE.trans hx44 (allc (.inl (by simp)) all0)
      replace hL := nlt hl44 hL
      clear hS0
      have hS0 := hB31.same s_hB31 3
      refine ⟨.inl hS0, ?_⟩
      obtain ⟨w47, b48, he, hB49, hx50, eb51, lb52⟩ := ef_bslice (P := Try.prog) (ps := [(0, (.tmp 38))]) (m := 1) (sz := 4) (z := zT) hf rfl Try.underlying24 (by kernel_rfl) (by kernel_rfl) rfl rfl (by kernel_rfl) rfl w45 24
      refine dl_e 4 (by kernel_rfl) rfl hf rfl rfl he fun a hf => ?_
      have ne_b3_b48 : b3 ≠ b48 := ne_new hB4.lt eb51
      have ne_b19_b48 : b19 ≠ b48 := ne_new hB39.lt eb51
      have ne_b25_b48 : b25 ≠ b48 := ne_new hB31.lt eb51
      have ne_p_b48 : p ≠ b48 := ne_new hP.lt eb51
      have ta_hi46_b48 : hi46 ≤ b48 := eb51 ▸ hle46
      have ge_b48 := ge_new hE eb51
      have hH_b48 : H ≤ b48 := by have := hP.le; have := hP.lt; omega
      replace hB4 := hB4.c0 hx50
      replace hB39 := hB39.c0 hx50
      replace hB31 := hB31.c0 hx50
      replace hP := hP.chg hx50 all0
      replace hT44 := hT44.chg hx50 (fun b hb _ => nm0)
      replace hle46 := nlt hle46 hx50.size
      replace hE := hE.t0 hx50
      clear eb51 lb52
      clear hS0
      have hS0 := hB31.same s_hB31 3
      refine ⟨.inl hS0, ?_⟩
      obtain ⟨g54, cap55, w53, he, hO56, hx57, hat58, hlt59⟩ := ef_append0 (P := Try.prog) (x := (.tmp 36)) (y := (.tmp 39)) (z := .agg zA) (sz := 4) (by_ := 72) hf rfl rfl Try.underlying24 (by kernel_rfl) rfl rfl (World.ownsRow_nil w47 w.heap.size 26 4) hB49 rfl on_hT44 rfl (by simp only [maxLen]; omega) (by omega) (hE.size) 24
      refine dl_e 5 (by kernel_rfl) rfl hf rfl rfl he fun a hf => ?_
      have ne_b3_g54 : b3 ≠ g54 := by have := hB4.lt; omega
      have ne_b19_g54 : b19 ≠ g54 := by have := hB39.lt; omega
      have ne_b25_g54 : b25 ≠ g54 := by have := hB31.lt; omega
      have ne_b48_g54 : b48 ≠ g54 := by have := hB49.lt; omega
      have ne_p_g54 : p ≠ g54 := by have := hP.lt; omega
      have ta_hi46_g54 : hi46 ≤ g54 ∨ g54 < lo46 := by have := hle46; omega
      have ge_g54 : w.heap.size ≤ g54 := own_gle hO56
      have hH_g54 : H ≤ g54 := by have := hP.le; have := hP.lt; omega
      replace hB4 := hB4.c0 hx57
      replace hB39 := hB39.c0 hx57
      replace hB31 := hB31.c0 hx57
      replace hB49 := hB49.c0 hx57
      replace hP := hP.chg hx57 all0
      replace hT44 := hT44.chg hx57 (fun b hb _ => nm0)
      replace hle46 := nlt hle46 hx57.size
      replace hE := hE.t0 hx57
      clear hat58 hlt59
      clear hS0
      have hS0 := hB31.same s_hB31 3
      refine ⟨.inl hS0, ?_⟩
      refine dV 6 rfl rfl hsel (by kernel_rfl) hf rfl (.inl hS0) (fun x => ex_fa (k := 3) (r := 3) hf rfl (by kernel_rfl) rfl) fun a hf => ?_
      obtain ⟨w60, he, hB61, hx62⟩ := ef_store (P := Try.prog) (t := 24) (x := (.tmp 41)) (y := (.tmp 40)) hf rfl rfl (by kernel_rfl) rfl hB31 (Nat.le_of_ble_eq_true rfl) 0
      refine dl_s 7 (by kernel_rfl) rfl hf rfl rfl he fun a hf => ?_
      replace hB4 := hB4.chg hx62 (nmc ne_b3_b25 nm0)
      replace hB39 := hB39.chg hx62 (nmc ne_b19_b25 nm0)
      replace hB49 := hB49.chg hx62 (nmc (Ne.symm ne_b25_b48) nm0)
      replace hP := hP.chg hx62 (allc ⟨hH_b25, ne_p_b25⟩ all0)
      replace hT44 := hT44.chg hx62 (fun b hb _ => (nmc (by omega) nm0))
      replace hle46 := nlt hle46 hx62.size
      replace hO56 := own_gchg hO56 hx62 (nmc (Ne.symm ne_b25_g54) nm0)
      replace hE := hE.trans hx62 (allc (.inr ge_b25) all0)
      clear hB31
      refine ⟨.inr (by kernel_rfl), ?_⟩
      refine dl_done (by kernel_rfl) ?_
      clear hS0 hsel
      refine hK41 _ _ <| wS fun K63 hK63 => ?_
      have s_hB61 := hB61
      refine dl_start (fun x => x.cell? ⟨b25, 2, none⟩ = w60.cell? ⟨b25, 2, none⟩) 6 6 rfl (by kernel_rfl) (by kernel_rfl) ?_
      intro w64 hx65 hsel
      replace hB4 := hB4.c0 hx65
      replace hB39 := hB39.c0 hx65
      replace hB61 := hB61.c0 hx65
      replace hB49 := hB49.c0 hx65
      replace hP := hP.chg hx65 all0
      replace hT44 := hT44.chg hx65 (fun b hb _ => nm0)
      replace hle46 := nlt hle46 hx65.size
      replace hO56 := own_gchg hO56 hx65 nm0
      replace hE := hE.t0 hx65
      have hS0 := hB61.same s_hB61 2
      refine dV 0 rfl rfl hsel (by kernel_rfl) hf rfl (.inl hS0) (fun x => ex_fa (k := 2) (r := 2) hf rfl (by kernel_rfl) rfl) fun a hf => dL 1 rfl rfl hsel (by kernel_rfl) hf rfl hS0 (fun x hS => ex_load hf rfl (by kernel_rfl) (hS.trans ((s_hB61.cell 2).trans rfl))) fun a hf => dM 2 rfl rfl hsel (by kernel_rfl) hf rfl hS0 rfl fun a hf => dl_c 3 (by kernel_rfl) rfl hf rfl rfl rfl (by kernel_rfl) (pWordL (x := [93]) hP (by decide)) ?_
      rintro _ w67 ⟨rfl, hP, hx66⟩
      refine ⟨_, rfl, fun a hf => ?_⟩
      replace hB4 := hB4.chg hx66 (nmc (Ne.symm ne_p_b3) nm0)
      replace hB39 := hB39.chg hx66 (nmc (Ne.symm ne_p_b19) nm0)
      replace hB61 := hB61.chg hx66 (nmc (Ne.symm ne_p_b25) nm0)
      replace hB49 := hB49.chg hx66 (nmc (Ne.symm ne_p_b48) nm0)
      replace hT44 := hT44.chg hx66 (fun b hb _ => (nmc (by omega) nm0))
      replace hle46 := nlt hle46 hx66.size
      replace hO56 := own_gchg hO56 hx66 (nmc (Ne.symm ne_p_g54) nm0)
      replace hE := hE.trans hx66 (allc (.inl (by simp)) all0)
      replace hL := nlt (pWord_len [93] _) hL
      clear hS0
      have hS0 := hB61.same s_hB61 2
      refine ⟨.inl hS0, ?_⟩
      refine dV 4 rfl rfl hsel (by kernel_rfl) hf rfl (.inl hS0) (fun x => ex_index (sz := 1) (k := 1) (r := 1) hf Try.underlying23 (by kernel_rfl) rfl rfl rfl (by first | decide | simp) rfl) fun a hf => ?_
      obtain ⟨w68, he, hB69, hx70⟩ := ef_store (P := Try.prog) (t := 9) (x := (.tmp 46)) (y := (.tmp 45)) hf rfl rfl (by kernel_rfl) rfl hB39 (Nat.le_of_ble_eq_true rfl) 0
      refine dl_s 5 (by kernel_rfl) rfl hf rfl rfl he fun a hf => ?_
      replace hB4 := hB4.chg hx70 (nmc ne_b3_b19 nm0)
      replace hB61 := hB61.chg hx70 (nmc (Ne.symm ne_b19_b25) nm0)
      replace hB49 := hB49.chg hx70 (nmc (Ne.symm ne_b19_b48) nm0)
      replace hP := hP.chg hx70 (allc ⟨hH_b19, ne_p_b19⟩ all0)
      replace hT44 := hT44.chg hx70 (fun b hb _ => (nmc (by omega) nm0))
      replace hle46 := nlt hle46 hx70.size
      replace hO56 := own_gchg hO56 hx70 (nmc (Ne.symm ne_b19_g54) nm0)
      replace hE := hE.trans hx70 (allc (.inr ge_b19) all0)
      clear hB39
      clear hS0
      have hS0 := hB61.same s_hB61 2
      refine ⟨.inl hS0, ?_⟩
      refine dl_done (by kernel_rfl) ?_
      clear hS0 hsel
      refine hK63 _ _ <| wS fun K71 hK71 => wR <| sV hf rfl (ex_loadBN (m := 4) hf rfl (by kernel_rfl) hB61 rfl) fun a hf => ?_
      obtain ⟨w72, he, hB73, hx74⟩ := eN (.tmp 2) (.tmp 47) hf rfl rfl rfl rfl hB4 rfl 0
      refine st_s hf rfl rfl he fun a hf => ?_
      replace hB69 := hB69.chg hx74 (nmc (Ne.symm ne_b3_b19) nm0)
      replace hB61 := hB61.chg hx74 (nmc (Ne.symm ne_b3_b25) nm0)
      replace hB49 := hB49.chg hx74 (nmc (Ne.symm ne_b3_b48) nm0)
      replace hP := hP.chg hx74 (allc ⟨hH_b3, ne_p_b3⟩ all0)
      replace hT44 := hT44.chg hx74 (fun b hb _ => (nmc (by omega) nm0))
      replace hle46 := nlt hle46 hx74.size
      replace hO56 := own_gchg hO56 hx74 (nmc (Ne.symm ne_b3_g54) nm0)
      replace hE := hE.trans hx74 (allc (.inr ge_b3) all0)
      clear hB4
      refine sN <| hK71 _ _ <| wp_ret ?_
      rw [hq]
      try simp only [Exit.then, Exit.inBlock]
      exact ret_of (rs := [.cell 2 26]) hf rfl ⟨_, _, _, _, 4, rfl, rfl, by kernel_rfl, hB73, rfl, rfl⟩ ⟨_, _, _, _, rfl, tree_mk (Nat.le_refl _) (maxLen_ge rfl) (own_cap hO56).1 (own_cap hO56).2 (RowIn.of_blk hB69 ge_b19 rfl) (kids_one (hT44.mono (fun b hb => by omega))) (RowIn.of_own hO56), hP, hE, hL⟩
    · have hq : typT (n + 1) s = (.node 9 (pName 2 4 s).1 [(pName 2 4 s).2.1] [], (pName 2 4 s).2.2) := by rw [typT, if_neg h0, if_neg h1, if_neg h2, if_neg h3]
      refine enter_fr 54 Try.func83 rfl rfl rfl ?_
      intro a hf
      have hE := Chg.refl [p] w
      have hL := Nat.le_refl s.toks.length
      refine wS fun K1 hK1 => wR ?_
      obtain ⟨w2, b3, he, hB4, hx5, eb6, lb7⟩ := eT a w 0
      refine sV hf rfl he fun a hf => ?_
      have ne_p_b3 : p ≠ b3 := ne_new hP.lt eb6
      have ge_b3 := ge_new hE eb6
      have hH_b3 : H ≤ b3 := by have := hP.le; have := hP.lt; omega
      replace hP := hP.chg hx5 all0
      replace hE := hE.t0 hx5
      clear eb6 lb7
      refine sN <| hK1 _ _ <| wS fun K8 hK8 => wR <| sA hf rfl rfl fun a hf => sN <| hK8 _ _ <| wS fun K9 hK9 => wS fun K10 hK10 => wR <| sM hf rfl rfl fun a hf => st_c hf rfl rfl rfl (by kernel_rfl) (pNextL hP) ?_
      rintro _ w12 ⟨rfl, hP, hx11⟩
      refine ⟨_, rfl, fun a hf => ?_⟩
      replace hB4 := hB4.c0 hx11
      replace hE := hE.t0 hx11
      refine sV hf rfl (ex_fd (k := 2) hf rfl (by kernel_rfl) rfl) fun a hf => sN <| hK10 _ _ <| wp_block <| wS fun K13 hK13 => wR <| sV hf rfl (ex_eqS (c := false) hf rfl rfl (beqF h0)) fun a hf => sA hf rfl rfl fun a hf => sN <| hK13 _ _ <| cF hf rfl <| wS fun K14 hK14 => wR <| sV hf rfl (ex_eqS (c := false) hf rfl rfl (beqF h1)) fun a hf => sA hf rfl rfl fun a hf => sN <| hK14 _ _ <| cF hf rfl <| wS fun K15 hK15 => wR <| sV hf rfl (ex_eqS (c := false) hf rfl rfl (beqF h2)) fun a hf => sA hf rfl rfl fun a hf => sN <| hK15 _ _ <| cF hf rfl <| wS fun K16 hK16 => wR <| sV hf rfl (ex_eqS (c := false) hf rfl rfl (beqF h3)) fun a hf => sA hf rfl rfl fun a hf => sN <| hK16 _ _ <| cF hf rfl <| wS fun K17 hK17 => wR <| sM hf rfl rfl fun a hf => st_c hf rfl rfl rfl (by kernel_rfl) (pNameL (k := 2) (o := 4) hP) ?_
      rintro _ w19 ⟨rfl, hP, hx18⟩
      refine ⟨_, rfl, fun a hf => ?_⟩
      replace hB4 := hB4.chg hx18 (nmc (Ne.symm ne_p_b3) nm0)
      replace hE := hE.trans hx18 (allc (.inl (by simp)) all0)
      replace hL := nlt (pName_len 2 4 _) hL
      refine sM hf rfl rfl fun a hf => sV hf rfl (ex_extract hf rfl rfl) fun a hf => sV hf rfl (ex_extract hf rfl rfl) fun a hf => sA hf rfl rfl fun a hf => sA hf rfl rfl fun a hf => sN <| hK17 _ _ <| wS fun K20 hK20 => wR <| sM hf rfl rfl fun a hf => sM hf rfl rfl fun a hf => ?_
      obtain ⟨w21, b22, he, hB23, hx24, eb25, lb26⟩ := ef_bslice (P := Try.prog) (ps := [(0, (.tmp 16))]) (m := 1) (sz := 1) (z := [.string ⟨([] : List UInt8).toArray⟩]) hf rfl Try.underlying23 (by kernel_rfl) (by kernel_rfl) rfl rfl (by kernel_rfl) rfl w19 23
      refine sV hf rfl he fun a hf => ?_
      have ne_b3_b22 : b3 ≠ b22 := ne_new hB4.lt eb25
      have ne_p_b22 : p ≠ b22 := ne_new hP.lt eb25
      have ge_b22 := ge_new hE eb25
      have hH_b22 : H ≤ b22 := by have := hP.le; have := hP.lt; omega
      replace hB4 := hB4.c0 hx24
      replace hP := hP.chg hx24 all0
      replace hE := hE.t0 hx24
      clear eb25 lb26
      refine sV hf rfl (ex_bd (ps := [(0, (.const (.int .i64 9))), (1, (.tmp 15)), (2, (.tmp 17))]) (z := zT) (os := [0, 1, 2]) hf rfl (by kernel_rfl) (by kernel_rfl) (by kernel_rfl) rfl rfl) fun a hf => ?_
      obtain ⟨w27, he, hB28, hx29⟩ := eN (.tmp 2) (.tmp 18) hf rfl rfl rfl rfl hB4 rfl 0
      refine st_s hf rfl rfl he fun a hf => ?_
      replace hB23 := hB23.chg hx29 (nmc (Ne.symm ne_b3_b22) nm0)
      replace hP := hP.chg hx29 (allc ⟨hH_b3, ne_p_b3⟩ all0)
      replace hE := hE.trans hx29 (allc (.inr ge_b3) all0)
      clear hB4
      refine sN <| hK20 _ _ <| wp_ret ?_
      rw [hq]
      try simp only [Exit.then, Exit.inBlock]
      exact ret_of (rs := [.cell 2 26]) hf rfl ⟨_, _, _, _, 4, rfl, rfl, by kernel_rfl, hB28, rfl, rfl⟩ ⟨_, _, _, _, rfl, tree_mk (Nat.le_refl _) (maxLen_ge rfl) (Nat.le_refl _) (maxLen_ge rfl) (RowIn.of_blk hB23 ge_b22 rfl) kids_none RowIn.none_, hP, hE, hL⟩
theorem typL : ∀ n, TypOk n
  | 0 => fun _ _ _ _ _ hn => absurd hn (Nat.not_lt_zero _)
  | n + 1 => typ_step (typL n)
theorem pParamL {H p n : Nat} {s : PS} {w : World} (hP : PAt H w p s) (hn : s.toks.length < n) : Calls Try.prog 82 [.pointer (some ⟨p, 0, none⟩)].toArray w (TreePost w H p s (paramT n s)) := by
  refine enter_fr 28 Try.func82 rfl rfl rfl ?_
  intro a hf
  have hE := Chg.refl [p] w
  have hL := Nat.le_refl s.toks.length
  refine wS fun K1 hK1 => wR ?_
  obtain ⟨w2, b3, he, hB4, hx5, eb6, lb7⟩ := eT a w 0
  refine sV hf rfl he fun a hf => ?_
  have ne_p_b3 : p ≠ b3 := ne_new hP.lt eb6
  have ge_b3 := ge_new hE eb6
  have hH_b3 : H ≤ b3 := by have := hP.le; have := hP.lt; omega
  replace hP := hP.chg hx5 all0
  replace hE := hE.t0 hx5
  clear eb6 lb7
  refine sN <| hK1 _ _ <| wS fun K8 hK8 => wR ?_
  obtain ⟨w9, b10, he, hB11, hx12, eb13, lb14⟩ := ef_make (P := Try.prog) (m := 2) (x := (.const (.int .i64 2))) (y := (.const (.int .i64 2))) (z := .string ⟨([] : List UInt8).toArray⟩) (sz := 1) (by_ := 16) (cs := [.string ⟨([] : List UInt8).toArray⟩, .string ⟨([] : List UInt8).toArray⟩]) hf rfl rfl Try.underlying23 (by kernel_rfl) (by kernel_rfl) (by kernel_rfl) (by kernel_rfl) w2 23
  refine sV hf rfl he fun a hf => ?_
  have ne_b3_b10 : b3 ≠ b10 := ne_new hB4.lt eb13
  have ne_p_b10 : p ≠ b10 := ne_new hP.lt eb13
  have ge_b10 := ge_new hE eb13
  have hH_b10 : H ≤ b10 := by have := hP.le; have := hP.lt; omega
  replace hB4 := hB4.c0 hx12
  replace hP := hP.chg hx12 all0
  replace hE := hE.t0 hx12
  clear eb13 lb14
  refine sV hf rfl (ex_bd (ps := [(0, (.const (.int .i64 4))), (2, (.tmp 4))]) (z := zT) (os := [0, 2]) hf rfl (by kernel_rfl) (by kernel_rfl) (by kernel_rfl) rfl rfl) fun a hf => ?_
  obtain ⟨w15, b16, he, hB17, hx18, eb19, lb20⟩ := eT a w9 0
  refine sV hf rfl he fun a hf => ?_
  have ne_b3_b16 : b3 ≠ b16 := ne_new hB4.lt eb19
  have ne_b10_b16 : b10 ≠ b16 := ne_new hB11.lt eb19
  have ne_p_b16 : p ≠ b16 := ne_new hP.lt eb19
  have ge_b16 := ge_new hE eb19
  have hH_b16 : H ≤ b16 := by have := hP.le; have := hP.lt; omega
  replace hB4 := hB4.c0 hx18
  replace hB11 := hB11.c0 hx18
  replace hP := hP.chg hx18 all0
  replace hE := hE.t0 hx18
  clear eb19 lb20
  obtain ⟨w21, he, hB22, hx23⟩ := eN (.tmp 3) (.tmp 5) hf rfl rfl rfl rfl hB17 rfl 0
  refine st_s hf rfl rfl he fun a hf => ?_
  replace hB4 := hB4.chg hx23 (nmc ne_b3_b16 nm0)
  replace hB11 := hB11.chg hx23 (nmc ne_b10_b16 nm0)
  replace hP := hP.chg hx23 (allc ⟨hH_b16, ne_p_b16⟩ all0)
  replace hE := hE.trans hx23 (allc (.inr ge_b16) all0)
  clear hB17
  refine sN <| hK8 _ _ <| wS fun K24 hK24 => ?_
  have s_hB22 := hB22
  refine dl_start (fun x => x.cell? ⟨b16, 2, none⟩ = w21.cell? ⟨b16, 2, none⟩) 11 11 rfl (by kernel_rfl) (by kernel_rfl) ?_
  intro w25 hx26 hsel
  replace hB4 := hB4.c0 hx26
  replace hB11 := hB11.c0 hx26
  replace hB22 := hB22.c0 hx26
  replace hP := hP.chg hx26 all0
  replace hE := hE.t0 hx26
  have hS0 := hB22.same s_hB22 2
  refine dV 0 rfl rfl hsel (by kernel_rfl) hf rfl (.inl hS0) (fun x => ex_fa (k := 2) (r := 2) hf rfl (by kernel_rfl) rfl) fun a hf => dL 1 rfl rfl hsel (by kernel_rfl) hf rfl hS0 (fun x hS => ex_load hf rfl (by kernel_rfl) (hS.trans ((s_hB22.cell 2).trans rfl))) fun a hf => dM 2 rfl rfl hsel (by kernel_rfl) hf rfl hS0 rfl fun a hf => dl_c 3 (by kernel_rfl) rfl hf rfl rfl rfl (by kernel_rfl) (pNameL (k := 1) (o := 1) hP) ?_
  rintro _ w28 ⟨rfl, hP, hx27⟩
  refine ⟨_, rfl, fun a hf => ?_⟩
  replace hB4 := hB4.chg hx27 (nmc (Ne.symm ne_p_b3) nm0)
  replace hB11 := hB11.chg hx27 (nmc (Ne.symm ne_p_b10) nm0)
  replace hB22 := hB22.chg hx27 (nmc (Ne.symm ne_p_b16) nm0)
  replace hE := hE.trans hx27 (allc (.inl (by simp)) all0)
  replace hL := nlt (pName_len 1 1 _) hL
  clear hS0
  have hS0 := hB22.same s_hB22 2
  refine ⟨.inl hS0, ?_⟩
  refine dM 4 rfl rfl hsel (by kernel_rfl) hf rfl hS0 rfl fun a hf => dV 5 rfl rfl hsel (by kernel_rfl) hf rfl (.inl hS0) (fun x => ex_extract hf rfl rfl) fun a hf => dV 6 rfl rfl hsel (by kernel_rfl) hf rfl (.inl hS0) (fun x => ex_extract hf rfl rfl) fun a hf => dV 7 rfl rfl hsel (by kernel_rfl) hf rfl (.inl hS0) (fun x => ex_fa (k := 1) (r := 1) hf rfl (by kernel_rfl) rfl) fun a hf => ?_
  obtain ⟨w29, he, hB30, hx31⟩ := ef_store (P := Try.prog) (t := 9) (x := (.tmp 13)) (y := (.tmp 11)) hf rfl rfl (by kernel_rfl) rfl hB22 (Nat.le_of_ble_eq_true rfl) 0
  refine dl_s 8 (by kernel_rfl) rfl hf rfl rfl he fun a hf => ?_
  replace hB4 := hB4.chg hx31 (nmc ne_b3_b16 nm0)
  replace hB11 := hB11.chg hx31 (nmc ne_b10_b16 nm0)
  replace hP := hP.chg hx31 (allc ⟨hH_b16, ne_p_b16⟩ all0)
  replace hE := hE.trans hx31 (allc (.inr ge_b16) all0)
  clear hB22
  clear hS0
  have hS0 := hB30.same s_hB22 2
  refine ⟨.inl hS0, ?_⟩
  refine dV 9 rfl rfl hsel (by kernel_rfl) hf rfl (.inl hS0) (fun x => ex_index (sz := 1) (k := 0) (r := 0) hf Try.underlying23 (by kernel_rfl) rfl rfl rfl (by first | decide | simp) rfl) fun a hf => ?_
  obtain ⟨w32, he, hB33, hx34⟩ := ef_store (P := Try.prog) (t := 9) (x := (.tmp 14)) (y := (.tmp 12)) hf rfl rfl (by kernel_rfl) rfl hB11 (Nat.le_of_ble_eq_true rfl) 0
  refine dl_s 10 (by kernel_rfl) rfl hf rfl rfl he fun a hf => ?_
  replace hB4 := hB4.chg hx34 (nmc ne_b3_b10 nm0)
  replace hB30 := hB30.chg hx34 (nmc (Ne.symm ne_b10_b16) nm0)
  replace hP := hP.chg hx34 (allc ⟨hH_b10, ne_p_b10⟩ all0)
  replace hE := hE.trans hx34 (allc (.inr ge_b10) all0)
  clear hB11
  clear hS0
  have hS0 := hB30.same s_hB22 2
  refine ⟨.inl hS0, ?_⟩
  refine dl_done (by kernel_rfl) ?_
  clear hS0 hsel
  refine hK24 _ _ <| wS fun K35 hK35 => ?_
  have s_hB30 := hB30
  refine dl_start (fun x => x.cell? ⟨b16, 2, none⟩ = w32.cell? ⟨b16, 2, none⟩) 6 6 rfl (by kernel_rfl) (by kernel_rfl) ?_
  intro w36 hx37 hsel
  replace hB4 := hB4.c0 hx37
  replace hB33 := hB33.c0 hx37
  replace hB30 := hB30.c0 hx37
  replace hP := hP.chg hx37 all0
  replace hE := hE.t0 hx37
  have hS0 := hB30.same s_hB30 2
  refine dV 0 rfl rfl hsel (by kernel_rfl) hf rfl (.inl hS0) (fun x => ex_fa (k := 2) (r := 2) hf rfl (by kernel_rfl) rfl) fun a hf => dL 1 rfl rfl hsel (by kernel_rfl) hf rfl hS0 (fun x hS => ex_load hf rfl (by kernel_rfl) (hS.trans ((s_hB30.cell 2).trans rfl))) fun a hf => dM 2 rfl rfl hsel (by kernel_rfl) hf rfl hS0 rfl fun a hf => dl_c 3 (by kernel_rfl) rfl hf rfl rfl rfl (by kernel_rfl) (pWordL (x := [58]) hP (by decide)) ?_
  rintro _ w39 ⟨rfl, hP, hx38⟩
  refine ⟨_, rfl, fun a hf => ?_⟩
  replace hB4 := hB4.chg hx38 (nmc (Ne.symm ne_p_b3) nm0)
  replace hB33 := hB33.chg hx38 (nmc (Ne.symm ne_p_b10) nm0)
  replace hB30 := hB30.chg hx38 (nmc (Ne.symm ne_p_b16) nm0)
  replace hE := hE.trans hx38 (allc (.inl (by simp)) all0)
  replace hL := nlt (pWord_len [58] _) hL
  clear hS0
  have hS0 := hB30.same s_hB30 2
  refine ⟨.inl hS0, ?_⟩
  refine dV 4 rfl rfl hsel (by kernel_rfl) hf rfl (.inl hS0) (fun x => ex_index (sz := 1) (k := 1) (r := 1) hf Try.underlying23 (by kernel_rfl) rfl rfl rfl (by first | decide | simp) rfl) fun a hf => ?_
  obtain ⟨w40, he, hB41, hx42⟩ := ef_store (P := Try.prog) (t := 9) (x := (.tmp 19)) (y := (.tmp 18)) hf rfl rfl (by kernel_rfl) rfl hB33 (Nat.le_of_ble_eq_true rfl) 0
  refine dl_s 5 (by kernel_rfl) rfl hf rfl rfl he fun a hf => ?_
  replace hB4 := hB4.chg hx42 (nmc ne_b3_b10 nm0)
  replace hB30 := hB30.chg hx42 (nmc (Ne.symm ne_b10_b16) nm0)
  replace hP := hP.chg hx42 (allc ⟨hH_b10, ne_p_b10⟩ all0)
  replace hE := hE.trans hx42 (allc (.inr ge_b10) all0)
  clear hB33
  clear hS0
  have hS0 := hB30.same s_hB30 2
  refine ⟨.inl hS0, ?_⟩
  refine dl_done (by kernel_rfl) ?_
  clear hS0 hsel
  refine hK35 _ _ <| wS fun K43 hK43 => ?_
  have s_hB30 := hB30
  refine dl_start (fun x => x.cell? ⟨b16, 3, none⟩ = w40.cell? ⟨b16, 3, none⟩) 7 8 rfl (by kernel_rfl) (by kernel_rfl) ?_
  intro w44 hx45 hsel
  replace hB4 := hB4.c0 hx45
  replace hB41 := hB41.c0 hx45
  replace hB30 := hB30.c0 hx45
  replace hP := hP.chg hx45 all0
  replace hE := hE.t0 hx45
  have hS0 := hB30.same s_hB30 3
  refine dV 0 rfl rfl hsel (by kernel_rfl) hf rfl (.inl hS0) (fun x => ex_fa (k := 3) (r := 3) hf rfl (by kernel_rfl) rfl) fun a hf => dL 1 rfl rfl hsel (by kernel_rfl) hf rfl hS0 (fun x hS => ex_load hf rfl (by kernel_rfl) (hS.trans ((s_hB30.cell 3).trans rfl))) fun a hf => dM 2 rfl rfl hsel (by kernel_rfl) hf rfl hS0 rfl fun a hf => ?_
  have plt46 := hP.lt
  refine dl_c 3 (by kernel_rfl) rfl hf rfl rfl rfl (by kernel_rfl) (typL n _ _ _ _ hP (by omega)) ?_
  rintro _ w47 ⟨c46_0, c46_1, c46_2, c46_3, rfl, hT46, hP, hx46, hl46⟩
  refine ⟨_, rfl, fun a hf => ?_⟩
  obtain ⟨lo48, elo48⟩ : ∃ x, x = w44.heap.size := ⟨_, rfl⟩
  obtain ⟨hi48, ehi48⟩ : ∃ x, x = w47.heap.size := ⟨_, rfl⟩
  replace hT46 := hT46.within elo48 ehi48
  have hle48 : hi48 ≤ w47.heap.size := Nat.le_of_eq ehi48
  have ge_lo48 : w.heap.size ≤ lo48 := elo48 ▸ hE.size
  have tb_lo48_b3 : b3 < lo48 := elo48 ▸ hB4.lt
  have tb_lo48_b10 : b10 < lo48 := elo48 ▸ hB41.lt
  have tb_lo48_b16 : b16 < lo48 := elo48 ▸ hB30.lt
  have tb_lo48_p : p < lo48 := elo48 ▸ plt46
  clear elo48 ehi48
  clear plt46
  have on_hT46 := hT46.one
  replace hB4 := hB4.chg hx46 (nmc (Ne.symm ne_p_b3) nm0)
  replace hB41 := hB41.chg hx46 (nmc (Ne.symm ne_p_b10) nm0)
  replace hB30 := hB30.chg hx46 (nmc (Ne.symm ne_p_b16) nm0)
  replace hE := hE.trans hx46 (allc (.inl (by simp)) all0)
  replace hL := nlt hl46 hL
  clear hS0
  have hS0 := hB30.same s_hB30 3
  refine ⟨.inl hS0, ?_⟩
  obtain ⟨w49, b50, he, hB51, hx52, eb53, lb54⟩ := ef_bslice (P := Try.prog) (ps := [(0, (.tmp 23))]) (m := 1) (sz := 4) (z := zT) hf rfl Try.underlying24 (by kernel_rfl) (by kernel_rfl) rfl rfl (by kernel_rfl) rfl w47 24
  refine dl_e 4 (by kernel_rfl) rfl hf rfl rfl he fun a hf => ?_
  have ne_b3_b50 : b3 ≠ b50 := ne_new hB4.lt eb53
  have ne_b10_b50 : b10 ≠ b50 := ne_new hB41.lt eb53
  have ne_b16_b50 : b16 ≠ b50 := ne_new hB30.lt eb53
  have ne_p_b50 : p ≠ b50 := ne_new hP.lt eb53
  have ta_hi48_b50 : hi48 ≤ b50 := eb53 ▸ hle48
  have ge_b50 := ge_new hE eb53
  have hH_b50 : H ≤ b50 := by have := hP.le; have := hP.lt; omega
  replace hB4 := hB4.c0 hx52
  replace hB41 := hB41.c0 hx52
  replace hB30 := hB30.c0 hx52
  replace hP := hP.chg hx52 all0
  replace hT46 := hT46.chg hx52 (fun b hb _ => nm0)
  replace hle48 := nlt hle48 hx52.size
  replace hE := hE.t0 hx52
  clear eb53 lb54
  clear hS0
  have hS0 := hB30.same s_hB30 3
  refine ⟨.inl hS0, ?_⟩
  obtain ⟨g56, cap57, w55, he, hO58, hx59, hat60, hlt61⟩ := ef_append0 (P := Try.prog) (x := (.tmp 21)) (y := (.tmp 24)) (z := .agg zA) (sz := 4) (by_ := 72) hf rfl rfl Try.underlying24 (by kernel_rfl) rfl rfl (World.ownsRow_nil w49 w.heap.size 26 4) hB51 rfl on_hT46 rfl (by simp only [maxLen]; omega) (by omega) (hE.size) 24
  refine dl_e 5 (by kernel_rfl) rfl hf rfl rfl he fun a hf => ?_
  have ne_b3_g56 : b3 ≠ g56 := by have := hB4.lt; omega
  have ne_b10_g56 : b10 ≠ g56 := by have := hB41.lt; omega
  have ne_b16_g56 : b16 ≠ g56 := by have := hB30.lt; omega
  have ne_b50_g56 : b50 ≠ g56 := by have := hB51.lt; omega
  have ne_p_g56 : p ≠ g56 := by have := hP.lt; omega
  have ta_hi48_g56 : hi48 ≤ g56 ∨ g56 < lo48 := by have := hle48; omega
  have ge_g56 : w.heap.size ≤ g56 := own_gle hO58
  have hH_g56 : H ≤ g56 := by have := hP.le; have := hP.lt; omega
  replace hB4 := hB4.c0 hx59
  replace hB41 := hB41.c0 hx59
  replace hB30 := hB30.c0 hx59
  replace hB51 := hB51.c0 hx59
  replace hP := hP.chg hx59 all0
  replace hT46 := hT46.chg hx59 (fun b hb _ => nm0)
  replace hle48 := nlt hle48 hx59.size
  replace hE := hE.t0 hx59
  clear hat60 hlt61
  clear hS0
  have hS0 := hB30.same s_hB30 3
  refine ⟨.inl hS0, ?_⟩
  refine dV 6 rfl rfl hsel (by kernel_rfl) hf rfl (.inl hS0) (fun x => ex_fa (k := 3) (r := 3) hf rfl (by kernel_rfl) rfl) fun a hf => ?_
  obtain ⟨w62, he, hB63, hx64⟩ := ef_store (P := Try.prog) (t := 24) (x := (.tmp 26)) (y := (.tmp 25)) hf rfl rfl (by kernel_rfl) rfl hB30 (Nat.le_of_ble_eq_true rfl) 0
  refine dl_s 7 (by kernel_rfl) rfl hf rfl rfl he fun a hf => ?_
  replace hB4 := hB4.chg hx64 (nmc ne_b3_b16 nm0)
  replace hB41 := hB41.chg hx64 (nmc ne_b10_b16 nm0)
  replace hB51 := hB51.chg hx64 (nmc (Ne.symm ne_b16_b50) nm0)
  replace hP := hP.chg hx64 (allc ⟨hH_b16, ne_p_b16⟩ all0)
  replace hT46 := hT46.chg hx64 (fun b hb _ => (nmc (by omega) nm0))
  replace hle48 := nlt hle48 hx64.size
  replace hO58 := own_gchg hO58 hx64 (nmc (Ne.symm ne_b16_g56) nm0)
  replace hE := hE.trans hx64 (allc (.inr ge_b16) all0)
  clear hB30
  refine ⟨.inr (by kernel_rfl), ?_⟩
  refine dl_done (by kernel_rfl) ?_
  clear hS0 hsel
  refine hK43 _ _ <| wS fun K65 hK65 => wR <| sV hf rfl (ex_loadBN (m := 4) hf rfl (by kernel_rfl) hB63 rfl) fun a hf => ?_
  obtain ⟨w66, he, hB67, hx68⟩ := eN (.tmp 2) (.tmp 27) hf rfl rfl rfl rfl hB4 rfl 0
  refine st_s hf rfl rfl he fun a hf => ?_
  replace hB41 := hB41.chg hx68 (nmc (Ne.symm ne_b3_b10) nm0)
  replace hB63 := hB63.chg hx68 (nmc (Ne.symm ne_b3_b16) nm0)
  replace hB51 := hB51.chg hx68 (nmc (Ne.symm ne_b3_b50) nm0)
  replace hP := hP.chg hx68 (allc ⟨hH_b3, ne_p_b3⟩ all0)
  replace hT46 := hT46.chg hx68 (fun b hb _ => (nmc (by omega) nm0))
  replace hle48 := nlt hle48 hx68.size
  replace hO58 := own_gchg hO58 hx68 (nmc (Ne.symm ne_b3_g56) nm0)
  replace hE := hE.trans hx68 (allc (.inr ge_b3) all0)
  clear hB4
  refine sN <| hK65 _ _ <| wp_ret ?_
  try simp only [Exit.then, Exit.inBlock]
  exact ret_of (rs := [.cell 2 26]) hf rfl ⟨_, _, _, _, 4, rfl, rfl, by kernel_rfl, hB67, rfl, rfl⟩ ⟨_, _, _, _, rfl, tree_mk (Nat.le_refl _) (maxLen_ge rfl) (own_cap hO58).1 (own_cap hO58).2 (RowIn.of_blk hB41 ge_b10 rfl) (kids_one (hT46.mono (fun b hb => by omega))) (RowIn.of_own hO58), hP, hE, hL⟩
theorem pAliasL {H p n : Nat} {s : PS} {w : World} (hP : PAt H w p s) (hn : s.toks.length < n) : Calls Try.prog 53 [.pointer (some ⟨p, 0, none⟩)].toArray w (TreePost w H p s (aliasT n s)) := by
  refine enter_fr 33 Try.func53 rfl rfl rfl ?_
  intro a hf
  have hE := Chg.refl [p] w
  have hL := Nat.le_refl s.toks.length
  refine wS fun K1 hK1 => wR ?_
  obtain ⟨w2, b3, he, hB4, hx5, eb6, lb7⟩ := eT a w 0
  refine sV hf rfl he fun a hf => ?_
  have ne_p_b3 : p ≠ b3 := ne_new hP.lt eb6
  have ge_b3 := ge_new hE eb6
  have hH_b3 : H ≤ b3 := by have := hP.le; have := hP.lt; omega
  replace hP := hP.chg hx5 all0
  replace hE := hE.t0 hx5
  clear eb6 lb7
  refine sN <| hK1 _ _ <| wS fun K8 hK8 => wR ?_
  obtain ⟨w9, b10, he, hB11, hx12, eb13, lb14⟩ := ef_make (P := Try.prog) (m := 3) (x := (.const (.int .i64 3))) (y := (.const (.int .i64 3))) (z := .string ⟨([] : List UInt8).toArray⟩) (sz := 1) (by_ := 16) (cs := [.string ⟨([] : List UInt8).toArray⟩, .string ⟨([] : List UInt8).toArray⟩, .string ⟨([] : List UInt8).toArray⟩]) hf rfl rfl Try.underlying23 (by kernel_rfl) (by kernel_rfl) (by kernel_rfl) (by kernel_rfl) w2 23
  refine sV hf rfl he fun a hf => ?_
  have ne_b3_b10 : b3 ≠ b10 := ne_new hB4.lt eb13
  have ne_p_b10 : p ≠ b10 := ne_new hP.lt eb13
  have ge_b10 := ge_new hE eb13
  have hH_b10 : H ≤ b10 := by have := hP.le; have := hP.lt; omega
  replace hB4 := hB4.c0 hx12
  replace hP := hP.chg hx12 all0
  replace hE := hE.t0 hx12
  clear eb13 lb14
  refine sV hf rfl (ex_bd (ps := [(0, (.const (.int .i64 3))), (2, (.tmp 4))]) (z := zT) (os := [0, 2]) hf rfl (by kernel_rfl) (by kernel_rfl) (by kernel_rfl) rfl rfl) fun a hf => ?_
  obtain ⟨w15, b16, he, hB17, hx18, eb19, lb20⟩ := eT a w9 0
  refine sV hf rfl he fun a hf => ?_
  have ne_b3_b16 : b3 ≠ b16 := ne_new hB4.lt eb19
  have ne_b10_b16 : b10 ≠ b16 := ne_new hB11.lt eb19
  have ne_p_b16 : p ≠ b16 := ne_new hP.lt eb19
  have ge_b16 := ge_new hE eb19
  have hH_b16 : H ≤ b16 := by have := hP.le; have := hP.lt; omega
  replace hB4 := hB4.c0 hx18
  replace hB11 := hB11.c0 hx18
  replace hP := hP.chg hx18 all0
  replace hE := hE.t0 hx18
  clear eb19 lb20
  obtain ⟨w21, he, hB22, hx23⟩ := eN (.tmp 3) (.tmp 5) hf rfl rfl rfl rfl hB17 rfl 0
  refine st_s hf rfl rfl he fun a hf => ?_
  replace hB4 := hB4.chg hx23 (nmc ne_b3_b16 nm0)
  replace hB11 := hB11.chg hx23 (nmc ne_b10_b16 nm0)
  replace hP := hP.chg hx23 (allc ⟨hH_b16, ne_p_b16⟩ all0)
  replace hE := hE.trans hx23 (allc (.inr ge_b16) all0)
  clear hB17
  refine sN <| hK8 _ _ <| wS fun K24 hK24 => ?_
  have s_hB22 := hB22
  refine dl_start (fun x => x.cell? ⟨b16, 2, none⟩ = w21.cell? ⟨b16, 2, none⟩) 6 6 rfl (by kernel_rfl) (by kernel_rfl) ?_
  intro w25 hx26 hsel
  replace hB4 := hB4.c0 hx26
  replace hB11 := hB11.c0 hx26
  replace hB22 := hB22.c0 hx26
  replace hP := hP.chg hx26 all0
  replace hE := hE.t0 hx26
  have hS0 := hB22.same s_hB22 2
  refine dV 0 rfl rfl hsel (by kernel_rfl) hf rfl (.inl hS0) (fun x => ex_fa (k := 2) (r := 2) hf rfl (by kernel_rfl) rfl) fun a hf => dL 1 rfl rfl hsel (by kernel_rfl) hf rfl hS0 (fun x hS => ex_load hf rfl (by kernel_rfl) (hS.trans ((s_hB22.cell 2).trans rfl))) fun a hf => dM 2 rfl rfl hsel (by kernel_rfl) hf rfl hS0 rfl fun a hf => dl_c 3 (by kernel_rfl) rfl hf rfl rfl rfl (by kernel_rfl) (pWordL (x := wType) hP (by decide)) ?_
  rintro _ w28 ⟨rfl, hP, hx27⟩
  refine ⟨_, rfl, fun a hf => ?_⟩
  replace hB4 := hB4.chg hx27 (nmc (Ne.symm ne_p_b3) nm0)
  replace hB11 := hB11.chg hx27 (nmc (Ne.symm ne_p_b10) nm0)
  replace hB22 := hB22.chg hx27 (nmc (Ne.symm ne_p_b16) nm0)
  replace hE := hE.trans hx27 (allc (.inl (by simp)) all0)
  replace hL := nlt (pWord_len wType _) hL
  clear hS0
  have hS0 := hB22.same s_hB22 2
  refine ⟨.inl hS0, ?_⟩
  refine dV 4 rfl rfl hsel (by kernel_rfl) hf rfl (.inl hS0) (fun x => ex_index (sz := 1) (k := 0) (r := 0) hf Try.underlying23 (by kernel_rfl) rfl rfl rfl (by first | decide | simp) rfl) fun a hf => ?_
  obtain ⟨w29, he, hB30, hx31⟩ := ef_store (P := Try.prog) (t := 9) (x := (.tmp 10)) (y := (.tmp 9)) hf rfl rfl (by kernel_rfl) rfl hB11 (Nat.le_of_ble_eq_true rfl) 0
  refine dl_s 5 (by kernel_rfl) rfl hf rfl rfl he fun a hf => ?_
  replace hB4 := hB4.chg hx31 (nmc ne_b3_b10 nm0)
  replace hB22 := hB22.chg hx31 (nmc (Ne.symm ne_b10_b16) nm0)
  replace hP := hP.chg hx31 (allc ⟨hH_b10, ne_p_b10⟩ all0)
  replace hE := hE.trans hx31 (allc (.inr ge_b10) all0)
  clear hB11
  clear hS0
  have hS0 := hB22.same s_hB22 2
  refine ⟨.inl hS0, ?_⟩
  refine dl_done (by kernel_rfl) ?_
  clear hS0 hsel
  refine hK24 _ _ <| wS fun K32 hK32 => ?_
  have s_hB22 := hB22
  refine dl_start (fun x => x.cell? ⟨b16, 2, none⟩ = w29.cell? ⟨b16, 2, none⟩) 11 11 rfl (by kernel_rfl) (by kernel_rfl) ?_
  intro w33 hx34 hsel
  replace hB4 := hB4.c0 hx34
  replace hB30 := hB30.c0 hx34
  replace hB22 := hB22.c0 hx34
  replace hP := hP.chg hx34 all0
  replace hE := hE.t0 hx34
  have hS0 := hB22.same s_hB22 2
  refine dV 0 rfl rfl hsel (by kernel_rfl) hf rfl (.inl hS0) (fun x => ex_fa (k := 2) (r := 2) hf rfl (by kernel_rfl) rfl) fun a hf => dL 1 rfl rfl hsel (by kernel_rfl) hf rfl hS0 (fun x hS => ex_load hf rfl (by kernel_rfl) (hS.trans ((s_hB22.cell 2).trans rfl))) fun a hf => dM 2 rfl rfl hsel (by kernel_rfl) hf rfl hS0 rfl fun a hf => dl_c 3 (by kernel_rfl) rfl hf rfl rfl rfl (by kernel_rfl) (pNameL (k := 2) (o := 2) hP) ?_
  rintro _ w36 ⟨rfl, hP, hx35⟩
  refine ⟨_, rfl, fun a hf => ?_⟩
  replace hB4 := hB4.chg hx35 (nmc (Ne.symm ne_p_b3) nm0)
  replace hB30 := hB30.chg hx35 (nmc (Ne.symm ne_p_b10) nm0)
  replace hB22 := hB22.chg hx35 (nmc (Ne.symm ne_p_b16) nm0)
  replace hE := hE.trans hx35 (allc (.inl (by simp)) all0)
  replace hL := nlt (pName_len 2 2 _) hL
  clear hS0
  have hS0 := hB22.same s_hB22 2
  refine ⟨.inl hS0, ?_⟩
  refine dM 4 rfl rfl hsel (by kernel_rfl) hf rfl hS0 rfl fun a hf => dV 5 rfl rfl hsel (by kernel_rfl) hf rfl (.inl hS0) (fun x => ex_extract hf rfl rfl) fun a hf => dV 6 rfl rfl hsel (by kernel_rfl) hf rfl (.inl hS0) (fun x => ex_extract hf rfl rfl) fun a hf => dV 7 rfl rfl hsel (by kernel_rfl) hf rfl (.inl hS0) (fun x => ex_fa (k := 1) (r := 1) hf rfl (by kernel_rfl) rfl) fun a hf => ?_
  obtain ⟨w37, he, hB38, hx39⟩ := ef_store (P := Try.prog) (t := 9) (x := (.tmp 18)) (y := (.tmp 16)) hf rfl rfl (by kernel_rfl) rfl hB22 (Nat.le_of_ble_eq_true rfl) 0
  refine dl_s 8 (by kernel_rfl) rfl hf rfl rfl he fun a hf => ?_
  replace hB4 := hB4.chg hx39 (nmc ne_b3_b16 nm0)
  replace hB30 := hB30.chg hx39 (nmc ne_b10_b16 nm0)
  replace hP := hP.chg hx39 (allc ⟨hH_b16, ne_p_b16⟩ all0)
  replace hE := hE.trans hx39 (allc (.inr ge_b16) all0)
  clear hB22
  clear hS0
  have hS0 := hB38.same s_hB22 2
  refine ⟨.inl hS0, ?_⟩
  refine dV 9 rfl rfl hsel (by kernel_rfl) hf rfl (.inl hS0) (fun x => ex_index (sz := 1) (k := 1) (r := 1) hf Try.underlying23 (by kernel_rfl) rfl rfl rfl (by first | decide | simp) rfl) fun a hf => ?_
  obtain ⟨w40, he, hB41, hx42⟩ := ef_store (P := Try.prog) (t := 9) (x := (.tmp 19)) (y := (.tmp 17)) hf rfl rfl (by kernel_rfl) rfl hB30 (Nat.le_of_ble_eq_true rfl) 0
  refine dl_s 10 (by kernel_rfl) rfl hf rfl rfl he fun a hf => ?_
  replace hB4 := hB4.chg hx42 (nmc ne_b3_b10 nm0)
  replace hB38 := hB38.chg hx42 (nmc (Ne.symm ne_b10_b16) nm0)
  replace hP := hP.chg hx42 (allc ⟨hH_b10, ne_p_b10⟩ all0)
  replace hE := hE.trans hx42 (allc (.inr ge_b10) all0)
  clear hB30
  clear hS0
  have hS0 := hB38.same s_hB22 2
  refine ⟨.inl hS0, ?_⟩
  refine dl_done (by kernel_rfl) ?_
  clear hS0 hsel
  refine hK32 _ _ <| wS fun K43 hK43 => ?_
  have s_hB38 := hB38
  refine dl_start (fun x => x.cell? ⟨b16, 2, none⟩ = w40.cell? ⟨b16, 2, none⟩) 6 6 rfl (by kernel_rfl) (by kernel_rfl) ?_
  intro w44 hx45 hsel
  replace hB4 := hB4.c0 hx45
  replace hB41 := hB41.c0 hx45
  replace hB38 := hB38.c0 hx45
  replace hP := hP.chg hx45 all0
  replace hE := hE.t0 hx45
  have hS0 := hB38.same s_hB38 2
  refine dV 0 rfl rfl hsel (by kernel_rfl) hf rfl (.inl hS0) (fun x => ex_fa (k := 2) (r := 2) hf rfl (by kernel_rfl) rfl) fun a hf => dL 1 rfl rfl hsel (by kernel_rfl) hf rfl hS0 (fun x hS => ex_load hf rfl (by kernel_rfl) (hS.trans ((s_hB38.cell 2).trans rfl))) fun a hf => dM 2 rfl rfl hsel (by kernel_rfl) hf rfl hS0 rfl fun a hf => dl_c 3 (by kernel_rfl) rfl hf rfl rfl rfl (by kernel_rfl) (pWordL (x := [61]) hP (by decide)) ?_
  rintro _ w47 ⟨rfl, hP, hx46⟩
  refine ⟨_, rfl, fun a hf => ?_⟩
  replace hB4 := hB4.chg hx46 (nmc (Ne.symm ne_p_b3) nm0)
  replace hB41 := hB41.chg hx46 (nmc (Ne.symm ne_p_b10) nm0)
  replace hB38 := hB38.chg hx46 (nmc (Ne.symm ne_p_b16) nm0)
  replace hE := hE.trans hx46 (allc (.inl (by simp)) all0)
  replace hL := nlt (pWord_len [61] _) hL
  clear hS0
  have hS0 := hB38.same s_hB38 2
  refine ⟨.inl hS0, ?_⟩
  refine dV 4 rfl rfl hsel (by kernel_rfl) hf rfl (.inl hS0) (fun x => ex_index (sz := 1) (k := 2) (r := 2) hf Try.underlying23 (by kernel_rfl) rfl rfl rfl (by first | decide | simp) rfl) fun a hf => ?_
  obtain ⟨w48, he, hB49, hx50⟩ := ef_store (P := Try.prog) (t := 9) (x := (.tmp 24)) (y := (.tmp 23)) hf rfl rfl (by kernel_rfl) rfl hB41 (Nat.le_of_ble_eq_true rfl) 0
  refine dl_s 5 (by kernel_rfl) rfl hf rfl rfl he fun a hf => ?_
  replace hB4 := hB4.chg hx50 (nmc ne_b3_b10 nm0)
  replace hB38 := hB38.chg hx50 (nmc (Ne.symm ne_b10_b16) nm0)
  replace hP := hP.chg hx50 (allc ⟨hH_b10, ne_p_b10⟩ all0)
  replace hE := hE.trans hx50 (allc (.inr ge_b10) all0)
  clear hB41
  clear hS0
  have hS0 := hB38.same s_hB38 2
  refine ⟨.inl hS0, ?_⟩
  refine dl_done (by kernel_rfl) ?_
  clear hS0 hsel
  refine hK43 _ _ <| wS fun K51 hK51 => ?_
  have s_hB38 := hB38
  refine dl_start (fun x => x.cell? ⟨b16, 3, none⟩ = w48.cell? ⟨b16, 3, none⟩) 7 8 rfl (by kernel_rfl) (by kernel_rfl) ?_
  intro w52 hx53 hsel
  replace hB4 := hB4.c0 hx53
  replace hB49 := hB49.c0 hx53
  replace hB38 := hB38.c0 hx53
  replace hP := hP.chg hx53 all0
  replace hE := hE.t0 hx53
  have hS0 := hB38.same s_hB38 3
  refine dV 0 rfl rfl hsel (by kernel_rfl) hf rfl (.inl hS0) (fun x => ex_fa (k := 3) (r := 3) hf rfl (by kernel_rfl) rfl) fun a hf => dL 1 rfl rfl hsel (by kernel_rfl) hf rfl hS0 (fun x hS => ex_load hf rfl (by kernel_rfl) (hS.trans ((s_hB38.cell 3).trans rfl))) fun a hf => dM 2 rfl rfl hsel (by kernel_rfl) hf rfl hS0 rfl fun a hf => ?_
  have plt54 := hP.lt
  refine dl_c 3 (by kernel_rfl) rfl hf rfl rfl rfl (by kernel_rfl) (typL n _ _ _ _ hP (by omega)) ?_
  rintro _ w55 ⟨c54_0, c54_1, c54_2, c54_3, rfl, hT54, hP, hx54, hl54⟩
  refine ⟨_, rfl, fun a hf => ?_⟩
  obtain ⟨lo56, elo56⟩ : ∃ x, x = w52.heap.size := ⟨_, rfl⟩
  obtain ⟨hi56, ehi56⟩ : ∃ x, x = w55.heap.size := ⟨_, rfl⟩
  replace hT54 := hT54.within elo56 ehi56
  have hle56 : hi56 ≤ w55.heap.size := Nat.le_of_eq ehi56
  have ge_lo56 : w.heap.size ≤ lo56 := elo56 ▸ hE.size
  have tb_lo56_b3 : b3 < lo56 := elo56 ▸ hB4.lt
  have tb_lo56_b10 : b10 < lo56 := elo56 ▸ hB49.lt
  have tb_lo56_b16 : b16 < lo56 := elo56 ▸ hB38.lt
  have tb_lo56_p : p < lo56 := elo56 ▸ plt54
  clear elo56 ehi56
  clear plt54
  have on_hT54 := hT54.one
  replace hB4 := hB4.chg hx54 (nmc (Ne.symm ne_p_b3) nm0)
  replace hB49 := hB49.chg hx54 (nmc (Ne.symm ne_p_b10) nm0)
  replace hB38 := hB38.chg hx54 (nmc (Ne.symm ne_p_b16) nm0)
  replace hE := hE.trans hx54 (allc (.inl (by simp)) all0)
  replace hL := nlt hl54 hL
  clear hS0
  have hS0 := hB38.same s_hB38 3
  refine ⟨.inl hS0, ?_⟩
  obtain ⟨w57, b58, he, hB59, hx60, eb61, lb62⟩ := ef_bslice (P := Try.prog) (ps := [(0, (.tmp 28))]) (m := 1) (sz := 4) (z := zT) hf rfl Try.underlying24 (by kernel_rfl) (by kernel_rfl) rfl rfl (by kernel_rfl) rfl w55 24
  refine dl_e 4 (by kernel_rfl) rfl hf rfl rfl he fun a hf => ?_
  have ne_b3_b58 : b3 ≠ b58 := ne_new hB4.lt eb61
  have ne_b10_b58 : b10 ≠ b58 := ne_new hB49.lt eb61
  have ne_b16_b58 : b16 ≠ b58 := ne_new hB38.lt eb61
  have ne_p_b58 : p ≠ b58 := ne_new hP.lt eb61
  have ta_hi56_b58 : hi56 ≤ b58 := eb61 ▸ hle56
  have ge_b58 := ge_new hE eb61
  have hH_b58 : H ≤ b58 := by have := hP.le; have := hP.lt; omega
  replace hB4 := hB4.c0 hx60
  replace hB49 := hB49.c0 hx60
  replace hB38 := hB38.c0 hx60
  replace hP := hP.chg hx60 all0
  replace hT54 := hT54.chg hx60 (fun b hb _ => nm0)
  replace hle56 := nlt hle56 hx60.size
  replace hE := hE.t0 hx60
  clear eb61 lb62
  clear hS0
  have hS0 := hB38.same s_hB38 3
  refine ⟨.inl hS0, ?_⟩
  obtain ⟨g64, cap65, w63, he, hO66, hx67, hat68, hlt69⟩ := ef_append0 (P := Try.prog) (x := (.tmp 26)) (y := (.tmp 29)) (z := .agg zA) (sz := 4) (by_ := 72) hf rfl rfl Try.underlying24 (by kernel_rfl) rfl rfl (World.ownsRow_nil w57 w.heap.size 26 4) hB59 rfl on_hT54 rfl (by simp only [maxLen]; omega) (by omega) (hE.size) 24
  refine dl_e 5 (by kernel_rfl) rfl hf rfl rfl he fun a hf => ?_
  have ne_b3_g64 : b3 ≠ g64 := by have := hB4.lt; omega
  have ne_b10_g64 : b10 ≠ g64 := by have := hB49.lt; omega
  have ne_b16_g64 : b16 ≠ g64 := by have := hB38.lt; omega
  have ne_b58_g64 : b58 ≠ g64 := by have := hB59.lt; omega
  have ne_p_g64 : p ≠ g64 := by have := hP.lt; omega
  have ta_hi56_g64 : hi56 ≤ g64 ∨ g64 < lo56 := by have := hle56; omega
  have ge_g64 : w.heap.size ≤ g64 := own_gle hO66
  have hH_g64 : H ≤ g64 := by have := hP.le; have := hP.lt; omega
  replace hB4 := hB4.c0 hx67
  replace hB49 := hB49.c0 hx67
  replace hB38 := hB38.c0 hx67
  replace hB59 := hB59.c0 hx67
  replace hP := hP.chg hx67 all0
  replace hT54 := hT54.chg hx67 (fun b hb _ => nm0)
  replace hle56 := nlt hle56 hx67.size
  replace hE := hE.t0 hx67
  clear hat68 hlt69
  clear hS0
  have hS0 := hB38.same s_hB38 3
  refine ⟨.inl hS0, ?_⟩
  refine dV 6 rfl rfl hsel (by kernel_rfl) hf rfl (.inl hS0) (fun x => ex_fa (k := 3) (r := 3) hf rfl (by kernel_rfl) rfl) fun a hf => ?_
  obtain ⟨w70, he, hB71, hx72⟩ := ef_store (P := Try.prog) (t := 24) (x := (.tmp 31)) (y := (.tmp 30)) hf rfl rfl (by kernel_rfl) rfl hB38 (Nat.le_of_ble_eq_true rfl) 0
  refine dl_s 7 (by kernel_rfl) rfl hf rfl rfl he fun a hf => ?_
  replace hB4 := hB4.chg hx72 (nmc ne_b3_b16 nm0)
  replace hB49 := hB49.chg hx72 (nmc ne_b10_b16 nm0)
  replace hB59 := hB59.chg hx72 (nmc (Ne.symm ne_b16_b58) nm0)
  replace hP := hP.chg hx72 (allc ⟨hH_b16, ne_p_b16⟩ all0)
  replace hT54 := hT54.chg hx72 (fun b hb _ => (nmc (by omega) nm0))
  replace hle56 := nlt hle56 hx72.size
  replace hO66 := own_gchg hO66 hx72 (nmc (Ne.symm ne_b16_g64) nm0)
  replace hE := hE.trans hx72 (allc (.inr ge_b16) all0)
  clear hB38
  refine ⟨.inr (by kernel_rfl), ?_⟩
  refine dl_done (by kernel_rfl) ?_
  clear hS0 hsel
  refine hK51 _ _ <| wS fun K73 hK73 => wR <| sV hf rfl (ex_loadBN (m := 4) hf rfl (by kernel_rfl) hB71 rfl) fun a hf => ?_
  obtain ⟨w74, he, hB75, hx76⟩ := eN (.tmp 2) (.tmp 32) hf rfl rfl rfl rfl hB4 rfl 0
  refine st_s hf rfl rfl he fun a hf => ?_
  replace hB49 := hB49.chg hx76 (nmc (Ne.symm ne_b3_b10) nm0)
  replace hB71 := hB71.chg hx76 (nmc (Ne.symm ne_b3_b16) nm0)
  replace hB59 := hB59.chg hx76 (nmc (Ne.symm ne_b3_b58) nm0)
  replace hP := hP.chg hx76 (allc ⟨hH_b3, ne_p_b3⟩ all0)
  replace hT54 := hT54.chg hx76 (fun b hb _ => (nmc (by omega) nm0))
  replace hle56 := nlt hle56 hx76.size
  replace hO66 := own_gchg hO66 hx76 (nmc (Ne.symm ne_b3_g64) nm0)
  replace hE := hE.trans hx76 (allc (.inr ge_b3) all0)
  clear hB4
  refine sN <| hK73 _ _ <| wp_ret ?_
  try simp only [Exit.then, Exit.inBlock]
  exact ret_of (rs := [.cell 2 26]) hf rfl ⟨_, _, _, _, 4, rfl, rfl, by kernel_rfl, hB75, rfl, rfl⟩ ⟨_, _, _, _, rfl, tree_mk (Nat.le_refl _) (maxLen_ge rfl) (own_cap hO66).1 (own_cap hO66).2 (RowIn.of_blk hB49 ge_b10 rfl) (kids_one (hT54.mono (fun b hb => by omega))) (RowIn.of_own hO66), hP, hE, hL⟩
end Go.Proofs.Ythpjpngfghcmcaa
namespace Go.Proofs.Ythpjpngfghcmcaa
open Go.RowKit Lx Sx
set_option maxRecDepth 100000
set_option maxHeartbeats 4000000
theorem operatorL {x : List UInt8} {w : World} : Calls Try.prog 67 [strV x].toArray w fun e w' => e = .returned (.bool (operB x)) ∧ Chg [] w w' := by
  refine enter_fr 10 Try.func67 rfl rfl rfl ?_
  intro a hf
  have hE := Chg.refl [] w
  refine wS fun K1 hK1 => wR <| sA hf rfl rfl fun a hf => sN <| hK1 _ _ <| wS fun K2 hK2 => wS fun K3 hK3 => wR <| sM hf rfl rfl fun a hf => sN <| hK3 _ _ <| wp_block <| wS fun K4 hK4 => wS fun K5 hK5 => wR <| st_b hf rfl rfl (fun c hc => ex_eqS hf rfl rfl hc) ?_ ?_
  clear hf a; intro h5 a hf
  refine sA hf rfl rfl fun a hf => sN <| hK5 _ _ <| cT hf rfl <| wp_skip <| hK4 _ _ <| cT hf rfl <| wS fun K6 hK6 => wR <| sA hf rfl rfl fun a hf => sN <| hK6 _ _ <| wp_ret ?_
  try simp only [Exit.then, Exit.inBlock]
  exact ret_of (rs := [.tmp 2]) hf rfl ⟨_, _, rfl, rfl, rfl⟩ ⟨by rw [show operB x = true from by simp only [operB, h5]; rfl]; rfl, hE⟩
  clear hf a; intro h5 a hf
  refine sA hf rfl rfl fun a hf => sN <| hK5 _ _ <| cF hf rfl <| wS fun K7 hK7 => wR <| st_b hf rfl rfl (fun c hc => ex_eqS hf rfl rfl hc) ?_ ?_
  clear hf a; intro h6 a hf
  refine sA hf rfl rfl fun a hf => sN <| hK7 _ _ <| cT hf rfl <| wp_skip <| hK4 _ _ <| cT hf rfl <| wS fun K8 hK8 => wR <| sA hf rfl rfl fun a hf => sN <| hK8 _ _ <| wp_ret ?_
  try simp only [Exit.then, Exit.inBlock]
  exact ret_of (rs := [.tmp 2]) hf rfl ⟨_, _, rfl, rfl, rfl⟩ ⟨by rw [show operB x = true from by simp only [operB, h5, h6]; rfl]; rfl, hE⟩
  clear hf a; intro h6 a hf
  refine sA hf rfl rfl fun a hf => sN <| hK7 _ _ <| cF hf rfl <| wS fun K9 hK9 => wR <| st_b hf rfl rfl (fun c hc => ex_eqS hf rfl rfl hc) ?_ ?_
  clear hf a; intro h7 a hf
  refine sA hf rfl rfl fun a hf => sN <| hK9 _ _ <| cT hf rfl <| wp_skip <| hK4 _ _ <| cT hf rfl <| wS fun K10 hK10 => wR <| sA hf rfl rfl fun a hf => sN <| hK10 _ _ <| wp_ret ?_
  try simp only [Exit.then, Exit.inBlock]
  exact ret_of (rs := [.tmp 2]) hf rfl ⟨_, _, rfl, rfl, rfl⟩ ⟨by rw [show operB x = true from by simp only [operB, h5, h6, h7]; rfl]; rfl, hE⟩
  clear hf a; intro h7 a hf
  refine sA hf rfl rfl fun a hf => sN <| hK9 _ _ <| cF hf rfl <| wS fun K11 hK11 => wR <| st_b hf rfl rfl (fun c hc => ex_eqS hf rfl rfl hc) ?_ ?_
  clear hf a; intro h8 a hf
  refine sA hf rfl rfl fun a hf => sN <| hK11 _ _ <| cT hf rfl <| wp_skip <| hK4 _ _ <| cT hf rfl <| wS fun K12 hK12 => wR <| sA hf rfl rfl fun a hf => sN <| hK12 _ _ <| wp_ret ?_
  try simp only [Exit.then, Exit.inBlock]
  exact ret_of (rs := [.tmp 2]) hf rfl ⟨_, _, rfl, rfl, rfl⟩ ⟨by rw [show operB x = true from by simp only [operB, h5, h6, h7, h8]; rfl]; rfl, hE⟩
  clear hf a; intro h8 a hf
  refine sA hf rfl rfl fun a hf => sN <| hK11 _ _ <| cF hf rfl <| wR <| st_b hf rfl rfl (fun c hc => ex_eqS hf rfl rfl hc) ?_ ?_
  clear hf a; intro h9 a hf
  refine sA hf rfl rfl fun a hf => sN <| hK4 _ _ <| cT hf rfl <| wS fun K13 hK13 => wR <| sA hf rfl rfl fun a hf => sN <| hK13 _ _ <| wp_ret ?_
  try simp only [Exit.then, Exit.inBlock]
  exact ret_of (rs := [.tmp 2]) hf rfl ⟨_, _, rfl, rfl, rfl⟩ ⟨by rw [show operB x = true from by simp only [operB, h5, h6, h7, h8, h9]; rfl]; rfl, hE⟩
  clear hf a; intro h9 a hf
  refine sA hf rfl rfl fun a hf => sN <| hK4 _ _ <| cF hf rfl <| wp_skip <| hK2 _ _ <| wS fun K14 hK14 => wR <| sA hf rfl rfl fun a hf => sN <| hK14 _ _ <| wp_ret ?_
  try simp only [Exit.then, Exit.inBlock]
  exact ret_of (rs := [.tmp 2]) hf rfl ⟨_, _, rfl, rfl, rfl⟩ ⟨by rw [show operB x = false from by simp only [operB, h5, h6, h7, h8, h9]; rfl]; rfl, hE⟩
theorem beginsL {t : Tok} {w : World} : Calls Try.prog 124 [tokV t].toArray w fun e w' => e = .returned (.bool (beginsB t)) ∧ Chg [] w w' := by
  refine enter_fr 20 Try.func124 rfl rfl rfl ?_
  intro a hf
  have hE := Chg.refl [] w
  refine wS fun K1 hK1 => wR ?_
  obtain ⟨w2, b3, he, hB4, hx5, eb6, lb7⟩ := ef_box (P := Try.prog) (t := 49) (x := (.tmp 0)) hf rfl rfl w 0
  refine sV hf rfl he fun a hf => ?_
  have ge_b3 := ge_new hE eb6
  replace hE := hE.t0 hx5
  clear eb6 lb7
  refine sA hf rfl rfl fun a hf => sN <| hK1 _ _ <| wS fun K8 hK8 => wS fun K9 hK9 => wR <| sV hf rfl (ex_fa (k := 0) (r := 0) hf rfl (by kernel_rfl) rfl) fun a hf => sV hf rfl (ex_loadB hf rfl (by kernel_rfl) hB4 rfl) fun a hf => sN <| hK9 _ _ <| wp_block <| wS fun K10 hK10 => wS fun K11 hK11 => wR <| st_b hf rfl rfl (fun c hc => ex_eqI hf rfl rfl hc) ?_ ?_
  clear hf a; intro h6 a hf
  refine sA hf rfl rfl fun a hf => sN <| hK11 _ _ <| cT hf rfl <| wp_skip <| hK10 _ _ <| cT hf rfl <| wS fun K12 hK12 => wR <| sA hf rfl rfl fun a hf => sN <| hK12 _ _ <| wp_ret ?_
  try simp only [Exit.then, Exit.inBlock]
  exact ret_of (rs := [.tmp 2]) hf rfl ⟨_, _, rfl, rfl, rfl⟩ ⟨by rw [show beginsB t = true from by unfold beginsB; simp only [wLet, wIf, wTrue, wFalse, h6]; rfl]; rfl, hE⟩
  clear hf a; intro h6 a hf
  refine sA hf rfl rfl fun a hf => sN <| hK11 _ _ <| cF hf rfl <| wS fun K13 hK13 => wR <| st_b hf rfl rfl (fun c hc => ex_eqI hf rfl rfl hc) ?_ ?_
  clear hf a; intro h7 a hf
  refine sA hf rfl rfl fun a hf => sN <| hK13 _ _ <| cT hf rfl <| wp_skip <| hK10 _ _ <| cT hf rfl <| wS fun K14 hK14 => wR <| sA hf rfl rfl fun a hf => sN <| hK14 _ _ <| wp_ret ?_
  try simp only [Exit.then, Exit.inBlock]
  exact ret_of (rs := [.tmp 2]) hf rfl ⟨_, _, rfl, rfl, rfl⟩ ⟨by rw [show beginsB t = true from by unfold beginsB; simp only [wLet, wIf, wTrue, wFalse, h6, h7]; rfl]; rfl, hE⟩
  clear hf a; intro h7 a hf
  refine sA hf rfl rfl fun a hf => sN <| hK13 _ _ <| cF hf rfl <| wS fun K15 hK15 => wR <| st_b hf rfl rfl (fun c hc => ex_eqI hf rfl rfl hc) ?_ ?_
  clear hf a; intro h8 a hf
  refine sA hf rfl rfl fun a hf => sN <| hK15 _ _ <| cT hf rfl <| wp_skip <| hK10 _ _ <| cT hf rfl <| wS fun K16 hK16 => wR <| sA hf rfl rfl fun a hf => sN <| hK16 _ _ <| wp_ret ?_
  try simp only [Exit.then, Exit.inBlock]
  exact ret_of (rs := [.tmp 2]) hf rfl ⟨_, _, rfl, rfl, rfl⟩ ⟨by rw [show beginsB t = true from by unfold beginsB; simp only [wLet, wIf, wTrue, wFalse, h6, h7, h8]; rfl]; rfl, hE⟩
  clear hf a; intro h8 a hf
  refine sA hf rfl rfl fun a hf => sN <| hK15 _ _ <| cF hf rfl <| wR <| st_b hf rfl rfl (fun c hc => ex_eqI hf rfl rfl hc) ?_ ?_
  clear hf a; intro h9 a hf
  refine sA hf rfl rfl fun a hf => sN <| hK10 _ _ <| cT hf rfl <| wS fun K17 hK17 => wR <| sA hf rfl rfl fun a hf => sN <| hK17 _ _ <| wp_ret ?_
  try simp only [Exit.then, Exit.inBlock]
  exact ret_of (rs := [.tmp 2]) hf rfl ⟨_, _, rfl, rfl, rfl⟩ ⟨by rw [show beginsB t = true from by unfold beginsB; simp only [wLet, wIf, wTrue, wFalse, h6, h7, h8, h9]; rfl]; rfl, hE⟩
  clear hf a; intro h9 a hf
  refine sA hf rfl rfl fun a hf => sN <| hK10 _ _ <| cF hf rfl <| wp_skip <| hK8 _ _ <| wS fun K18 hK18 => wS fun K19 hK19 => wR <| sV hf rfl (ex_fa (k := 2) (r := 2) hf rfl (by kernel_rfl) rfl) fun a hf => sV hf rfl (ex_loadB hf rfl (by kernel_rfl) hB4 rfl) fun a hf => sN <| hK19 _ _ <| wp_block <| wS fun K20 hK20 => wS fun K21 hK21 => wR <| st_b hf rfl rfl (fun c hc => ex_eqS hf rfl rfl hc) ?_ ?_
  clear hf a; intro h13 a hf
  refine sA hf rfl rfl fun a hf => sN <| hK21 _ _ <| cT hf rfl <| wp_skip <| hK20 _ _ <| cT hf rfl <| wS fun K22 hK22 => wR <| sA hf rfl rfl fun a hf => sN <| hK22 _ _ <| wp_ret ?_
  try simp only [Exit.then, Exit.inBlock]
  exact ret_of (rs := [.tmp 2]) hf rfl ⟨_, _, rfl, rfl, rfl⟩ ⟨by rw [show beginsB t = true from by unfold beginsB; simp only [wLet, wIf, wTrue, wFalse, h6, h7, h8, h9, h13]; rfl]; rfl, hE⟩
  clear hf a; intro h13 a hf
  refine sA hf rfl rfl fun a hf => sN <| hK21 _ _ <| cF hf rfl <| wS fun K23 hK23 => wR <| st_b hf rfl rfl (fun c hc => ex_eqS hf rfl rfl hc) ?_ ?_
  clear hf a; intro h14 a hf
  refine sA hf rfl rfl fun a hf => sN <| hK23 _ _ <| cT hf rfl <| wp_skip <| hK20 _ _ <| cT hf rfl <| wS fun K24 hK24 => wR <| sA hf rfl rfl fun a hf => sN <| hK24 _ _ <| wp_ret ?_
  try simp only [Exit.then, Exit.inBlock]
  exact ret_of (rs := [.tmp 2]) hf rfl ⟨_, _, rfl, rfl, rfl⟩ ⟨by rw [show beginsB t = true from by unfold beginsB; simp only [wLet, wIf, wTrue, wFalse, h6, h7, h8, h9, h13, h14]; rfl]; rfl, hE⟩
  clear hf a; intro h14 a hf
  refine sA hf rfl rfl fun a hf => sN <| hK23 _ _ <| cF hf rfl <| wS fun K25 hK25 => wR <| st_b hf rfl rfl (fun c hc => ex_eqS hf rfl rfl hc) ?_ ?_
  clear hf a; intro h15 a hf
  refine sA hf rfl rfl fun a hf => sN <| hK25 _ _ <| cT hf rfl <| wp_skip <| hK20 _ _ <| cT hf rfl <| wS fun K26 hK26 => wR <| sA hf rfl rfl fun a hf => sN <| hK26 _ _ <| wp_ret ?_
  try simp only [Exit.then, Exit.inBlock]
  exact ret_of (rs := [.tmp 2]) hf rfl ⟨_, _, rfl, rfl, rfl⟩ ⟨by rw [show beginsB t = true from by unfold beginsB; simp only [wLet, wIf, wTrue, wFalse, h6, h7, h8, h9, h13, h14, h15]; rfl]; rfl, hE⟩
  clear hf a; intro h15 a hf
  refine sA hf rfl rfl fun a hf => sN <| hK25 _ _ <| cF hf rfl <| wS fun K27 hK27 => wR <| st_b hf rfl rfl (fun c hc => ex_eqS hf rfl rfl hc) ?_ ?_
  clear hf a; intro h16 a hf
  refine sA hf rfl rfl fun a hf => sN <| hK27 _ _ <| cT hf rfl <| wp_skip <| hK20 _ _ <| cT hf rfl <| wS fun K28 hK28 => wR <| sA hf rfl rfl fun a hf => sN <| hK28 _ _ <| wp_ret ?_
  try simp only [Exit.then, Exit.inBlock]
  exact ret_of (rs := [.tmp 2]) hf rfl ⟨_, _, rfl, rfl, rfl⟩ ⟨by rw [show beginsB t = true from by unfold beginsB; simp only [wLet, wIf, wTrue, wFalse, h6, h7, h8, h9, h13, h14, h15, h16]; rfl]; rfl, hE⟩
  clear hf a; intro h16 a hf
  refine sA hf rfl rfl fun a hf => sN <| hK27 _ _ <| cF hf rfl <| wS fun K29 hK29 => wR <| st_b hf rfl rfl (fun c hc => ex_eqS hf rfl rfl hc) ?_ ?_
  clear hf a; intro h17 a hf
  refine sA hf rfl rfl fun a hf => sN <| hK29 _ _ <| cT hf rfl <| wp_skip <| hK20 _ _ <| cT hf rfl <| wS fun K30 hK30 => wR <| sA hf rfl rfl fun a hf => sN <| hK30 _ _ <| wp_ret ?_
  try simp only [Exit.then, Exit.inBlock]
  exact ret_of (rs := [.tmp 2]) hf rfl ⟨_, _, rfl, rfl, rfl⟩ ⟨by rw [show beginsB t = true from by unfold beginsB; simp only [wLet, wIf, wTrue, wFalse, h6, h7, h8, h9, h13, h14, h15, h16, h17]; rfl]; rfl, hE⟩
  clear hf a; intro h17 a hf
  refine sA hf rfl rfl fun a hf => sN <| hK29 _ _ <| cF hf rfl <| wS fun K31 hK31 => wR <| st_b hf rfl rfl (fun c hc => ex_eqS hf rfl rfl hc) ?_ ?_
  clear hf a; intro h18 a hf
  refine sA hf rfl rfl fun a hf => sN <| hK31 _ _ <| cT hf rfl <| wp_skip <| hK20 _ _ <| cT hf rfl <| wS fun K32 hK32 => wR <| sA hf rfl rfl fun a hf => sN <| hK32 _ _ <| wp_ret ?_
  try simp only [Exit.then, Exit.inBlock]
  exact ret_of (rs := [.tmp 2]) hf rfl ⟨_, _, rfl, rfl, rfl⟩ ⟨by rw [show beginsB t = true from by unfold beginsB; simp only [wLet, wIf, wTrue, wFalse, h6, h7, h8, h9, h13, h14, h15, h16, h17, h18]; rfl]; rfl, hE⟩
  clear hf a; intro h18 a hf
  refine sA hf rfl rfl fun a hf => sN <| hK31 _ _ <| cF hf rfl <| wR <| st_b hf rfl rfl (fun c hc => ex_eqS hf rfl rfl hc) ?_ ?_
  clear hf a; intro h19 a hf
  refine sA hf rfl rfl fun a hf => sN <| hK20 _ _ <| cT hf rfl <| wS fun K33 hK33 => wR <| sA hf rfl rfl fun a hf => sN <| hK33 _ _ <| wp_ret ?_
  try simp only [Exit.then, Exit.inBlock]
  exact ret_of (rs := [.tmp 2]) hf rfl ⟨_, _, rfl, rfl, rfl⟩ ⟨by rw [show beginsB t = true from by unfold beginsB; simp only [wLet, wIf, wTrue, wFalse, h6, h7, h8, h9, h13, h14, h15, h16, h17, h18, h19]; rfl]; rfl, hE⟩
  clear hf a; intro h19 a hf
  refine sA hf rfl rfl fun a hf => sN <| hK20 _ _ <| cF hf rfl <| wp_skip <| hK18 _ _ <| wS fun K34 hK34 => wR <| sA hf rfl rfl fun a hf => sN <| hK34 _ _ <| wp_ret ?_
  try simp only [Exit.then, Exit.inBlock]
  exact ret_of (rs := [.tmp 2]) hf rfl ⟨_, _, rfl, rfl, rfl⟩ ⟨by rw [show beginsB t = false from by unfold beginsB; simp only [wLet, wIf, wTrue, wFalse, h6, h7, h8, h9, h13, h14, h15, h16, h17, h18, h19]; rfl]; rfl, hE⟩
def ExprOk (n : Nat) : Prop := ∀ (H p : Nat) (s : PS) (w : World), PAt H w p s → s.toks.length < n → Calls Try.prog 84 [.pointer (some ⟨p, 0, none⟩)].toArray w (TreePost w H p s (exprT n s))
theorem argL {H p n : Nat} {s : PS} {w : World} (ih : ExprOk n) (hP : PAt H w p s) (hn : s.toks.length < n) : Calls Try.prog 123 [.pointer (some ⟨p, 0, none⟩)].toArray w (TreePost w H p s (argF (exprT n) s)) := by
  refine enter_fr 7 Try.func123 rfl rfl rfl ?_
  intro a hf
  have hE := Chg.refl [p] w
  have hL := Nat.le_refl s.toks.length
  refine wS fun K1 hK1 => wR ?_
  obtain ⟨w2, b3, he, hB4, hx5, eb6, lb7⟩ := eT a w 0
  refine sV hf rfl he fun a hf => ?_
  have ne_p_b3 : p ≠ b3 := ne_new hP.lt eb6
  have ge_b3 := ge_new hE eb6
  have hH_b3 : H ≤ b3 := by have := hP.le; have := hP.lt; omega
  replace hP := hP.chg hx5 all0
  replace hE := hE.t0 hx5
  clear eb6 lb7
  refine sN <| hK1 _ _ <| wS fun K8 hK8 => wR <| sM hf rfl rfl fun a hf => ?_
  have plt9 := hP.lt
  refine st_c hf rfl rfl rfl (by kernel_rfl) (ih _ _ _ _ hP (by omega)) ?_
  rintro _ w10 ⟨c9_0, c9_1, c9_2, c9_3, rfl, hT9, hP, hx9, hl9⟩
  refine ⟨_, rfl, fun a hf => ?_⟩
  obtain ⟨lo11, elo11⟩ : ∃ x, x = w2.heap.size := ⟨_, rfl⟩
  obtain ⟨hi11, ehi11⟩ : ∃ x, x = w10.heap.size := ⟨_, rfl⟩
  replace hT9 := hT9.within elo11 ehi11
  have hle11 : hi11 ≤ w10.heap.size := Nat.le_of_eq ehi11
  have ge_lo11 : w.heap.size ≤ lo11 := elo11 ▸ hE.size
  have tb_lo11_b3 : b3 < lo11 := elo11 ▸ hB4.lt
  have tb_lo11_p : p < lo11 := elo11 ▸ plt9
  clear elo11 ehi11
  clear plt9
  have on_hT9 := hT9.one
  replace hB4 := hB4.chg hx9 (nmc (Ne.symm ne_p_b3) nm0)
  replace hE := hE.trans hx9 (allc (.inl (by simp)) all0)
  replace hL := nlt hl9 hL
  obtain ⟨w12, b13, he, hB14, hx15, eb16, lb17⟩ := ef_bslice (P := Try.prog) (ps := [(0, (.tmp 4))]) (m := 1) (sz := 4) (z := zT) hf rfl Try.underlying24 (by kernel_rfl) (by kernel_rfl) rfl rfl (by kernel_rfl) rfl w10 24
  refine sV hf rfl he fun a hf => ?_
  have ne_b3_b13 : b3 ≠ b13 := ne_new hB4.lt eb16
  have ne_p_b13 : p ≠ b13 := ne_new hP.lt eb16
  have ta_hi11_b13 : hi11 ≤ b13 := eb16 ▸ hle11
  have ge_b13 := ge_new hE eb16
  have hH_b13 : H ≤ b13 := by have := hP.le; have := hP.lt; omega
  replace hB4 := hB4.c0 hx15
  replace hP := hP.chg hx15 all0
  replace hT9 := hT9.chg hx15 (fun b hb _ => nm0)
  replace hle11 := nlt hle11 hx15.size
  replace hE := hE.t0 hx15
  clear eb16 lb17
  refine sV hf rfl (ex_bd (ps := [(0, (.const (.int .i64 17))), (3, (.tmp 5))]) (z := zT) (os := [0, 3]) hf rfl (by kernel_rfl) (by kernel_rfl) (by kernel_rfl) rfl rfl) fun a hf => ?_
  obtain ⟨w18, he, hB19, hx20⟩ := eN (.tmp 2) (.tmp 6) hf rfl rfl rfl rfl hB4 rfl 0
  refine st_s hf rfl rfl he fun a hf => ?_
  replace hB14 := hB14.chg hx20 (nmc (Ne.symm ne_b3_b13) nm0)
  replace hP := hP.chg hx20 (allc ⟨hH_b3, ne_p_b3⟩ all0)
  replace hT9 := hT9.chg hx20 (fun b hb _ => (nmc (by omega) nm0))
  replace hle11 := nlt hle11 hx20.size
  replace hE := hE.trans hx20 (allc (.inr ge_b3) all0)
  clear hB4
  refine sN <| hK8 _ _ <| wp_ret ?_
  try simp only [Exit.then, Exit.inBlock]
  exact ret_of (rs := [.cell 2 26]) hf rfl ⟨_, _, _, _, 4, rfl, rfl, by kernel_rfl, hB19, rfl, rfl⟩ ⟨_, _, _, _, rfl, tree_mk (Nat.le_refl _) (maxLen_ge rfl) (Nat.le_refl _) (maxLen_ge rfl) RowIn.none_ (kids_one (hT9.mono (fun b hb => by omega))) (RowIn.of_blk hB14 ge_b13 rfl), hP, hE, hL⟩
theorem letL {H p n : Nat} {s : PS} {w : World} (ih : ExprOk n) (hP : PAt H w p s) (hn : s.toks.length < n + 1) (h : (pNext s).text = wLet) : Calls Try.prog 84 [.pointer (some ⟨p, 0, none⟩)].toArray w (TreePost w H p s (exprT (n + 1) s)) := by
  obtain ⟨t, r, hs, hnx⟩ := pNext_cons (s := s) (.inl (by rw [h]; decide))
  have htl := pTake_lt hs
  have hq : exprT (n + 1) s = letF (exprT n) s := by rw [exprT, exprF, if_pos h]
  simp only [letF, hnx] at hq
  refine enter_fr 115 Try.func84 rfl rfl rfl ?_
  intro a hf
  have hE := Chg.refl [p] w
  have hL := Nat.le_refl s.toks.length
  refine wS fun K1 hK1 => wR ?_
  obtain ⟨w2, b3, he, hB4, hx5, eb6, lb7⟩ := eT a w 0
  refine sV hf rfl he fun a hf => ?_
  have ne_p_b3 : p ≠ b3 := ne_new hP.lt eb6
  have ge_b3 := ge_new hE eb6
  have hH_b3 : H ≤ b3 := by have := hP.le; have := hP.lt; omega
  replace hP := hP.chg hx5 all0
  replace hE := hE.t0 hx5
  clear eb6 lb7
  refine sN <| hK1 _ _ <| wS fun K8 hK8 => wS fun K9 hK9 => wR <| sM hf rfl rfl fun a hf => st_c hf rfl rfl rfl (by kernel_rfl) (pNextL hP) ?_
  rintro _ w11 ⟨rfl, hP, hx10⟩
  refine ⟨_, rfl, fun a hf => ?_⟩
  replace hB4 := hB4.c0 hx10
  replace hE := hE.t0 hx10
  refine sV hf rfl (ex_fd (k := 2) hf rfl (by kernel_rfl) rfl) fun a hf => sN <| hK9 _ _ <| wp_block <| wS fun K12 hK12 => wR <| sV hf rfl (ex_eqS (c := true) hf rfl rfl (beqT h)) fun a hf => sA hf rfl rfl fun a hf => sN <| hK12 _ _ <| cT hf rfl <| wS fun K13 hK13 => wR ?_
  obtain ⟨w14, b15, he, hB16, hx17, eb18, lb19⟩ := ef_make (P := Try.prog) (m := 4) (x := (.const (.int .i64 4))) (y := (.const (.int .i64 4))) (z := .string ⟨([] : List UInt8).toArray⟩) (sz := 1) (by_ := 16) (cs := [.string ⟨([] : List UInt8).toArray⟩, .string ⟨([] : List UInt8).toArray⟩, .string ⟨([] : List UInt8).toArray⟩, .string ⟨([] : List UInt8).toArray⟩]) hf rfl rfl Try.underlying23 (by kernel_rfl) (by kernel_rfl) (by kernel_rfl) (by kernel_rfl) w11 23
  refine sV hf rfl he fun a hf => ?_
  have ne_b3_b15 : b3 ≠ b15 := ne_new hB4.lt eb18
  have ne_p_b15 : p ≠ b15 := ne_new hP.lt eb18
  have ge_b15 := ge_new hE eb18
  have hH_b15 : H ≤ b15 := by have := hP.le; have := hP.lt; omega
  replace hB4 := hB4.c0 hx17
  replace hP := hP.chg hx17 all0
  replace hE := hE.t0 hx17
  clear eb18 lb19
  refine sV hf rfl (ex_bd (ps := [(0, (.const (.int .i64 20))), (2, (.tmp 12))]) (z := zT) (os := [0, 2]) hf rfl (by kernel_rfl) (by kernel_rfl) (by kernel_rfl) rfl rfl) fun a hf => ?_
  obtain ⟨w20, b21, he, hB22, hx23, eb24, lb25⟩ := eT a w14 0
  refine sV hf rfl he fun a hf => ?_
  have ne_b3_b21 : b3 ≠ b21 := ne_new hB4.lt eb24
  have ne_b15_b21 : b15 ≠ b21 := ne_new hB16.lt eb24
  have ne_p_b21 : p ≠ b21 := ne_new hP.lt eb24
  have ge_b21 := ge_new hE eb24
  have hH_b21 : H ≤ b21 := by have := hP.le; have := hP.lt; omega
  replace hB4 := hB4.c0 hx23
  replace hB16 := hB16.c0 hx23
  replace hP := hP.chg hx23 all0
  replace hE := hE.t0 hx23
  clear eb24 lb25
  obtain ⟨w26, he, hB27, hx28⟩ := eN (.tmp 3) (.tmp 13) hf rfl rfl rfl rfl hB22 rfl 0
  refine st_s hf rfl rfl he fun a hf => ?_
  replace hB4 := hB4.chg hx28 (nmc ne_b3_b21 nm0)
  replace hB16 := hB16.chg hx28 (nmc ne_b15_b21 nm0)
  replace hP := hP.chg hx28 (allc ⟨hH_b21, ne_p_b21⟩ all0)
  replace hE := hE.trans hx28 (allc (.inr ge_b21) all0)
  clear hB22
  refine sN <| hK13 _ _ <| wS fun K29 hK29 => ?_
  have s_hB27 := hB27
  refine dl_start (fun x => x.cell? ⟨b21, 2, none⟩ = w26.cell? ⟨b21, 2, none⟩) 7 7 rfl (by kernel_rfl) (by kernel_rfl) ?_
  intro w30 hx31 hsel
  replace hB4 := hB4.c0 hx31
  replace hB16 := hB16.c0 hx31
  replace hB27 := hB27.c0 hx31
  replace hP := hP.chg hx31 all0
  replace hE := hE.t0 hx31
  have hS0 := hB27.same s_hB27 2
  refine dV 0 rfl rfl hsel (by kernel_rfl) hf rfl (.inl hS0) (fun x => ex_fa (k := 2) (r := 2) hf rfl (by kernel_rfl) rfl) fun a hf => dL 1 rfl rfl hsel (by kernel_rfl) hf rfl hS0 (fun x hS => ex_load hf rfl (by kernel_rfl) (hS.trans ((s_hB27.cell 2).trans rfl))) fun a hf => dM 2 rfl rfl hsel (by kernel_rfl) hf rfl hS0 rfl fun a hf => dl_c 3 (by kernel_rfl) rfl hf rfl rfl rfl (by kernel_rfl) (pTakeL hP hs) ?_
  rintro _ w33 ⟨rfl, hP, hx32⟩
  refine ⟨_, rfl, fun a hf => ?_⟩
  replace hB4 := hB4.chg hx32 (nmc (Ne.symm ne_p_b3) nm0)
  replace hB16 := hB16.chg hx32 (nmc (Ne.symm ne_p_b15) nm0)
  replace hB27 := hB27.chg hx32 (nmc (Ne.symm ne_p_b21) nm0)
  replace hE := hE.trans hx32 (allc (.inl (by simp)) all0)
  replace hL := Nat.le_refl (pTake s).toks.length
  clear hS0
  have hS0 := hB27.same s_hB27 2
  refine ⟨.inl hS0, ?_⟩
  refine dV 4 rfl rfl hsel (by kernel_rfl) hf rfl (.inl hS0) (fun x => ex_fd (k := 1) hf rfl (by kernel_rfl) rfl) fun a hf => dV 5 rfl rfl hsel (by kernel_rfl) hf rfl (.inl hS0) (fun x => ex_index (sz := 1) (k := 0) (r := 0) hf Try.underlying23 (by kernel_rfl) rfl rfl rfl (by first | decide | simp) rfl) fun a hf => ?_
  obtain ⟨w34, he, hB35, hx36⟩ := ef_store (P := Try.prog) (t := 9) (x := (.tmp 19)) (y := (.tmp 18)) hf rfl rfl (by kernel_rfl) rfl hB16 (Nat.le_of_ble_eq_true rfl) 0
  refine dl_s 6 (by kernel_rfl) rfl hf rfl rfl he fun a hf => ?_
  replace hB4 := hB4.chg hx36 (nmc ne_b3_b15 nm0)
  replace hB27 := hB27.chg hx36 (nmc (Ne.symm ne_b15_b21) nm0)
  replace hP := hP.chg hx36 (allc ⟨hH_b15, ne_p_b15⟩ all0)
  replace hE := hE.trans hx36 (allc (.inr ge_b15) all0)
  clear hB16
  clear hS0
  have hS0 := hB27.same s_hB27 2
  refine ⟨.inl hS0, ?_⟩
  refine dl_done (by kernel_rfl) ?_
  clear hS0 hsel
  refine hK29 _ _ <| wS fun K37 hK37 => ?_
  have s_hB27 := hB27
  refine dl_start (fun x => x.cell? ⟨b21, 2, none⟩ = w34.cell? ⟨b21, 2, none⟩) 11 11 rfl (by kernel_rfl) (by kernel_rfl) ?_
  intro w38 hx39 hsel
  replace hB4 := hB4.c0 hx39
  replace hB35 := hB35.c0 hx39
  replace hB27 := hB27.c0 hx39
  replace hP := hP.chg hx39 all0
  replace hE := hE.t0 hx39
  have hS0 := hB27.same s_hB27 2
  refine dV 0 rfl rfl hsel (by kernel_rfl) hf rfl (.inl hS0) (fun x => ex_fa (k := 2) (r := 2) hf rfl (by kernel_rfl) rfl) fun a hf => dL 1 rfl rfl hsel (by kernel_rfl) hf rfl hS0 (fun x hS => ex_load hf rfl (by kernel_rfl) (hS.trans ((s_hB27.cell 2).trans rfl))) fun a hf => dM 2 rfl rfl hsel (by kernel_rfl) hf rfl hS0 rfl fun a hf => dl_c 3 (by kernel_rfl) rfl hf rfl rfl rfl (by kernel_rfl) (pNameL (k := 1) (o := 1) hP) ?_
  rintro _ w41 ⟨rfl, hP, hx40⟩
  refine ⟨_, rfl, fun a hf => ?_⟩
  replace hB4 := hB4.chg hx40 (nmc (Ne.symm ne_p_b3) nm0)
  replace hB35 := hB35.chg hx40 (nmc (Ne.symm ne_p_b15) nm0)
  replace hB27 := hB27.chg hx40 (nmc (Ne.symm ne_p_b21) nm0)
  replace hE := hE.trans hx40 (allc (.inl (by simp)) all0)
  replace hL := nlt (pName_len 1 1 _) hL
  clear hS0
  have hS0 := hB27.same s_hB27 2
  refine ⟨.inl hS0, ?_⟩
  refine dM 4 rfl rfl hsel (by kernel_rfl) hf rfl hS0 rfl fun a hf => dV 5 rfl rfl hsel (by kernel_rfl) hf rfl (.inl hS0) (fun x => ex_extract hf rfl rfl) fun a hf => dV 6 rfl rfl hsel (by kernel_rfl) hf rfl (.inl hS0) (fun x => ex_extract hf rfl rfl) fun a hf => dV 7 rfl rfl hsel (by kernel_rfl) hf rfl (.inl hS0) (fun x => ex_fa (k := 1) (r := 1) hf rfl (by kernel_rfl) rfl) fun a hf => ?_
  obtain ⟨w42, he, hB43, hx44⟩ := ef_store (P := Try.prog) (t := 9) (x := (.tmp 27)) (y := (.tmp 25)) hf rfl rfl (by kernel_rfl) rfl hB27 (Nat.le_of_ble_eq_true rfl) 0
  refine dl_s 8 (by kernel_rfl) rfl hf rfl rfl he fun a hf => ?_
  replace hB4 := hB4.chg hx44 (nmc ne_b3_b21 nm0)
  replace hB35 := hB35.chg hx44 (nmc ne_b15_b21 nm0)
  replace hP := hP.chg hx44 (allc ⟨hH_b21, ne_p_b21⟩ all0)
  replace hE := hE.trans hx44 (allc (.inr ge_b21) all0)
  clear hB27
  clear hS0
  have hS0 := hB43.same s_hB27 2
  refine ⟨.inl hS0, ?_⟩
  refine dV 9 rfl rfl hsel (by kernel_rfl) hf rfl (.inl hS0) (fun x => ex_index (sz := 1) (k := 1) (r := 1) hf Try.underlying23 (by kernel_rfl) rfl rfl rfl (by first | decide | simp) rfl) fun a hf => ?_
  obtain ⟨w45, he, hB46, hx47⟩ := ef_store (P := Try.prog) (t := 9) (x := (.tmp 28)) (y := (.tmp 26)) hf rfl rfl (by kernel_rfl) rfl hB35 (Nat.le_of_ble_eq_true rfl) 0
  refine dl_s 10 (by kernel_rfl) rfl hf rfl rfl he fun a hf => ?_
  replace hB4 := hB4.chg hx47 (nmc ne_b3_b15 nm0)
  replace hB43 := hB43.chg hx47 (nmc (Ne.symm ne_b15_b21) nm0)
  replace hP := hP.chg hx47 (allc ⟨hH_b15, ne_p_b15⟩ all0)
  replace hE := hE.trans hx47 (allc (.inr ge_b15) all0)
  clear hB35
  clear hS0
  have hS0 := hB43.same s_hB27 2
  refine ⟨.inl hS0, ?_⟩
  refine dl_done (by kernel_rfl) ?_
  clear hS0 hsel
  refine hK37 _ _ <| wS fun K48 hK48 => ?_
  have s_hB43 := hB43
  refine dl_start (fun x => x.cell? ⟨b21, 2, none⟩ = w45.cell? ⟨b21, 2, none⟩) 6 6 rfl (by kernel_rfl) (by kernel_rfl) ?_
  intro w49 hx50 hsel
  replace hB4 := hB4.c0 hx50
  replace hB46 := hB46.c0 hx50
  replace hB43 := hB43.c0 hx50
  replace hP := hP.chg hx50 all0
  replace hE := hE.t0 hx50
  have hS0 := hB43.same s_hB43 2
  refine dV 0 rfl rfl hsel (by kernel_rfl) hf rfl (.inl hS0) (fun x => ex_fa (k := 2) (r := 2) hf rfl (by kernel_rfl) rfl) fun a hf => dL 1 rfl rfl hsel (by kernel_rfl) hf rfl hS0 (fun x hS => ex_load hf rfl (by kernel_rfl) (hS.trans ((s_hB43.cell 2).trans rfl))) fun a hf => dM 2 rfl rfl hsel (by kernel_rfl) hf rfl hS0 rfl fun a hf => dl_c 3 (by kernel_rfl) rfl hf rfl rfl rfl (by kernel_rfl) (pWordL (x := [61]) hP (by decide)) ?_
  rintro _ w52 ⟨rfl, hP, hx51⟩
  refine ⟨_, rfl, fun a hf => ?_⟩
  replace hB4 := hB4.chg hx51 (nmc (Ne.symm ne_p_b3) nm0)
  replace hB46 := hB46.chg hx51 (nmc (Ne.symm ne_p_b15) nm0)
  replace hB43 := hB43.chg hx51 (nmc (Ne.symm ne_p_b21) nm0)
  replace hE := hE.trans hx51 (allc (.inl (by simp)) all0)
  replace hL := nlt (pWord_len [61] _) hL
  clear hS0
  have hS0 := hB43.same s_hB43 2
  refine ⟨.inl hS0, ?_⟩
  refine dV 4 rfl rfl hsel (by kernel_rfl) hf rfl (.inl hS0) (fun x => ex_index (sz := 1) (k := 2) (r := 2) hf Try.underlying23 (by kernel_rfl) rfl rfl rfl (by first | decide | simp) rfl) fun a hf => ?_
  obtain ⟨w53, he, hB54, hx55⟩ := ef_store (P := Try.prog) (t := 9) (x := (.tmp 33)) (y := (.tmp 32)) hf rfl rfl (by kernel_rfl) rfl hB46 (Nat.le_of_ble_eq_true rfl) 0
  refine dl_s 5 (by kernel_rfl) rfl hf rfl rfl he fun a hf => ?_
  replace hB4 := hB4.chg hx55 (nmc ne_b3_b15 nm0)
  replace hB43 := hB43.chg hx55 (nmc (Ne.symm ne_b15_b21) nm0)
  replace hP := hP.chg hx55 (allc ⟨hH_b15, ne_p_b15⟩ all0)
  replace hE := hE.trans hx55 (allc (.inr ge_b15) all0)
  clear hB46
  clear hS0
  have hS0 := hB43.same s_hB43 2
  refine ⟨.inl hS0, ?_⟩
  refine dl_done (by kernel_rfl) ?_
  clear hS0 hsel
  refine hK48 _ _ <| wS fun K56 hK56 => ?_
  have s_hB43 := hB43
  refine dl_start (fun x => x.cell? ⟨b21, 3, none⟩ = w53.cell? ⟨b21, 3, none⟩) 7 8 rfl (by kernel_rfl) (by kernel_rfl) ?_
  intro w57 hx58 hsel
  replace hB4 := hB4.c0 hx58
  replace hB54 := hB54.c0 hx58
  replace hB43 := hB43.c0 hx58
  replace hP := hP.chg hx58 all0
  replace hE := hE.t0 hx58
  have hS0 := hB43.same s_hB43 3
  refine dV 0 rfl rfl hsel (by kernel_rfl) hf rfl (.inl hS0) (fun x => ex_fa (k := 3) (r := 3) hf rfl (by kernel_rfl) rfl) fun a hf => dL 1 rfl rfl hsel (by kernel_rfl) hf rfl hS0 (fun x hS => ex_load hf rfl (by kernel_rfl) (hS.trans ((s_hB43.cell 3).trans rfl))) fun a hf => dM 2 rfl rfl hsel (by kernel_rfl) hf rfl hS0 rfl fun a hf => ?_
  have plt59 := hP.lt
  refine dl_c 3 (by kernel_rfl) rfl hf rfl rfl rfl (by kernel_rfl) (ih _ _ _ _ hP (by omega)) ?_
  rintro _ w60 ⟨c59_0, c59_1, c59_2, c59_3, rfl, hT59, hP, hx59, hl59⟩
  refine ⟨_, rfl, fun a hf => ?_⟩
  obtain ⟨lo61, elo61⟩ : ∃ x, x = w57.heap.size := ⟨_, rfl⟩
  obtain ⟨hi61, ehi61⟩ : ∃ x, x = w60.heap.size := ⟨_, rfl⟩
  replace hT59 := hT59.within elo61 ehi61
  have hle61 : hi61 ≤ w60.heap.size := Nat.le_of_eq ehi61
  have ge_lo61 : w.heap.size ≤ lo61 := elo61 ▸ hE.size
  have tb_lo61_b3 : b3 < lo61 := elo61 ▸ hB4.lt
  have tb_lo61_b15 : b15 < lo61 := elo61 ▸ hB54.lt
  have tb_lo61_b21 : b21 < lo61 := elo61 ▸ hB43.lt
  have tb_lo61_p : p < lo61 := elo61 ▸ plt59
  clear elo61 ehi61
  clear plt59
  have on_hT59 := hT59.one
  replace hB4 := hB4.chg hx59 (nmc (Ne.symm ne_p_b3) nm0)
  replace hB54 := hB54.chg hx59 (nmc (Ne.symm ne_p_b15) nm0)
  replace hB43 := hB43.chg hx59 (nmc (Ne.symm ne_p_b21) nm0)
  replace hE := hE.trans hx59 (allc (.inl (by simp)) all0)
  replace hL := nlt hl59 hL
  clear hS0
  have hS0 := hB43.same s_hB43 3
  refine ⟨.inl hS0, ?_⟩
  obtain ⟨w62, b63, he, hB64, hx65, eb66, lb67⟩ := ef_bslice (P := Try.prog) (ps := [(0, (.tmp 37))]) (m := 1) (sz := 4) (z := zT) hf rfl Try.underlying24 (by kernel_rfl) (by kernel_rfl) rfl rfl (by kernel_rfl) rfl w60 24
  refine dl_e 4 (by kernel_rfl) rfl hf rfl rfl he fun a hf => ?_
  have ne_b3_b63 : b3 ≠ b63 := ne_new hB4.lt eb66
  have ne_b15_b63 : b15 ≠ b63 := ne_new hB54.lt eb66
  have ne_b21_b63 : b21 ≠ b63 := ne_new hB43.lt eb66
  have ne_p_b63 : p ≠ b63 := ne_new hP.lt eb66
  have ta_hi61_b63 : hi61 ≤ b63 := eb66 ▸ hle61
  have ge_b63 := ge_new hE eb66
  have hH_b63 : H ≤ b63 := by have := hP.le; have := hP.lt; omega
  replace hB4 := hB4.c0 hx65
  replace hB54 := hB54.c0 hx65
  replace hB43 := hB43.c0 hx65
  replace hP := hP.chg hx65 all0
  replace hT59 := hT59.chg hx65 (fun b hb _ => nm0)
  replace hle61 := nlt hle61 hx65.size
  replace hE := hE.t0 hx65
  clear eb66 lb67
  clear hS0
  have hS0 := hB43.same s_hB43 3
  refine ⟨.inl hS0, ?_⟩
  obtain ⟨g69, cap70, w68, he, hO71, hx72, hat73, hlt74⟩ := ef_append0 (P := Try.prog) (x := (.tmp 35)) (y := (.tmp 38)) (z := .agg zA) (sz := 4) (by_ := 72) hf rfl rfl Try.underlying24 (by kernel_rfl) rfl rfl (World.ownsRow_nil w62 w.heap.size 26 4) hB64 rfl on_hT59 rfl (by simp only [maxLen]; omega) (by omega) (hE.size) 24
  refine dl_e 5 (by kernel_rfl) rfl hf rfl rfl he fun a hf => ?_
  have ne_b3_g69 : b3 ≠ g69 := by have := hB4.lt; omega
  have ne_b15_g69 : b15 ≠ g69 := by have := hB54.lt; omega
  have ne_b21_g69 : b21 ≠ g69 := by have := hB43.lt; omega
  have ne_b63_g69 : b63 ≠ g69 := by have := hB64.lt; omega
  have ne_p_g69 : p ≠ g69 := by have := hP.lt; omega
  have ta_hi61_g69 : hi61 ≤ g69 ∨ g69 < lo61 := by have := hle61; omega
  have ge_g69 : w.heap.size ≤ g69 := own_gle hO71
  have hH_g69 : H ≤ g69 := by have := hP.le; have := hP.lt; omega
  replace hB4 := hB4.c0 hx72
  replace hB54 := hB54.c0 hx72
  replace hB43 := hB43.c0 hx72
  replace hB64 := hB64.c0 hx72
  replace hP := hP.chg hx72 all0
  replace hT59 := hT59.chg hx72 (fun b hb _ => nm0)
  replace hle61 := nlt hle61 hx72.size
  replace hE := hE.t0 hx72
  clear hat73 hlt74
  clear hS0
  have hS0 := hB43.same s_hB43 3
  refine ⟨.inl hS0, ?_⟩
  refine dV 6 rfl rfl hsel (by kernel_rfl) hf rfl (.inl hS0) (fun x => ex_fa (k := 3) (r := 3) hf rfl (by kernel_rfl) rfl) fun a hf => ?_
  obtain ⟨w75, he, hB76, hx77⟩ := ef_store (P := Try.prog) (t := 24) (x := (.tmp 40)) (y := (.tmp 39)) hf rfl rfl (by kernel_rfl) rfl hB43 (Nat.le_of_ble_eq_true rfl) 0
  refine dl_s 7 (by kernel_rfl) rfl hf rfl rfl he fun a hf => ?_
  replace hB4 := hB4.chg hx77 (nmc ne_b3_b21 nm0)
  replace hB54 := hB54.chg hx77 (nmc ne_b15_b21 nm0)
  replace hB64 := hB64.chg hx77 (nmc (Ne.symm ne_b21_b63) nm0)
  replace hP := hP.chg hx77 (allc ⟨hH_b21, ne_p_b21⟩ all0)
  replace hT59 := hT59.chg hx77 (fun b hb _ => (nmc (by omega) nm0))
  replace hle61 := nlt hle61 hx77.size
  replace hO71 := own_gchg hO71 hx77 (nmc (Ne.symm ne_b21_g69) nm0)
  replace hE := hE.trans hx77 (allc (.inr ge_b21) all0)
  clear hB43
  refine ⟨.inr (by kernel_rfl), ?_⟩
  refine dl_done (by kernel_rfl) ?_
  clear hS0 hsel
  refine hK56 _ _ <| wS fun K78 hK78 => ?_
  have s_hB76 := hB76
  refine dl_start (fun x => x.cell? ⟨b21, 2, none⟩ = w75.cell? ⟨b21, 2, none⟩) 6 6 rfl (by kernel_rfl) (by kernel_rfl) ?_
  intro w79 hx80 hsel
  replace hB4 := hB4.c0 hx80
  replace hB54 := hB54.c0 hx80
  replace hB76 := hB76.c0 hx80
  replace hB64 := hB64.c0 hx80
  replace hP := hP.chg hx80 all0
  replace hT59 := hT59.chg hx80 (fun b hb _ => nm0)
  replace hle61 := nlt hle61 hx80.size
  replace hO71 := own_gchg hO71 hx80 nm0
  replace hE := hE.t0 hx80
  have hS0 := hB76.same s_hB76 2
  refine dV 0 rfl rfl hsel (by kernel_rfl) hf rfl (.inl hS0) (fun x => ex_fa (k := 2) (r := 2) hf rfl (by kernel_rfl) rfl) fun a hf => dL 1 rfl rfl hsel (by kernel_rfl) hf rfl hS0 (fun x hS => ex_load hf rfl (by kernel_rfl) (hS.trans ((s_hB76.cell 2).trans rfl))) fun a hf => dM 2 rfl rfl hsel (by kernel_rfl) hf rfl hS0 rfl fun a hf => dl_c 3 (by kernel_rfl) rfl hf rfl rfl rfl (by kernel_rfl) (pWordL (x := wIn) hP (by decide)) ?_
  rintro _ w82 ⟨rfl, hP, hx81⟩
  refine ⟨_, rfl, fun a hf => ?_⟩
  replace hB4 := hB4.chg hx81 (nmc (Ne.symm ne_p_b3) nm0)
  replace hB54 := hB54.chg hx81 (nmc (Ne.symm ne_p_b15) nm0)
  replace hB76 := hB76.chg hx81 (nmc (Ne.symm ne_p_b21) nm0)
  replace hB64 := hB64.chg hx81 (nmc (Ne.symm ne_p_b63) nm0)
  replace hT59 := hT59.chg hx81 (fun b hb _ => (nmc (by omega) nm0))
  replace hle61 := nlt hle61 hx81.size
  replace hO71 := own_gchg hO71 hx81 (nmc (Ne.symm ne_p_g69) nm0)
  replace hE := hE.trans hx81 (allc (.inl (by simp)) all0)
  replace hL := nlt (pWord_len wIn _) hL
  clear hS0
  have hS0 := hB76.same s_hB76 2
  refine ⟨.inl hS0, ?_⟩
  refine dV 4 rfl rfl hsel (by kernel_rfl) hf rfl (.inl hS0) (fun x => ex_index (sz := 1) (k := 3) (r := 3) hf Try.underlying23 (by kernel_rfl) rfl rfl rfl (by first | decide | simp) rfl) fun a hf => ?_
  obtain ⟨w83, he, hB84, hx85⟩ := ef_store (P := Try.prog) (t := 9) (x := (.tmp 45)) (y := (.tmp 44)) hf rfl rfl (by kernel_rfl) rfl hB54 (Nat.le_of_ble_eq_true rfl) 0
  refine dl_s 5 (by kernel_rfl) rfl hf rfl rfl he fun a hf => ?_
  replace hB4 := hB4.chg hx85 (nmc ne_b3_b15 nm0)
  replace hB76 := hB76.chg hx85 (nmc (Ne.symm ne_b15_b21) nm0)
  replace hB64 := hB64.chg hx85 (nmc (Ne.symm ne_b15_b63) nm0)
  replace hP := hP.chg hx85 (allc ⟨hH_b15, ne_p_b15⟩ all0)
  replace hT59 := hT59.chg hx85 (fun b hb _ => (nmc (by omega) nm0))
  replace hle61 := nlt hle61 hx85.size
  replace hO71 := own_gchg hO71 hx85 (nmc (Ne.symm ne_b15_g69) nm0)
  replace hE := hE.trans hx85 (allc (.inr ge_b15) all0)
  clear hB54
  clear hS0
  have hS0 := hB76.same s_hB76 2
  refine ⟨.inl hS0, ?_⟩
  refine dl_done (by kernel_rfl) ?_
  clear hS0 hsel
  refine hK78 _ _ <| wS fun K86 hK86 => ?_
  have s_hB76 := hB76
  refine dl_start (fun x => x.cell? ⟨b21, 3, none⟩ = w83.cell? ⟨b21, 3, none⟩) 7 8 rfl (by kernel_rfl) (by kernel_rfl) ?_
  intro w87 hx88 hsel
  replace hB4 := hB4.c0 hx88
  replace hB84 := hB84.c0 hx88
  replace hB76 := hB76.c0 hx88
  replace hB64 := hB64.c0 hx88
  replace hP := hP.chg hx88 all0
  replace hT59 := hT59.chg hx88 (fun b hb _ => nm0)
  replace hle61 := nlt hle61 hx88.size
  replace hO71 := own_gchg hO71 hx88 nm0
  replace hE := hE.t0 hx88
  have hS0 := hB76.same s_hB76 3
  refine dV 0 rfl rfl hsel (by kernel_rfl) hf rfl (.inl hS0) (fun x => ex_fa (k := 3) (r := 3) hf rfl (by kernel_rfl) rfl) fun a hf => dL 1 rfl rfl hsel (by kernel_rfl) hf rfl hS0 (fun x hS => ex_load hf rfl (by kernel_rfl) (hS.trans ((s_hB76.cell 3).trans rfl))) fun a hf => dM 2 rfl rfl hsel (by kernel_rfl) hf rfl hS0 rfl fun a hf => ?_
  have plt89 := hP.lt
  refine dl_c 3 (by kernel_rfl) rfl hf rfl rfl rfl (by kernel_rfl) (ih _ _ _ _ hP (by omega)) ?_
  rintro _ w90 ⟨c89_0, c89_1, c89_2, c89_3, rfl, hT89, hP, hx89, hl89⟩
  refine ⟨_, rfl, fun a hf => ?_⟩
  obtain ⟨lo91, elo91⟩ : ∃ x, x = w87.heap.size := ⟨_, rfl⟩
  obtain ⟨hi91, ehi91⟩ : ∃ x, x = w90.heap.size := ⟨_, rfl⟩
  replace hT89 := hT89.within elo91 ehi91
  have hle91 : hi91 ≤ w90.heap.size := Nat.le_of_eq ehi91
  have ge_lo91 : w.heap.size ≤ lo91 := elo91 ▸ hE.size
  have tb_lo91_b3 : b3 < lo91 := elo91 ▸ hB4.lt
  have tb_lo91_b15 : b15 < lo91 := elo91 ▸ hB84.lt
  have tb_lo91_b21 : b21 < lo91 := elo91 ▸ hB76.lt
  have tb_lo91_b63 : b63 < lo91 := elo91 ▸ hB64.lt
  have tb_lo91_p : p < lo91 := elo91 ▸ plt89
  have tb_lo91_g69 : g69 < lo91 := elo91 ▸ (own_glt hO71)
  clear elo91 ehi91
  clear plt89
  have on_hT89 := hT89.one
  replace hB4 := hB4.chg hx89 (nmc (Ne.symm ne_p_b3) nm0)
  replace hB84 := hB84.chg hx89 (nmc (Ne.symm ne_p_b15) nm0)
  replace hB76 := hB76.chg hx89 (nmc (Ne.symm ne_p_b21) nm0)
  replace hB64 := hB64.chg hx89 (nmc (Ne.symm ne_p_b63) nm0)
  replace hT59 := hT59.chg hx89 (fun b hb _ => (nmc (by omega) nm0))
  replace hle61 := nlt hle61 hx89.size
  replace hO71 := own_gchg hO71 hx89 (nmc (Ne.symm ne_p_g69) nm0)
  replace hE := hE.trans hx89 (allc (.inl (by simp)) all0)
  replace hL := nlt hl89 hL
  clear hS0
  have hS0 := hB76.same s_hB76 3
  refine ⟨.inl hS0, ?_⟩
  obtain ⟨w92, b93, he, hB94, hx95, eb96, lb97⟩ := ef_bslice (P := Try.prog) (ps := [(0, (.tmp 49))]) (m := 1) (sz := 4) (z := zT) hf rfl Try.underlying24 (by kernel_rfl) (by kernel_rfl) rfl rfl (by kernel_rfl) rfl w90 24
  refine dl_e 4 (by kernel_rfl) rfl hf rfl rfl he fun a hf => ?_
  have ne_b3_b93 : b3 ≠ b93 := ne_new hB4.lt eb96
  have ne_b15_b93 : b15 ≠ b93 := ne_new hB84.lt eb96
  have ne_b21_b93 : b21 ≠ b93 := ne_new hB76.lt eb96
  have ne_b63_b93 : b63 ≠ b93 := ne_new hB64.lt eb96
  have ne_p_b93 : p ≠ b93 := ne_new hP.lt eb96
  have ne_g69_b93 : g69 ≠ b93 := ne_new (own_glt hO71) eb96
  have ta_hi61_b93 : hi61 ≤ b93 := eb96 ▸ hle61
  have ta_hi91_b93 : hi91 ≤ b93 := eb96 ▸ hle91
  have ge_b93 := ge_new hE eb96
  have hH_b93 : H ≤ b93 := by have := hP.le; have := hP.lt; omega
  replace hB4 := hB4.c0 hx95
  replace hB84 := hB84.c0 hx95
  replace hB76 := hB76.c0 hx95
  replace hB64 := hB64.c0 hx95
  replace hP := hP.chg hx95 all0
  replace hT59 := hT59.chg hx95 (fun b hb _ => nm0)
  replace hle61 := nlt hle61 hx95.size
  replace hO71 := own_gchg hO71 hx95 nm0
  replace hT89 := hT89.chg hx95 (fun b hb _ => nm0)
  replace hle91 := nlt hle91 hx95.size
  replace hE := hE.t0 hx95
  clear eb96 lb97
  clear hS0
  have hS0 := hB76.same s_hB76 3
  refine ⟨.inl hS0, ?_⟩
  obtain ⟨g99, cap100, w98, he, hO101, hx102, hat103, hlt104⟩ := ef_append1 (P := Try.prog) (x := (.tmp 47)) (y := (.tmp 50)) (z := .agg zA) (sz := 4) (by_ := 72) hf rfl rfl Try.underlying24 (by kernel_rfl) rfl rfl hO71 hB94 rfl on_hT89 rfl (by simp only [maxLen]; omega) (by omega) (hE.size) 24
  refine dl_e 5 (by kernel_rfl) rfl hf rfl rfl he fun a hf => ?_
  have ne_b3_g99 : b3 ≠ g99 := by have := hB4.lt; have := ne_b3_g69; omega
  have ne_b15_g99 : b15 ≠ g99 := by have := hB84.lt; have := ne_b15_g69; omega
  have ne_b21_g99 : b21 ≠ g99 := by have := hB76.lt; have := ne_b21_g69; omega
  have ne_b63_g99 : b63 ≠ g99 := by have := hB64.lt; have := ne_b63_g69; omega
  have ne_b93_g99 : b93 ≠ g99 := by have := hB94.lt; have := (Ne.symm ne_g69_b93); omega
  have ne_p_g99 : p ≠ g99 := by have := hP.lt; have := ne_p_g69; omega
  have ta_hi61_g99 : hi61 ≤ g99 ∨ g99 < lo61 := by have := hle61; omega
  have ta_hi91_g99 : hi91 ≤ g99 ∨ g99 < lo91 := by have := hle91; omega
  have ge_g99 : w.heap.size ≤ g99 := own_gle hO101
  have hH_g99 : H ≤ g99 := by have := hP.le; have := hP.lt; omega
  replace hB4 := hB4.chg hx102 (nmc ne_b3_g69 nm0)
  replace hB84 := hB84.chg hx102 (nmc ne_b15_g69 nm0)
  replace hB76 := hB76.chg hx102 (nmc ne_b21_g69 nm0)
  replace hB64 := hB64.chg hx102 (nmc ne_b63_g69 nm0)
  replace hB94 := hB94.chg hx102 (nmc (Ne.symm ne_g69_b93) nm0)
  replace hP := hP.chg hx102 (allc ⟨hH_g69, ne_p_g69⟩ all0)
  replace hT59 := hT59.chg hx102 (fun b hb _ => (nmc (by omega) nm0))
  replace hle61 := nlt hle61 hx102.size
  replace hT89 := hT89.chg hx102 (fun b hb _ => (nmc (by omega) nm0))
  replace hle91 := nlt hle91 hx102.size
  replace hE := hE.trans hx102 (allc (.inr ge_g69) all0)
  clear hat103 hlt104
  clear hS0
  have hS0 := hB76.same s_hB76 3
  refine ⟨.inl hS0, ?_⟩
  refine dV 6 rfl rfl hsel (by kernel_rfl) hf rfl (.inl hS0) (fun x => ex_fa (k := 3) (r := 3) hf rfl (by kernel_rfl) rfl) fun a hf => ?_
  obtain ⟨w105, he, hB106, hx107⟩ := ef_store (P := Try.prog) (t := 24) (x := (.tmp 52)) (y := (.tmp 51)) hf rfl rfl (by kernel_rfl) rfl hB76 (Nat.le_of_ble_eq_true rfl) 0
  refine dl_s 7 (by kernel_rfl) rfl hf rfl rfl he fun a hf => ?_
  replace hB4 := hB4.chg hx107 (nmc ne_b3_b21 nm0)
  replace hB84 := hB84.chg hx107 (nmc ne_b15_b21 nm0)
  replace hB64 := hB64.chg hx107 (nmc (Ne.symm ne_b21_b63) nm0)
  replace hB94 := hB94.chg hx107 (nmc (Ne.symm ne_b21_b93) nm0)
  replace hP := hP.chg hx107 (allc ⟨hH_b21, ne_p_b21⟩ all0)
  replace hT59 := hT59.chg hx107 (fun b hb _ => (nmc (by omega) nm0))
  replace hle61 := nlt hle61 hx107.size
  replace hT89 := hT89.chg hx107 (fun b hb _ => (nmc (by omega) nm0))
  replace hle91 := nlt hle91 hx107.size
  replace hO101 := own_gchg hO101 hx107 (nmc (Ne.symm ne_b21_g99) nm0)
  replace hE := hE.trans hx107 (allc (.inr ge_b21) all0)
  clear hB76
  refine ⟨.inr (by kernel_rfl), ?_⟩
  refine dl_done (by kernel_rfl) ?_
  clear hS0 hsel
  refine hK86 _ _ <| wS fun K108 hK108 => wR <| sV hf rfl (ex_loadBN (m := 4) hf rfl (by kernel_rfl) hB106 rfl) fun a hf => ?_
  obtain ⟨w109, he, hB110, hx111⟩ := eN (.tmp 2) (.tmp 53) hf rfl rfl rfl rfl hB4 rfl 0
  refine st_s hf rfl rfl he fun a hf => ?_
  replace hB84 := hB84.chg hx111 (nmc (Ne.symm ne_b3_b15) nm0)
  replace hB106 := hB106.chg hx111 (nmc (Ne.symm ne_b3_b21) nm0)
  replace hB64 := hB64.chg hx111 (nmc (Ne.symm ne_b3_b63) nm0)
  replace hB94 := hB94.chg hx111 (nmc (Ne.symm ne_b3_b93) nm0)
  replace hP := hP.chg hx111 (allc ⟨hH_b3, ne_p_b3⟩ all0)
  replace hT59 := hT59.chg hx111 (fun b hb _ => (nmc (by omega) nm0))
  replace hle61 := nlt hle61 hx111.size
  replace hT89 := hT89.chg hx111 (fun b hb _ => (nmc (by omega) nm0))
  replace hle91 := nlt hle91 hx111.size
  replace hO101 := own_gchg hO101 hx111 (nmc (Ne.symm ne_b3_g99) nm0)
  replace hE := hE.trans hx111 (allc (.inr ge_b3) all0)
  clear hB4
  refine sN <| hK108 _ _ <| wp_ret ?_
  rw [hq]
  try simp only [Exit.then, Exit.inBlock]
  exact ret_of (rs := [.cell 2 26]) hf rfl ⟨_, _, _, _, 4, rfl, rfl, by kernel_rfl, hB110, rfl, rfl⟩ ⟨_, _, _, _, rfl, tree_mk (Nat.le_refl _) (maxLen_ge rfl) (own_cap hO101).1 (own_cap hO101).2 (RowIn.of_blk hB84 ge_b15 rfl) (kids_two (hT59.mono (fun b hb => by omega)) (hT89.mono (fun b hb => by omega))) (RowIn.of_own hO101), hP, hE, (nlt hL (pTake_len s))⟩
theorem ifL {H p n : Nat} {s : PS} {w : World} (ih : ExprOk n) (hP : PAt H w p s) (hn : s.toks.length < n + 1) (h : (pNext s).text = wIf) (h0 : ¬ (pNext s).text = wLet) : Calls Try.prog 84 [.pointer (some ⟨p, 0, none⟩)].toArray w (TreePost w H p s (exprT (n + 1) s)) := by
  obtain ⟨t, r, hs, hnx⟩ := pNext_cons (s := s) (.inl (by rw [h]; decide))
  have htl := pTake_lt hs
  have hq : exprT (n + 1) s = ifF (exprT n) s := by rw [exprT, exprF, if_neg h0, if_pos h]
  simp only [ifF, hnx] at hq
  refine enter_fr 115 Try.func84 rfl rfl rfl ?_
  intro a hf
  have hE := Chg.refl [p] w
  have hL := Nat.le_refl s.toks.length
  refine wS fun K1 hK1 => wR ?_
  obtain ⟨w2, b3, he, hB4, hx5, eb6, lb7⟩ := eT a w 0
  refine sV hf rfl he fun a hf => ?_
  have ne_p_b3 : p ≠ b3 := ne_new hP.lt eb6
  have ge_b3 := ge_new hE eb6
  have hH_b3 : H ≤ b3 := by have := hP.le; have := hP.lt; omega
  replace hP := hP.chg hx5 all0
  replace hE := hE.t0 hx5
  clear eb6 lb7
  refine sN <| hK1 _ _ <| wS fun K8 hK8 => wS fun K9 hK9 => wR <| sM hf rfl rfl fun a hf => st_c hf rfl rfl rfl (by kernel_rfl) (pNextL hP) ?_
  rintro _ w11 ⟨rfl, hP, hx10⟩
  refine ⟨_, rfl, fun a hf => ?_⟩
  replace hB4 := hB4.c0 hx10
  replace hE := hE.t0 hx10
  refine sV hf rfl (ex_fd (k := 2) hf rfl (by kernel_rfl) rfl) fun a hf => sN <| hK9 _ _ <| wp_block <| wS fun K12 hK12 => wR <| sV hf rfl (ex_eqS (c := false) hf rfl rfl (beqF h0)) fun a hf => sA hf rfl rfl fun a hf => sN <| hK12 _ _ <| cF hf rfl <| wS fun K13 hK13 => wR <| sV hf rfl (ex_eqS (c := true) hf rfl rfl (beqT h)) fun a hf => sA hf rfl rfl fun a hf => sN <| hK13 _ _ <| cT hf rfl <| wS fun K14 hK14 => wR ?_
  obtain ⟨w15, b16, he, hB17, hx18, eb19, lb20⟩ := ef_make (P := Try.prog) (m := 3) (x := (.const (.int .i64 3))) (y := (.const (.int .i64 3))) (z := .string ⟨([] : List UInt8).toArray⟩) (sz := 1) (by_ := 16) (cs := [.string ⟨([] : List UInt8).toArray⟩, .string ⟨([] : List UInt8).toArray⟩, .string ⟨([] : List UInt8).toArray⟩]) hf rfl rfl Try.underlying23 (by kernel_rfl) (by kernel_rfl) (by kernel_rfl) (by kernel_rfl) w11 23
  refine sV hf rfl he fun a hf => ?_
  have ne_b3_b16 : b3 ≠ b16 := ne_new hB4.lt eb19
  have ne_p_b16 : p ≠ b16 := ne_new hP.lt eb19
  have ge_b16 := ge_new hE eb19
  have hH_b16 : H ≤ b16 := by have := hP.le; have := hP.lt; omega
  replace hB4 := hB4.c0 hx18
  replace hP := hP.chg hx18 all0
  replace hE := hE.t0 hx18
  clear eb19 lb20
  refine sV hf rfl (ex_bd (ps := [(0, (.const (.int .i64 19))), (2, (.tmp 56))]) (z := zT) (os := [0, 2]) hf rfl (by kernel_rfl) (by kernel_rfl) (by kernel_rfl) rfl rfl) fun a hf => ?_
  obtain ⟨w21, b22, he, hB23, hx24, eb25, lb26⟩ := eT a w15 0
  refine sV hf rfl he fun a hf => ?_
  have ne_b3_b22 : b3 ≠ b22 := ne_new hB4.lt eb25
  have ne_b16_b22 : b16 ≠ b22 := ne_new hB17.lt eb25
  have ne_p_b22 : p ≠ b22 := ne_new hP.lt eb25
  have ge_b22 := ge_new hE eb25
  have hH_b22 : H ≤ b22 := by have := hP.le; have := hP.lt; omega
  replace hB4 := hB4.c0 hx24
  replace hB17 := hB17.c0 hx24
  replace hP := hP.chg hx24 all0
  replace hE := hE.t0 hx24
  clear eb25 lb26
  obtain ⟨w27, he, hB28, hx29⟩ := eN (.tmp 4) (.tmp 57) hf rfl rfl rfl rfl hB23 rfl 0
  refine st_s hf rfl rfl he fun a hf => ?_
  replace hB4 := hB4.chg hx29 (nmc ne_b3_b22 nm0)
  replace hB17 := hB17.chg hx29 (nmc ne_b16_b22 nm0)
  replace hP := hP.chg hx29 (allc ⟨hH_b22, ne_p_b22⟩ all0)
  replace hE := hE.trans hx29 (allc (.inr ge_b22) all0)
  clear hB23
  refine sN <| hK14 _ _ <| wS fun K30 hK30 => ?_
  have s_hB28 := hB28
  refine dl_start (fun x => x.cell? ⟨b22, 2, none⟩ = w27.cell? ⟨b22, 2, none⟩) 7 7 rfl (by kernel_rfl) (by kernel_rfl) ?_
  intro w31 hx32 hsel
  replace hB4 := hB4.c0 hx32
  replace hB17 := hB17.c0 hx32
  replace hB28 := hB28.c0 hx32
  replace hP := hP.chg hx32 all0
  replace hE := hE.t0 hx32
  have hS0 := hB28.same s_hB28 2
  refine dV 0 rfl rfl hsel (by kernel_rfl) hf rfl (.inl hS0) (fun x => ex_fa (k := 2) (r := 2) hf rfl (by kernel_rfl) rfl) fun a hf => dL 1 rfl rfl hsel (by kernel_rfl) hf rfl hS0 (fun x hS => ex_load hf rfl (by kernel_rfl) (hS.trans ((s_hB28.cell 2).trans rfl))) fun a hf => dM 2 rfl rfl hsel (by kernel_rfl) hf rfl hS0 rfl fun a hf => dl_c 3 (by kernel_rfl) rfl hf rfl rfl rfl (by kernel_rfl) (pTakeL hP hs) ?_
  rintro _ w34 ⟨rfl, hP, hx33⟩
  refine ⟨_, rfl, fun a hf => ?_⟩
  replace hB4 := hB4.chg hx33 (nmc (Ne.symm ne_p_b3) nm0)
  replace hB17 := hB17.chg hx33 (nmc (Ne.symm ne_p_b16) nm0)
  replace hB28 := hB28.chg hx33 (nmc (Ne.symm ne_p_b22) nm0)
  replace hE := hE.trans hx33 (allc (.inl (by simp)) all0)
  replace hL := Nat.le_refl (pTake s).toks.length
  clear hS0
  have hS0 := hB28.same s_hB28 2
  refine ⟨.inl hS0, ?_⟩
  refine dV 4 rfl rfl hsel (by kernel_rfl) hf rfl (.inl hS0) (fun x => ex_fd (k := 1) hf rfl (by kernel_rfl) rfl) fun a hf => dV 5 rfl rfl hsel (by kernel_rfl) hf rfl (.inl hS0) (fun x => ex_index (sz := 1) (k := 0) (r := 0) hf Try.underlying23 (by kernel_rfl) rfl rfl rfl (by first | decide | simp) rfl) fun a hf => ?_
  obtain ⟨w35, he, hB36, hx37⟩ := ef_store (P := Try.prog) (t := 9) (x := (.tmp 63)) (y := (.tmp 62)) hf rfl rfl (by kernel_rfl) rfl hB17 (Nat.le_of_ble_eq_true rfl) 0
  refine dl_s 6 (by kernel_rfl) rfl hf rfl rfl he fun a hf => ?_
  replace hB4 := hB4.chg hx37 (nmc ne_b3_b16 nm0)
  replace hB28 := hB28.chg hx37 (nmc (Ne.symm ne_b16_b22) nm0)
  replace hP := hP.chg hx37 (allc ⟨hH_b16, ne_p_b16⟩ all0)
  replace hE := hE.trans hx37 (allc (.inr ge_b16) all0)
  clear hB17
  clear hS0
  have hS0 := hB28.same s_hB28 2
  refine ⟨.inl hS0, ?_⟩
  refine dl_done (by kernel_rfl) ?_
  clear hS0 hsel
  refine hK30 _ _ <| wS fun K38 hK38 => ?_
  have s_hB28 := hB28
  refine dl_start (fun x => x.cell? ⟨b22, 3, none⟩ = w35.cell? ⟨b22, 3, none⟩) 7 8 rfl (by kernel_rfl) (by kernel_rfl) ?_
  intro w39 hx40 hsel
  replace hB4 := hB4.c0 hx40
  replace hB36 := hB36.c0 hx40
  replace hB28 := hB28.c0 hx40
  replace hP := hP.chg hx40 all0
  replace hE := hE.t0 hx40
  have hS0 := hB28.same s_hB28 3
  refine dV 0 rfl rfl hsel (by kernel_rfl) hf rfl (.inl hS0) (fun x => ex_fa (k := 3) (r := 3) hf rfl (by kernel_rfl) rfl) fun a hf => dL 1 rfl rfl hsel (by kernel_rfl) hf rfl hS0 (fun x hS => ex_load hf rfl (by kernel_rfl) (hS.trans ((s_hB28.cell 3).trans rfl))) fun a hf => dM 2 rfl rfl hsel (by kernel_rfl) hf rfl hS0 rfl fun a hf => ?_
  have plt41 := hP.lt
  refine dl_c 3 (by kernel_rfl) rfl hf rfl rfl rfl (by kernel_rfl) (ih _ _ _ _ hP (by omega)) ?_
  rintro _ w42 ⟨c41_0, c41_1, c41_2, c41_3, rfl, hT41, hP, hx41, hl41⟩
  refine ⟨_, rfl, fun a hf => ?_⟩
  obtain ⟨lo43, elo43⟩ : ∃ x, x = w39.heap.size := ⟨_, rfl⟩
  obtain ⟨hi43, ehi43⟩ : ∃ x, x = w42.heap.size := ⟨_, rfl⟩
  replace hT41 := hT41.within elo43 ehi43
  have hle43 : hi43 ≤ w42.heap.size := Nat.le_of_eq ehi43
  have ge_lo43 : w.heap.size ≤ lo43 := elo43 ▸ hE.size
  have tb_lo43_b3 : b3 < lo43 := elo43 ▸ hB4.lt
  have tb_lo43_b16 : b16 < lo43 := elo43 ▸ hB36.lt
  have tb_lo43_b22 : b22 < lo43 := elo43 ▸ hB28.lt
  have tb_lo43_p : p < lo43 := elo43 ▸ plt41
  clear elo43 ehi43
  clear plt41
  have on_hT41 := hT41.one
  replace hB4 := hB4.chg hx41 (nmc (Ne.symm ne_p_b3) nm0)
  replace hB36 := hB36.chg hx41 (nmc (Ne.symm ne_p_b16) nm0)
  replace hB28 := hB28.chg hx41 (nmc (Ne.symm ne_p_b22) nm0)
  replace hE := hE.trans hx41 (allc (.inl (by simp)) all0)
  replace hL := nlt hl41 hL
  clear hS0
  have hS0 := hB28.same s_hB28 3
  refine ⟨.inl hS0, ?_⟩
  obtain ⟨w44, b45, he, hB46, hx47, eb48, lb49⟩ := ef_bslice (P := Try.prog) (ps := [(0, (.tmp 67))]) (m := 1) (sz := 4) (z := zT) hf rfl Try.underlying24 (by kernel_rfl) (by kernel_rfl) rfl rfl (by kernel_rfl) rfl w42 24
  refine dl_e 4 (by kernel_rfl) rfl hf rfl rfl he fun a hf => ?_
  have ne_b3_b45 : b3 ≠ b45 := ne_new hB4.lt eb48
  have ne_b16_b45 : b16 ≠ b45 := ne_new hB36.lt eb48
  have ne_b22_b45 : b22 ≠ b45 := ne_new hB28.lt eb48
  have ne_p_b45 : p ≠ b45 := ne_new hP.lt eb48
  have ta_hi43_b45 : hi43 ≤ b45 := eb48 ▸ hle43
  have ge_b45 := ge_new hE eb48
  have hH_b45 : H ≤ b45 := by have := hP.le; have := hP.lt; omega
  replace hB4 := hB4.c0 hx47
  replace hB36 := hB36.c0 hx47
  replace hB28 := hB28.c0 hx47
  replace hP := hP.chg hx47 all0
  replace hT41 := hT41.chg hx47 (fun b hb _ => nm0)
  replace hle43 := nlt hle43 hx47.size
  replace hE := hE.t0 hx47
  clear eb48 lb49
  clear hS0
  have hS0 := hB28.same s_hB28 3
  refine ⟨.inl hS0, ?_⟩
  obtain ⟨g51, cap52, w50, he, hO53, hx54, hat55, hlt56⟩ := ef_append0 (P := Try.prog) (x := (.tmp 65)) (y := (.tmp 68)) (z := .agg zA) (sz := 4) (by_ := 72) hf rfl rfl Try.underlying24 (by kernel_rfl) rfl rfl (World.ownsRow_nil w44 w.heap.size 26 4) hB46 rfl on_hT41 rfl (by simp only [maxLen]; omega) (by omega) (hE.size) 24
  refine dl_e 5 (by kernel_rfl) rfl hf rfl rfl he fun a hf => ?_
  have ne_b3_g51 : b3 ≠ g51 := by have := hB4.lt; omega
  have ne_b16_g51 : b16 ≠ g51 := by have := hB36.lt; omega
  have ne_b22_g51 : b22 ≠ g51 := by have := hB28.lt; omega
  have ne_b45_g51 : b45 ≠ g51 := by have := hB46.lt; omega
  have ne_p_g51 : p ≠ g51 := by have := hP.lt; omega
  have ta_hi43_g51 : hi43 ≤ g51 ∨ g51 < lo43 := by have := hle43; omega
  have ge_g51 : w.heap.size ≤ g51 := own_gle hO53
  have hH_g51 : H ≤ g51 := by have := hP.le; have := hP.lt; omega
  replace hB4 := hB4.c0 hx54
  replace hB36 := hB36.c0 hx54
  replace hB28 := hB28.c0 hx54
  replace hB46 := hB46.c0 hx54
  replace hP := hP.chg hx54 all0
  replace hT41 := hT41.chg hx54 (fun b hb _ => nm0)
  replace hle43 := nlt hle43 hx54.size
  replace hE := hE.t0 hx54
  clear hat55 hlt56
  clear hS0
  have hS0 := hB28.same s_hB28 3
  refine ⟨.inl hS0, ?_⟩
  refine dV 6 rfl rfl hsel (by kernel_rfl) hf rfl (.inl hS0) (fun x => ex_fa (k := 3) (r := 3) hf rfl (by kernel_rfl) rfl) fun a hf => ?_
  obtain ⟨w57, he, hB58, hx59⟩ := ef_store (P := Try.prog) (t := 24) (x := (.tmp 70)) (y := (.tmp 69)) hf rfl rfl (by kernel_rfl) rfl hB28 (Nat.le_of_ble_eq_true rfl) 0
  refine dl_s 7 (by kernel_rfl) rfl hf rfl rfl he fun a hf => ?_
  replace hB4 := hB4.chg hx59 (nmc ne_b3_b22 nm0)
  replace hB36 := hB36.chg hx59 (nmc ne_b16_b22 nm0)
  replace hB46 := hB46.chg hx59 (nmc (Ne.symm ne_b22_b45) nm0)
  replace hP := hP.chg hx59 (allc ⟨hH_b22, ne_p_b22⟩ all0)
  replace hT41 := hT41.chg hx59 (fun b hb _ => (nmc (by omega) nm0))
  replace hle43 := nlt hle43 hx59.size
  replace hO53 := own_gchg hO53 hx59 (nmc (Ne.symm ne_b22_g51) nm0)
  replace hE := hE.trans hx59 (allc (.inr ge_b22) all0)
  clear hB28
  refine ⟨.inr (by kernel_rfl), ?_⟩
  refine dl_done (by kernel_rfl) ?_
  clear hS0 hsel
  refine hK38 _ _ <| wS fun K60 hK60 => ?_
  have s_hB58 := hB58
  refine dl_start (fun x => x.cell? ⟨b22, 2, none⟩ = w57.cell? ⟨b22, 2, none⟩) 6 6 rfl (by kernel_rfl) (by kernel_rfl) ?_
  intro w61 hx62 hsel
  replace hB4 := hB4.c0 hx62
  replace hB36 := hB36.c0 hx62
  replace hB58 := hB58.c0 hx62
  replace hB46 := hB46.c0 hx62
  replace hP := hP.chg hx62 all0
  replace hT41 := hT41.chg hx62 (fun b hb _ => nm0)
  replace hle43 := nlt hle43 hx62.size
  replace hO53 := own_gchg hO53 hx62 nm0
  replace hE := hE.t0 hx62
  have hS0 := hB58.same s_hB58 2
  refine dV 0 rfl rfl hsel (by kernel_rfl) hf rfl (.inl hS0) (fun x => ex_fa (k := 2) (r := 2) hf rfl (by kernel_rfl) rfl) fun a hf => dL 1 rfl rfl hsel (by kernel_rfl) hf rfl hS0 (fun x hS => ex_load hf rfl (by kernel_rfl) (hS.trans ((s_hB58.cell 2).trans rfl))) fun a hf => dM 2 rfl rfl hsel (by kernel_rfl) hf rfl hS0 rfl fun a hf => dl_c 3 (by kernel_rfl) rfl hf rfl rfl rfl (by kernel_rfl) (pWordL (x := wThen) hP (by decide)) ?_
  rintro _ w64 ⟨rfl, hP, hx63⟩
  refine ⟨_, rfl, fun a hf => ?_⟩
  replace hB4 := hB4.chg hx63 (nmc (Ne.symm ne_p_b3) nm0)
  replace hB36 := hB36.chg hx63 (nmc (Ne.symm ne_p_b16) nm0)
  replace hB58 := hB58.chg hx63 (nmc (Ne.symm ne_p_b22) nm0)
  replace hB46 := hB46.chg hx63 (nmc (Ne.symm ne_p_b45) nm0)
  replace hT41 := hT41.chg hx63 (fun b hb _ => (nmc (by omega) nm0))
  replace hle43 := nlt hle43 hx63.size
  replace hO53 := own_gchg hO53 hx63 (nmc (Ne.symm ne_p_g51) nm0)
  replace hE := hE.trans hx63 (allc (.inl (by simp)) all0)
  replace hL := nlt (pWord_len wThen _) hL
  clear hS0
  have hS0 := hB58.same s_hB58 2
  refine ⟨.inl hS0, ?_⟩
  refine dV 4 rfl rfl hsel (by kernel_rfl) hf rfl (.inl hS0) (fun x => ex_index (sz := 1) (k := 1) (r := 1) hf Try.underlying23 (by kernel_rfl) rfl rfl rfl (by first | decide | simp) rfl) fun a hf => ?_
  obtain ⟨w65, he, hB66, hx67⟩ := ef_store (P := Try.prog) (t := 9) (x := (.tmp 75)) (y := (.tmp 74)) hf rfl rfl (by kernel_rfl) rfl hB36 (Nat.le_of_ble_eq_true rfl) 0
  refine dl_s 5 (by kernel_rfl) rfl hf rfl rfl he fun a hf => ?_
  replace hB4 := hB4.chg hx67 (nmc ne_b3_b16 nm0)
  replace hB58 := hB58.chg hx67 (nmc (Ne.symm ne_b16_b22) nm0)
  replace hB46 := hB46.chg hx67 (nmc (Ne.symm ne_b16_b45) nm0)
  replace hP := hP.chg hx67 (allc ⟨hH_b16, ne_p_b16⟩ all0)
  replace hT41 := hT41.chg hx67 (fun b hb _ => (nmc (by omega) nm0))
  replace hle43 := nlt hle43 hx67.size
  replace hO53 := own_gchg hO53 hx67 (nmc (Ne.symm ne_b16_g51) nm0)
  replace hE := hE.trans hx67 (allc (.inr ge_b16) all0)
  clear hB36
  clear hS0
  have hS0 := hB58.same s_hB58 2
  refine ⟨.inl hS0, ?_⟩
  refine dl_done (by kernel_rfl) ?_
  clear hS0 hsel
  refine hK60 _ _ <| wS fun K68 hK68 => ?_
  have s_hB58 := hB58
  refine dl_start (fun x => x.cell? ⟨b22, 3, none⟩ = w65.cell? ⟨b22, 3, none⟩) 7 8 rfl (by kernel_rfl) (by kernel_rfl) ?_
  intro w69 hx70 hsel
  replace hB4 := hB4.c0 hx70
  replace hB66 := hB66.c0 hx70
  replace hB58 := hB58.c0 hx70
  replace hB46 := hB46.c0 hx70
  replace hP := hP.chg hx70 all0
  replace hT41 := hT41.chg hx70 (fun b hb _ => nm0)
  replace hle43 := nlt hle43 hx70.size
  replace hO53 := own_gchg hO53 hx70 nm0
  replace hE := hE.t0 hx70
  have hS0 := hB58.same s_hB58 3
  refine dV 0 rfl rfl hsel (by kernel_rfl) hf rfl (.inl hS0) (fun x => ex_fa (k := 3) (r := 3) hf rfl (by kernel_rfl) rfl) fun a hf => dL 1 rfl rfl hsel (by kernel_rfl) hf rfl hS0 (fun x hS => ex_load hf rfl (by kernel_rfl) (hS.trans ((s_hB58.cell 3).trans rfl))) fun a hf => dM 2 rfl rfl hsel (by kernel_rfl) hf rfl hS0 rfl fun a hf => ?_
  have plt71 := hP.lt
  refine dl_c 3 (by kernel_rfl) rfl hf rfl rfl rfl (by kernel_rfl) (ih _ _ _ _ hP (by omega)) ?_
  rintro _ w72 ⟨c71_0, c71_1, c71_2, c71_3, rfl, hT71, hP, hx71, hl71⟩
  refine ⟨_, rfl, fun a hf => ?_⟩
  obtain ⟨lo73, elo73⟩ : ∃ x, x = w69.heap.size := ⟨_, rfl⟩
  obtain ⟨hi73, ehi73⟩ : ∃ x, x = w72.heap.size := ⟨_, rfl⟩
  replace hT71 := hT71.within elo73 ehi73
  have hle73 : hi73 ≤ w72.heap.size := Nat.le_of_eq ehi73
  have ge_lo73 : w.heap.size ≤ lo73 := elo73 ▸ hE.size
  have tb_lo73_b3 : b3 < lo73 := elo73 ▸ hB4.lt
  have tb_lo73_b16 : b16 < lo73 := elo73 ▸ hB66.lt
  have tb_lo73_b22 : b22 < lo73 := elo73 ▸ hB58.lt
  have tb_lo73_b45 : b45 < lo73 := elo73 ▸ hB46.lt
  have tb_lo73_p : p < lo73 := elo73 ▸ plt71
  have tb_lo73_g51 : g51 < lo73 := elo73 ▸ (own_glt hO53)
  clear elo73 ehi73
  clear plt71
  have on_hT71 := hT71.one
  replace hB4 := hB4.chg hx71 (nmc (Ne.symm ne_p_b3) nm0)
  replace hB66 := hB66.chg hx71 (nmc (Ne.symm ne_p_b16) nm0)
  replace hB58 := hB58.chg hx71 (nmc (Ne.symm ne_p_b22) nm0)
  replace hB46 := hB46.chg hx71 (nmc (Ne.symm ne_p_b45) nm0)
  replace hT41 := hT41.chg hx71 (fun b hb _ => (nmc (by omega) nm0))
  replace hle43 := nlt hle43 hx71.size
  replace hO53 := own_gchg hO53 hx71 (nmc (Ne.symm ne_p_g51) nm0)
  replace hE := hE.trans hx71 (allc (.inl (by simp)) all0)
  replace hL := nlt hl71 hL
  clear hS0
  have hS0 := hB58.same s_hB58 3
  refine ⟨.inl hS0, ?_⟩
  obtain ⟨w74, b75, he, hB76, hx77, eb78, lb79⟩ := ef_bslice (P := Try.prog) (ps := [(0, (.tmp 79))]) (m := 1) (sz := 4) (z := zT) hf rfl Try.underlying24 (by kernel_rfl) (by kernel_rfl) rfl rfl (by kernel_rfl) rfl w72 24
  refine dl_e 4 (by kernel_rfl) rfl hf rfl rfl he fun a hf => ?_
  have ne_b3_b75 : b3 ≠ b75 := ne_new hB4.lt eb78
  have ne_b16_b75 : b16 ≠ b75 := ne_new hB66.lt eb78
  have ne_b22_b75 : b22 ≠ b75 := ne_new hB58.lt eb78
  have ne_b45_b75 : b45 ≠ b75 := ne_new hB46.lt eb78
  have ne_p_b75 : p ≠ b75 := ne_new hP.lt eb78
  have ne_g51_b75 : g51 ≠ b75 := ne_new (own_glt hO53) eb78
  have ta_hi43_b75 : hi43 ≤ b75 := eb78 ▸ hle43
  have ta_hi73_b75 : hi73 ≤ b75 := eb78 ▸ hle73
  have ge_b75 := ge_new hE eb78
  have hH_b75 : H ≤ b75 := by have := hP.le; have := hP.lt; omega
  replace hB4 := hB4.c0 hx77
  replace hB66 := hB66.c0 hx77
  replace hB58 := hB58.c0 hx77
  replace hB46 := hB46.c0 hx77
  replace hP := hP.chg hx77 all0
  replace hT41 := hT41.chg hx77 (fun b hb _ => nm0)
  replace hle43 := nlt hle43 hx77.size
  replace hO53 := own_gchg hO53 hx77 nm0
  replace hT71 := hT71.chg hx77 (fun b hb _ => nm0)
  replace hle73 := nlt hle73 hx77.size
  replace hE := hE.t0 hx77
  clear eb78 lb79
  clear hS0
  have hS0 := hB58.same s_hB58 3
  refine ⟨.inl hS0, ?_⟩
  obtain ⟨g81, cap82, w80, he, hO83, hx84, hat85, hlt86⟩ := ef_append1 (P := Try.prog) (x := (.tmp 77)) (y := (.tmp 80)) (z := .agg zA) (sz := 4) (by_ := 72) hf rfl rfl Try.underlying24 (by kernel_rfl) rfl rfl hO53 hB76 rfl on_hT71 rfl (by simp only [maxLen]; omega) (by omega) (hE.size) 24
  refine dl_e 5 (by kernel_rfl) rfl hf rfl rfl he fun a hf => ?_
  have ne_b3_g81 : b3 ≠ g81 := by have := hB4.lt; have := ne_b3_g51; omega
  have ne_b16_g81 : b16 ≠ g81 := by have := hB66.lt; have := ne_b16_g51; omega
  have ne_b22_g81 : b22 ≠ g81 := by have := hB58.lt; have := ne_b22_g51; omega
  have ne_b45_g81 : b45 ≠ g81 := by have := hB46.lt; have := ne_b45_g51; omega
  have ne_b75_g81 : b75 ≠ g81 := by have := hB76.lt; have := (Ne.symm ne_g51_b75); omega
  have ne_p_g81 : p ≠ g81 := by have := hP.lt; have := ne_p_g51; omega
  have ta_hi43_g81 : hi43 ≤ g81 ∨ g81 < lo43 := by have := hle43; omega
  have ta_hi73_g81 : hi73 ≤ g81 ∨ g81 < lo73 := by have := hle73; omega
  have ge_g81 : w.heap.size ≤ g81 := own_gle hO83
  have hH_g81 : H ≤ g81 := by have := hP.le; have := hP.lt; omega
  replace hB4 := hB4.chg hx84 (nmc ne_b3_g51 nm0)
  replace hB66 := hB66.chg hx84 (nmc ne_b16_g51 nm0)
  replace hB58 := hB58.chg hx84 (nmc ne_b22_g51 nm0)
  replace hB46 := hB46.chg hx84 (nmc ne_b45_g51 nm0)
  replace hB76 := hB76.chg hx84 (nmc (Ne.symm ne_g51_b75) nm0)
  replace hP := hP.chg hx84 (allc ⟨hH_g51, ne_p_g51⟩ all0)
  replace hT41 := hT41.chg hx84 (fun b hb _ => (nmc (by omega) nm0))
  replace hle43 := nlt hle43 hx84.size
  replace hT71 := hT71.chg hx84 (fun b hb _ => (nmc (by omega) nm0))
  replace hle73 := nlt hle73 hx84.size
  replace hE := hE.trans hx84 (allc (.inr ge_g51) all0)
  clear hat85 hlt86
  clear hS0
  have hS0 := hB58.same s_hB58 3
  refine ⟨.inl hS0, ?_⟩
  refine dV 6 rfl rfl hsel (by kernel_rfl) hf rfl (.inl hS0) (fun x => ex_fa (k := 3) (r := 3) hf rfl (by kernel_rfl) rfl) fun a hf => ?_
  obtain ⟨w87, he, hB88, hx89⟩ := ef_store (P := Try.prog) (t := 24) (x := (.tmp 82)) (y := (.tmp 81)) hf rfl rfl (by kernel_rfl) rfl hB58 (Nat.le_of_ble_eq_true rfl) 0
  refine dl_s 7 (by kernel_rfl) rfl hf rfl rfl he fun a hf => ?_
  replace hB4 := hB4.chg hx89 (nmc ne_b3_b22 nm0)
  replace hB66 := hB66.chg hx89 (nmc ne_b16_b22 nm0)
  replace hB46 := hB46.chg hx89 (nmc (Ne.symm ne_b22_b45) nm0)
  replace hB76 := hB76.chg hx89 (nmc (Ne.symm ne_b22_b75) nm0)
  replace hP := hP.chg hx89 (allc ⟨hH_b22, ne_p_b22⟩ all0)
  replace hT41 := hT41.chg hx89 (fun b hb _ => (nmc (by omega) nm0))
  replace hle43 := nlt hle43 hx89.size
  replace hT71 := hT71.chg hx89 (fun b hb _ => (nmc (by omega) nm0))
  replace hle73 := nlt hle73 hx89.size
  replace hO83 := own_gchg hO83 hx89 (nmc (Ne.symm ne_b22_g81) nm0)
  replace hE := hE.trans hx89 (allc (.inr ge_b22) all0)
  clear hB58
  refine ⟨.inr (by kernel_rfl), ?_⟩
  refine dl_done (by kernel_rfl) ?_
  clear hS0 hsel
  refine hK68 _ _ <| wS fun K90 hK90 => ?_
  have s_hB88 := hB88
  refine dl_start (fun x => x.cell? ⟨b22, 2, none⟩ = w87.cell? ⟨b22, 2, none⟩) 6 6 rfl (by kernel_rfl) (by kernel_rfl) ?_
  intro w91 hx92 hsel
  replace hB4 := hB4.c0 hx92
  replace hB66 := hB66.c0 hx92
  replace hB88 := hB88.c0 hx92
  replace hB46 := hB46.c0 hx92
  replace hB76 := hB76.c0 hx92
  replace hP := hP.chg hx92 all0
  replace hT41 := hT41.chg hx92 (fun b hb _ => nm0)
  replace hle43 := nlt hle43 hx92.size
  replace hT71 := hT71.chg hx92 (fun b hb _ => nm0)
  replace hle73 := nlt hle73 hx92.size
  replace hO83 := own_gchg hO83 hx92 nm0
  replace hE := hE.t0 hx92
  have hS0 := hB88.same s_hB88 2
  refine dV 0 rfl rfl hsel (by kernel_rfl) hf rfl (.inl hS0) (fun x => ex_fa (k := 2) (r := 2) hf rfl (by kernel_rfl) rfl) fun a hf => dL 1 rfl rfl hsel (by kernel_rfl) hf rfl hS0 (fun x hS => ex_load hf rfl (by kernel_rfl) (hS.trans ((s_hB88.cell 2).trans rfl))) fun a hf => dM 2 rfl rfl hsel (by kernel_rfl) hf rfl hS0 rfl fun a hf => dl_c 3 (by kernel_rfl) rfl hf rfl rfl rfl (by kernel_rfl) (pWordL (x := wElse) hP (by decide)) ?_
  rintro _ w94 ⟨rfl, hP, hx93⟩
  refine ⟨_, rfl, fun a hf => ?_⟩
  replace hB4 := hB4.chg hx93 (nmc (Ne.symm ne_p_b3) nm0)
  replace hB66 := hB66.chg hx93 (nmc (Ne.symm ne_p_b16) nm0)
  replace hB88 := hB88.chg hx93 (nmc (Ne.symm ne_p_b22) nm0)
  replace hB46 := hB46.chg hx93 (nmc (Ne.symm ne_p_b45) nm0)
  replace hB76 := hB76.chg hx93 (nmc (Ne.symm ne_p_b75) nm0)
  replace hT41 := hT41.chg hx93 (fun b hb _ => (nmc (by omega) nm0))
  replace hle43 := nlt hle43 hx93.size
  replace hT71 := hT71.chg hx93 (fun b hb _ => (nmc (by omega) nm0))
  replace hle73 := nlt hle73 hx93.size
  replace hO83 := own_gchg hO83 hx93 (nmc (Ne.symm ne_p_g81) nm0)
  replace hE := hE.trans hx93 (allc (.inl (by simp)) all0)
  replace hL := nlt (pWord_len wElse _) hL
  clear hS0
  have hS0 := hB88.same s_hB88 2
  refine ⟨.inl hS0, ?_⟩
  refine dV 4 rfl rfl hsel (by kernel_rfl) hf rfl (.inl hS0) (fun x => ex_index (sz := 1) (k := 2) (r := 2) hf Try.underlying23 (by kernel_rfl) rfl rfl rfl (by first | decide | simp) rfl) fun a hf => ?_
  obtain ⟨w95, he, hB96, hx97⟩ := ef_store (P := Try.prog) (t := 9) (x := (.tmp 87)) (y := (.tmp 86)) hf rfl rfl (by kernel_rfl) rfl hB66 (Nat.le_of_ble_eq_true rfl) 0
  refine dl_s 5 (by kernel_rfl) rfl hf rfl rfl he fun a hf => ?_
  replace hB4 := hB4.chg hx97 (nmc ne_b3_b16 nm0)
  replace hB88 := hB88.chg hx97 (nmc (Ne.symm ne_b16_b22) nm0)
  replace hB46 := hB46.chg hx97 (nmc (Ne.symm ne_b16_b45) nm0)
  replace hB76 := hB76.chg hx97 (nmc (Ne.symm ne_b16_b75) nm0)
  replace hP := hP.chg hx97 (allc ⟨hH_b16, ne_p_b16⟩ all0)
  replace hT41 := hT41.chg hx97 (fun b hb _ => (nmc (by omega) nm0))
  replace hle43 := nlt hle43 hx97.size
  replace hT71 := hT71.chg hx97 (fun b hb _ => (nmc (by omega) nm0))
  replace hle73 := nlt hle73 hx97.size
  replace hO83 := own_gchg hO83 hx97 (nmc (Ne.symm ne_b16_g81) nm0)
  replace hE := hE.trans hx97 (allc (.inr ge_b16) all0)
  clear hB66
  clear hS0
  have hS0 := hB88.same s_hB88 2
  refine ⟨.inl hS0, ?_⟩
  refine dl_done (by kernel_rfl) ?_
  clear hS0 hsel
  refine hK90 _ _ <| wS fun K98 hK98 => ?_
  have s_hB88 := hB88
  refine dl_start (fun x => x.cell? ⟨b22, 3, none⟩ = w95.cell? ⟨b22, 3, none⟩) 7 8 rfl (by kernel_rfl) (by kernel_rfl) ?_
  intro w99 hx100 hsel
  replace hB4 := hB4.c0 hx100
  replace hB96 := hB96.c0 hx100
  replace hB88 := hB88.c0 hx100
  replace hB46 := hB46.c0 hx100
  replace hB76 := hB76.c0 hx100
  replace hP := hP.chg hx100 all0
  replace hT41 := hT41.chg hx100 (fun b hb _ => nm0)
  replace hle43 := nlt hle43 hx100.size
  replace hT71 := hT71.chg hx100 (fun b hb _ => nm0)
  replace hle73 := nlt hle73 hx100.size
  replace hO83 := own_gchg hO83 hx100 nm0
  replace hE := hE.t0 hx100
  have hS0 := hB88.same s_hB88 3
  refine dV 0 rfl rfl hsel (by kernel_rfl) hf rfl (.inl hS0) (fun x => ex_fa (k := 3) (r := 3) hf rfl (by kernel_rfl) rfl) fun a hf => dL 1 rfl rfl hsel (by kernel_rfl) hf rfl hS0 (fun x hS => ex_load hf rfl (by kernel_rfl) (hS.trans ((s_hB88.cell 3).trans rfl))) fun a hf => dM 2 rfl rfl hsel (by kernel_rfl) hf rfl hS0 rfl fun a hf => ?_
  have plt101 := hP.lt
  refine dl_c 3 (by kernel_rfl) rfl hf rfl rfl rfl (by kernel_rfl) (ih _ _ _ _ hP (by omega)) ?_
  rintro _ w102 ⟨c101_0, c101_1, c101_2, c101_3, rfl, hT101, hP, hx101, hl101⟩
  refine ⟨_, rfl, fun a hf => ?_⟩
  obtain ⟨lo103, elo103⟩ : ∃ x, x = w99.heap.size := ⟨_, rfl⟩
  obtain ⟨hi103, ehi103⟩ : ∃ x, x = w102.heap.size := ⟨_, rfl⟩
  replace hT101 := hT101.within elo103 ehi103
  have hle103 : hi103 ≤ w102.heap.size := Nat.le_of_eq ehi103
  have ge_lo103 : w.heap.size ≤ lo103 := elo103 ▸ hE.size
  have tb_lo103_b3 : b3 < lo103 := elo103 ▸ hB4.lt
  have tb_lo103_b16 : b16 < lo103 := elo103 ▸ hB96.lt
  have tb_lo103_b22 : b22 < lo103 := elo103 ▸ hB88.lt
  have tb_lo103_b45 : b45 < lo103 := elo103 ▸ hB46.lt
  have tb_lo103_b75 : b75 < lo103 := elo103 ▸ hB76.lt
  have tb_lo103_p : p < lo103 := elo103 ▸ plt101
  have tb_lo103_g81 : g81 < lo103 := elo103 ▸ (own_glt hO83)
  clear elo103 ehi103
  clear plt101
  have on_hT101 := hT101.one
  replace hB4 := hB4.chg hx101 (nmc (Ne.symm ne_p_b3) nm0)
  replace hB96 := hB96.chg hx101 (nmc (Ne.symm ne_p_b16) nm0)
  replace hB88 := hB88.chg hx101 (nmc (Ne.symm ne_p_b22) nm0)
  replace hB46 := hB46.chg hx101 (nmc (Ne.symm ne_p_b45) nm0)
  replace hB76 := hB76.chg hx101 (nmc (Ne.symm ne_p_b75) nm0)
  replace hT41 := hT41.chg hx101 (fun b hb _ => (nmc (by omega) nm0))
  replace hle43 := nlt hle43 hx101.size
  replace hT71 := hT71.chg hx101 (fun b hb _ => (nmc (by omega) nm0))
  replace hle73 := nlt hle73 hx101.size
  replace hO83 := own_gchg hO83 hx101 (nmc (Ne.symm ne_p_g81) nm0)
  replace hE := hE.trans hx101 (allc (.inl (by simp)) all0)
  replace hL := nlt hl101 hL
  clear hS0
  have hS0 := hB88.same s_hB88 3
  refine ⟨.inl hS0, ?_⟩
  obtain ⟨w104, b105, he, hB106, hx107, eb108, lb109⟩ := ef_bslice (P := Try.prog) (ps := [(0, (.tmp 91))]) (m := 1) (sz := 4) (z := zT) hf rfl Try.underlying24 (by kernel_rfl) (by kernel_rfl) rfl rfl (by kernel_rfl) rfl w102 24
  refine dl_e 4 (by kernel_rfl) rfl hf rfl rfl he fun a hf => ?_
  have ne_b3_b105 : b3 ≠ b105 := ne_new hB4.lt eb108
  have ne_b16_b105 : b16 ≠ b105 := ne_new hB96.lt eb108
  have ne_b22_b105 : b22 ≠ b105 := ne_new hB88.lt eb108
  have ne_b45_b105 : b45 ≠ b105 := ne_new hB46.lt eb108
  have ne_b75_b105 : b75 ≠ b105 := ne_new hB76.lt eb108
  have ne_p_b105 : p ≠ b105 := ne_new hP.lt eb108
  have ne_g81_b105 : g81 ≠ b105 := ne_new (own_glt hO83) eb108
  have ta_hi43_b105 : hi43 ≤ b105 := eb108 ▸ hle43
  have ta_hi73_b105 : hi73 ≤ b105 := eb108 ▸ hle73
  have ta_hi103_b105 : hi103 ≤ b105 := eb108 ▸ hle103
  have ge_b105 := ge_new hE eb108
  have hH_b105 : H ≤ b105 := by have := hP.le; have := hP.lt; omega
  replace hB4 := hB4.c0 hx107
  replace hB96 := hB96.c0 hx107
  replace hB88 := hB88.c0 hx107
  replace hB46 := hB46.c0 hx107
  replace hB76 := hB76.c0 hx107
  replace hP := hP.chg hx107 all0
  replace hT41 := hT41.chg hx107 (fun b hb _ => nm0)
  replace hle43 := nlt hle43 hx107.size
  replace hT71 := hT71.chg hx107 (fun b hb _ => nm0)
  replace hle73 := nlt hle73 hx107.size
  replace hO83 := own_gchg hO83 hx107 nm0
  replace hT101 := hT101.chg hx107 (fun b hb _ => nm0)
  replace hle103 := nlt hle103 hx107.size
  replace hE := hE.t0 hx107
  clear eb108 lb109
  clear hS0
  have hS0 := hB88.same s_hB88 3
  refine ⟨.inl hS0, ?_⟩
  obtain ⟨g111, cap112, w110, he, hO113, hx114, hat115, hlt116⟩ := ef_append1 (P := Try.prog) (x := (.tmp 89)) (y := (.tmp 92)) (z := .agg zA) (sz := 4) (by_ := 72) hf rfl rfl Try.underlying24 (by kernel_rfl) rfl rfl hO83 hB106 rfl on_hT101 rfl (by simp only [maxLen]; omega) (by omega) (hE.size) 24
  refine dl_e 5 (by kernel_rfl) rfl hf rfl rfl he fun a hf => ?_
  have ne_b3_g111 : b3 ≠ g111 := by have := hB4.lt; have := ne_b3_g81; omega
  have ne_b16_g111 : b16 ≠ g111 := by have := hB96.lt; have := ne_b16_g81; omega
  have ne_b22_g111 : b22 ≠ g111 := by have := hB88.lt; have := ne_b22_g81; omega
  have ne_b45_g111 : b45 ≠ g111 := by have := hB46.lt; have := ne_b45_g81; omega
  have ne_b75_g111 : b75 ≠ g111 := by have := hB76.lt; have := ne_b75_g81; omega
  have ne_b105_g111 : b105 ≠ g111 := by have := hB106.lt; have := (Ne.symm ne_g81_b105); omega
  have ne_p_g111 : p ≠ g111 := by have := hP.lt; have := ne_p_g81; omega
  have ta_hi43_g111 : hi43 ≤ g111 ∨ g111 < lo43 := by have := hle43; omega
  have ta_hi73_g111 : hi73 ≤ g111 ∨ g111 < lo73 := by have := hle73; omega
  have ta_hi103_g111 : hi103 ≤ g111 ∨ g111 < lo103 := by have := hle103; omega
  have ge_g111 : w.heap.size ≤ g111 := own_gle hO113
  have hH_g111 : H ≤ g111 := by have := hP.le; have := hP.lt; omega
  replace hB4 := hB4.chg hx114 (nmc ne_b3_g81 nm0)
  replace hB96 := hB96.chg hx114 (nmc ne_b16_g81 nm0)
  replace hB88 := hB88.chg hx114 (nmc ne_b22_g81 nm0)
  replace hB46 := hB46.chg hx114 (nmc ne_b45_g81 nm0)
  replace hB76 := hB76.chg hx114 (nmc ne_b75_g81 nm0)
  replace hB106 := hB106.chg hx114 (nmc (Ne.symm ne_g81_b105) nm0)
  replace hP := hP.chg hx114 (allc ⟨hH_g81, ne_p_g81⟩ all0)
  replace hT41 := hT41.chg hx114 (fun b hb _ => (nmc (by omega) nm0))
  replace hle43 := nlt hle43 hx114.size
  replace hT71 := hT71.chg hx114 (fun b hb _ => (nmc (by omega) nm0))
  replace hle73 := nlt hle73 hx114.size
  replace hT101 := hT101.chg hx114 (fun b hb _ => (nmc (by omega) nm0))
  replace hle103 := nlt hle103 hx114.size
  replace hE := hE.trans hx114 (allc (.inr ge_g81) all0)
  clear hat115 hlt116
  clear hS0
  have hS0 := hB88.same s_hB88 3
  refine ⟨.inl hS0, ?_⟩
  refine dV 6 rfl rfl hsel (by kernel_rfl) hf rfl (.inl hS0) (fun x => ex_fa (k := 3) (r := 3) hf rfl (by kernel_rfl) rfl) fun a hf => ?_
  obtain ⟨w117, he, hB118, hx119⟩ := ef_store (P := Try.prog) (t := 24) (x := (.tmp 94)) (y := (.tmp 93)) hf rfl rfl (by kernel_rfl) rfl hB88 (Nat.le_of_ble_eq_true rfl) 0
  refine dl_s 7 (by kernel_rfl) rfl hf rfl rfl he fun a hf => ?_
  replace hB4 := hB4.chg hx119 (nmc ne_b3_b22 nm0)
  replace hB96 := hB96.chg hx119 (nmc ne_b16_b22 nm0)
  replace hB46 := hB46.chg hx119 (nmc (Ne.symm ne_b22_b45) nm0)
  replace hB76 := hB76.chg hx119 (nmc (Ne.symm ne_b22_b75) nm0)
  replace hB106 := hB106.chg hx119 (nmc (Ne.symm ne_b22_b105) nm0)
  replace hP := hP.chg hx119 (allc ⟨hH_b22, ne_p_b22⟩ all0)
  replace hT41 := hT41.chg hx119 (fun b hb _ => (nmc (by omega) nm0))
  replace hle43 := nlt hle43 hx119.size
  replace hT71 := hT71.chg hx119 (fun b hb _ => (nmc (by omega) nm0))
  replace hle73 := nlt hle73 hx119.size
  replace hT101 := hT101.chg hx119 (fun b hb _ => (nmc (by omega) nm0))
  replace hle103 := nlt hle103 hx119.size
  replace hO113 := own_gchg hO113 hx119 (nmc (Ne.symm ne_b22_g111) nm0)
  replace hE := hE.trans hx119 (allc (.inr ge_b22) all0)
  clear hB88
  refine ⟨.inr (by kernel_rfl), ?_⟩
  refine dl_done (by kernel_rfl) ?_
  clear hS0 hsel
  refine hK98 _ _ <| wS fun K120 hK120 => wR <| sV hf rfl (ex_loadBN (m := 4) hf rfl (by kernel_rfl) hB118 rfl) fun a hf => ?_
  obtain ⟨w121, he, hB122, hx123⟩ := eN (.tmp 2) (.tmp 95) hf rfl rfl rfl rfl hB4 rfl 0
  refine st_s hf rfl rfl he fun a hf => ?_
  replace hB96 := hB96.chg hx123 (nmc (Ne.symm ne_b3_b16) nm0)
  replace hB118 := hB118.chg hx123 (nmc (Ne.symm ne_b3_b22) nm0)
  replace hB46 := hB46.chg hx123 (nmc (Ne.symm ne_b3_b45) nm0)
  replace hB76 := hB76.chg hx123 (nmc (Ne.symm ne_b3_b75) nm0)
  replace hB106 := hB106.chg hx123 (nmc (Ne.symm ne_b3_b105) nm0)
  replace hP := hP.chg hx123 (allc ⟨hH_b3, ne_p_b3⟩ all0)
  replace hT41 := hT41.chg hx123 (fun b hb _ => (nmc (by omega) nm0))
  replace hle43 := nlt hle43 hx123.size
  replace hT71 := hT71.chg hx123 (fun b hb _ => (nmc (by omega) nm0))
  replace hle73 := nlt hle73 hx123.size
  replace hT101 := hT101.chg hx123 (fun b hb _ => (nmc (by omega) nm0))
  replace hle103 := nlt hle103 hx123.size
  replace hO113 := own_gchg hO113 hx123 (nmc (Ne.symm ne_b3_g111) nm0)
  replace hE := hE.trans hx123 (allc (.inr ge_b3) all0)
  clear hB4
  refine sN <| hK120 _ _ <| wp_ret ?_
  rw [hq]
  try simp only [Exit.then, Exit.inBlock]
  exact ret_of (rs := [.cell 2 26]) hf rfl ⟨_, _, _, _, 4, rfl, rfl, by kernel_rfl, hB122, rfl, rfl⟩ ⟨_, _, _, _, rfl, tree_mk (Nat.le_refl _) (maxLen_ge rfl) (own_cap hO113).1 (own_cap hO113).2 (RowIn.of_blk hB96 ge_b16 rfl) (kids_three (hT41.mono (fun b hb => by omega)) (hT71.mono (fun b hb => by omega)) (hT101.mono (fun b hb => by omega))) (RowIn.of_own hO113), hP, hE, (nlt hL (pTake_len s))⟩
end Go.Proofs.Ythpjpngfghcmcaa
