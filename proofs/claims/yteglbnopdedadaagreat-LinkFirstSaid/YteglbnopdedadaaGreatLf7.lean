/- Contracts of the functions that the law reaches, part 7. -/
import Derived.Test.YteglbnopdedadaaGreatLf6
set_option linter.unusedVariables false
set_option linter.unusedSimpArgs false
namespace Go.Proofs.YteglbnopdedadaaGreat
open Go.RowKit Lx Sx
set_option maxRecDepth 100000
theorem kid_word {t u : Tree} {d : Nat} (ht : t.kind = 1) (hs : shapeK t = true) (hu : t.kids[d]? = some u) : (u.kind = 2 ∧ classT u.text = 1) ∨ (u.kind = 3 ∧ classT u.text = 2) := by
  rw [shapeK_eq] at hs
  simp only [Bool.and_eq_true] at hs
  obtain ⟨h1, h2⟩ := shapeKs_at hs.2 hu
  rw [ht] at h1
  simp [suitK] at h1
  rw [shapeK_eq] at h2
  simp only [Bool.and_eq_true] at h2
  have h3 := h2.1.2
  rcases h1 with e | e
  · rw [e] at h3
    simp [wordK] at h3
    exact .inl ⟨e, by omega⟩
  · rw [e] at h3
    simp [wordK] at h3
    exact .inr ⟨e, by omega⟩
theorem use_word {u : Tree} (hu : useK u = true) (hs : shapeK u = true) : (u.kind = 16 ∧ (classT u.text = 1 ∨ classT u.text = 3)) ∨ (u.kind = 9 ∧ (classT u.text = 2 ∨ classT u.text = 4)) := by
  rw [shapeK_eq] at hs
  simp only [Bool.and_eq_true] at hs
  have h3 := hs.1.2
  simp [useK] at hu
  rcases hu with e | e
  · rw [e] at h3
    simp [wordK] at h3
    exact .inl ⟨e, by omega⟩
  · rw [e] at h3
    simp [wordK] at h3
    exact .inr ⟨e, by omega⟩
theorem take_dot : ∀ (w : List UInt8) (n : Nat), n < w.length → w.getD n 0 = 46 → w = w.take n ++ [46] ++ w.drop (n + 1)
  | [], n, h, _ => by simp at h
  | c :: r, 0, h, h2 => by simp at h2; simp [h2]
  | c :: r, n + 1, h, h2 => by
    have := take_dot r n (by simpa using h) (by simpa using h2)
    simp only [List.take_succ_cons, List.drop_succ_cons, List.cons_append]
    rw [← this]
theorem first_ok {p : List Tree} {x : GTarget} (h : x ∈ targetsK p) (hf : x.Free = false) : ∃ (j i d : Nat) (t u t' u' : Tree), p[j]? = some t ∧ atK t x.Use.Path = some u ∧ x.Use.Module = (j : Int) ∧ x.Module = (i : Int) ∧ x.Def = (d : Int) ∧ p[i]? = some t' ∧ t'.kids[d]? = some u' ∧ ((u.text = u'.text ∧ i = j) ∨ u.text = t'.text ++ [46] ++ u'.text) ∧ ((u.kind == 16) = (u'.kind == 2)) ∧ ∀ v y, v < d → t'.kids[v]? = some y → y.text ≠ u'.text := by
  unfold targetsK at h
  split at h
  · rename_i hpr
    obtain ⟨j, t, q, u, hj, hq, hu, rfl⟩ := targK_all h
    have hat := nodK_at t t [] rfl _ hq
    simp only at hat
    obtain ⟨hk, hsh⟩ := progK_get hpr hj
    have hw := use_word hu (shape_at q t u hsh hat)
    simp only [tgK, Bool.not_eq_false'] at hf ⊢
    rw [Nat.zero_add] at hf ⊢
    obtain ⟨w, hwe⟩ : ∃ w, w = u.text := ⟨_, rfl⟩
    rw [← hwe] at hf hw ⊢
    unfold lookK at hf ⊢
    split at hf
    · rename_i hd
      rw [if_pos hd]
      obtain ⟨i, d, t', u', a0, a1, a2, a3, a4, a5, a6⟩ := inK_ok hf
      have hcl : (u.kind = 16 ∧ classT w = 3) ∨ (u.kind = 9 ∧ classT w = 4) := by
        rcases hw with ⟨e, h1 | h1⟩ | ⟨e, h1 | h1⟩
        · rw [dot_none w 0 (cls12 h1 (.inl rfl)).1] at hd; omega
        · exact .inl ⟨e, h1⟩
        · rw [dot_none w 0 (cls12 h1 (.inr rfl)).1] at hd; omega
        · exact .inr ⟨e, h1⟩
      obtain ⟨k, hk', hk3⟩ : ∃ k, (k = 3 ∨ k = 4) ∧ classT w = k := by
        rcases hcl with ⟨_, e⟩ | ⟨_, e⟩
        · exact ⟨3, .inl rfl, e⟩
        · exact ⟨4, .inr rfl, e⟩
      obtain ⟨b1, b2, b3⟩ := cls34 hk3 hk'
      have hdn : (dotK w 0).toNat = spanN wordB w := by rw [dot_at w 0 b1 b2]; omega
      rw [hdn] at a0 a1 a2 a5 a6
      rw [hdn]
      have hnm : t'.text = w.take (spanN wordB w) := by
        rcases namedK_range (w.take (spanN wordB w)) p 0 with e | ⟨k2, t2, e1, e2, e3, _⟩
        · omega
        · have : k2 = i := by omega
          subst this
          rw [a3] at e2; injection e2 with e2; subst e2; exact e3
      have hwd := take_dot w _ b1 b2
      rw [← hnm, ← a5] at hwd
      obtain ⟨hk1, hs1⟩ := progK_get hpr a3
      have hkw := kid_word hk1 hs1 a4
      have hfirst : u'.text.getD 0 0 = w.getD (spanN wordB w + 1) 0 := by rw [a5]; simp [List.getD_eq_getElem?_getD]
      refine ⟨j, i, d, t, u, t', u', hj, hat, rfl, a1, a2, a3, a4, .inr (hwe ▸ hwd), ?_, fun v y hv hy => by rw [a5]; exact a6 v y hv hy⟩
      rcases hkw with ⟨c1, c2⟩ | ⟨c1, c2⟩
      · have c3 := (cls12 c2 (.inl rfl)).2.1 rfl
        rw [hfirst] at c3
        have := b3.2 c3
        rcases hcl with ⟨e1, e2⟩ | ⟨e1, e2⟩
        · simp [e1, c1]
        · omega
      · have c3 : ¬ lowerB (u'.text.getD 0 0) = true := fun e => by have := (cls12 c2 (.inr rfl)).2.2 e; omega
        rw [hfirst] at c3
        rcases hcl with ⟨e1, e2⟩ | ⟨e1, e2⟩
        · exact absurd (b3.1 (by omega)) c3
        · simp [e1, c1]
    · rename_i hd
      rw [if_neg hd]
      obtain ⟨i, d, t', u', a0, a1, a2, a3, a4, a5, a6⟩ := inK_ok hf
      have hcl : (u.kind = 16 ∧ classT w = 1) ∨ (u.kind = 9 ∧ classT w = 2) := by
        rcases hw with ⟨e, h1 | h1⟩ | ⟨e, h1 | h1⟩
        · exact .inl ⟨e, h1⟩
        · obtain ⟨b1, b2, _⟩ := cls34 h1 (.inl rfl)
          rw [dot_at w 0 b1 b2] at hd; omega
        · exact .inr ⟨e, h1⟩
        · obtain ⟨b1, b2, _⟩ := cls34 h1 (.inr rfl)
          rw [dot_at w 0 b1 b2] at hd; omega
      obtain ⟨hk1, hs1⟩ := progK_get hpr a3
      have hkw := kid_word hk1 hs1 a4
      rw [a5] at hkw
      refine ⟨j, i, d, t, u, t', u', hj, hat, rfl, a1, a2, a3, a4, .inl ⟨by rw [a5, hwe], by omega⟩, ?_, fun v y hv hy => by rw [a5]; exact a6 v y hv hy⟩
      rcases hkw with ⟨c1, c2⟩ | ⟨c1, c2⟩ <;> rcases hcl with ⟨e1, e2⟩ | ⟨e1, e2⟩
      · simp [c1, e1]
      · omega
      · omega
      · simp [c1, e1]
  · cases h
theorem c_LinkFirst (l : List Int) : S_semvcslaw06_LinkFirst l true := by
  refine Classical.byCases (fun h : ((l.length : Nat) : Int) ≤ 120 => ?_) (fun h => rS_semvcslaw06_LinkFirst 0 _ _ ⟨_, c_Light l, fun _ => ⟨_, c_awake6, rfl⟩, fun h' => absurd (of_decide_eq_true h') h⟩)
  obtain ⟨p, h1, h2⟩ := c_Program l (by omega)
  have hlen := kbulk_len p
  have hTl := targetsK_len p
  have hok := fun x (hx : x ∈ targetsK p) => first_ok hx
  have ht := c_Targets p (by omega)
  have hpl : ∀ x ∈ targetsK p, x.Use.Path.length ≤ 1000000000 := fun x hx => by
    unfold targetsK at hx
    split at hx
    · obtain ⟨j, t, q, u, hj, hq, _, rfl⟩ := targK_all hx
      have := nodK_bnd t [] _ hq
      have := kbulk_get hj
      simp only [tgK, List.length_nil] at *; omega
    · cases hx
  obtain ⟨T, hT⟩ : ∃ T, T = targetsK p := ⟨_, rfl⟩
  rw [← hT] at hTl hok ht hpl
  have loop : ∀ (k x : Nat), T.length - x ≤ k → ∃ m, L0_semvcslaw06_LinkFirst m p T x true := fun k => by
    have fin : ∀ x, ¬ x < T.length → ∃ m, L0_semvcslaw06_LinkFirst m p T x true := fun x hx => ⟨1, rL0_semvcslaw06_LinkFirst 0 _ _ _ _ ⟨fun h => absurd h hx, fun _ => ⟨_, c_awake6, rfl⟩⟩⟩
    induction k with
    | zero => intro x hx; exact fin x (by omega)
    | succ k ih =>
      intro x hx
      obtain ⟨v, hv, hlt⟩ | h' := get_or T x
      rotate_left
      · exact fin x h'
      · obtain ⟨m0, hm0⟩ := ih (x + 1) (by omega)
        cases hf : v.Free with
        | true => exact ⟨m0 + 1, rL0_semvcslaw06_LinkFirst m0 _ _ _ _ ⟨fun _ => ⟨v, hv, fun _ => hm0, fun h => (by rw [hf] at h; cases h)⟩, fun h => absurd hlt h⟩⟩
        | false =>
          have hmem := List.mem_of_getElem? hv
          obtain ⟨j, i, d, t, u, t', u', a1, a2, a3, a4, a5, a6, a7, a8, a9, a10⟩ := hok v hmem hf
          have hd := (List.getElem?_eq_some_iff.1 a7).1
          have hi := (List.getElem?_eq_some_iff.1 a6).1
          have hb1 := kbulk_get a6
          have hb2 := text_len t'
          have hb3 := tbulk_kid a7
          have hb4 := text_len u'
          have hb5 := kids_len t'
          have l2 : ∀ (n y : Nat), d - y ≤ n → ∃ m, L2_semvcslaw06_LinkFirst m p T u' y x true := fun n => by
            have fin2 : ∀ y, ¬ y < d → ∃ m, L2_semvcslaw06_LinkFirst m p T u' y x true := fun y hy => ⟨m0 + 1, rL2_semvcslaw06_LinkFirst m0 _ _ _ _ _ _ ⟨v, hv, fun h => by omega, fun _ => ⟨by omega, hm0⟩⟩⟩
            induction n with
            | zero => intro y hy; exact fin2 y (by omega)
            | succ n ihn =>
              intro y hy
              by_cases hyd : y < d
              · obtain ⟨m, hm⟩ := ihn (y + 1) (by omega)
                obtain ⟨z, hz, _⟩ | h' := get_or t'.kids y
                · exact ⟨m + 1, rL2_semvcslaw06_LinkFirst m _ _ _ _ _ _ ⟨v, hv, fun _ => ⟨v, hv, i, a4, t', a6, z, hz, fun h => absurd h (a10 y z hyd hz), fun _ => ⟨by omega, hm⟩⟩, fun h => by omega⟩⟩
                · omega
              · exact fin2 y hyd
          obtain ⟨m, hm⟩ := l2 d 0 (by omega)
          have hat := c_At t v.Use.Path (hpl v hmem)
          rw [a2] at hat
          refine ⟨m + 2, rL0_semvcslaw06_LinkFirst (m + 1) _ _ _ _ ⟨fun _ => ⟨v, hv, fun h => (by rw [hf] at h; cases h), fun _ => ⟨v, hv, fun h => by omega, fun _ => ⟨v, hv, fun h => by omega, fun _ => ⟨v, hv, fun h => by omega, fun _ => ⟨v, hv, v, hv, i, a4, t', a6, fun h => by omega, fun _ => ⟨v, hv, j, a3, t, a1, v, hv, _, _, hat, ?_⟩⟩⟩⟩⟩⟩, fun h => absurd hlt h⟩⟩
          simp only [Option.getD_some]
          refine rL1_semvcslaw06_LinkFirst m _ _ _ _ _ ⟨v, hv, i, a4, t', a6, v, hv, d, a5, u', a7, fun hne => ⟨v, hv, i, a4, t', a6, by simp only [List.length_cons, List.length_nil]; omega, by simp only [List.length_append, List.length_cons, List.length_nil]; omega, fun h => ?_, fun _ => ⟨fun h => absurd a9 h, fun _ => hm⟩⟩, fun he => ⟨v, hv, v, hv, fun h => ?_, fun _ => ⟨fun h => absurd a9 h, fun _ => hm⟩⟩⟩
          · rcases a8 with ⟨e, _⟩ | e
            · exact absurd e hne
            · exact absurd e h
          · rcases a8 with ⟨_, e⟩ | e
            · exact absurd (by rw [a3, a4, e]) h
            · rw [he] at e
              have := congrArg List.length e
              simp only [List.length_append, List.length_cons, List.length_nil] at this
              omega
  obtain ⟨m, hm⟩ := loop T.length 0 (by omega)
  exact rS_semvcslaw06_LinkFirst m _ _ ⟨_, c_Light l, fun h' => absurd h (of_decide_eq_false h'), fun _ => ⟨p, h1, T, ht, hm⟩⟩
end Go.Proofs.YteglbnopdedadaaGreat
namespace Go.Proofs.YteglbnopdedadaaGreat
open Go.RowKit Go.ChangeShapes Go.WideShapes Go.Deep
theorem cellsIntO : Tryz.prog.cellsOf 3 = 1 := by kernel_rfl
theorem open_intRow {H : Type} {enc : TypeId × Value → H} {W : World} {a0 : Option Addr} {len cap : Nat} {d : DataW H} {p : List MemPlace} (h : DataW.Trod enc Tryz.prog W 0 (fun _ => true) true 22 (.slice a0 len cap) d p) :
    ∃ zs : List Int, len = zs.length ∧ len ≤ cap ∧ cap ≤ maxLen ∧ RowIn Any W 1 a0 zs.length (zs.map fun z => .int .i64 z) := by
  obtain ⟨fuel, hf⟩ := h
  rcases open_ints Tryz.underlying22 Tryz.underlying3 cellsIntO hf with ⟨hcs, hx⟩ | ⟨a, len', cap', zs, hcs, hb, hl, hm, hlen, hx, hcell, hwf⟩
  · simp [Value.cells] at hcs
    obtain ⟨rfl, rfl, rfl⟩ := hcs
    exact ⟨[], rfl, Nat.le_refl _, Nat.zero_le _, RowIn.none_⟩
  · simp [Value.cells] at hcs
    obtain ⟨rfl, rfl, rfl⟩ := hcs
    simp only [if_true] at hlen
    have hlt : (zs.take len).length = len := by simp; omega
    refine ⟨zs.take len, hlt.symm, hl, hm, by simp, fun h0 => ?_⟩
    rw [hlt] at h0 ⊢
    have hs : a.spot = none := World.cell?_spot (a := a) (by have := hcell 0 (by omega); simpa [Addr.add] using this)
    obtain ⟨b, off, spot⟩ := a
    simp only at hs
    subst hs
    have hadd : ∀ k, (⟨b, off, none⟩ : Addr).add k = ⟨b, off + k, none⟩ := fun k => by unfold Addr.add; split <;> simp_all
    refine ⟨b, off, rfl, trivial, ?_, fun j hj => ?_⟩
    · have := hcell 0 (by omega)
      exact World.block_lt_of_cell? W ⟨b, off, none⟩ (by simpa [Addr.add] using this)
    · have hj' : j < len := by omega
      have := hcell j (by omega)
      rw [hadd] at this
      rw [this]
      simp [hj', List.getD_eq_getElem?_getD, show j < zs.length from by omega]
end Go.Proofs.YteglbnopdedadaaGreat
