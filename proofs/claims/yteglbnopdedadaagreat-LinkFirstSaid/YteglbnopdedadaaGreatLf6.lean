/- Contracts of the functions that the law reaches, part 6. -/
import Derived.Test.YteglbnopdedadaaGreatLf5
set_option linter.unusedVariables false
set_option linter.unusedSimpArgs false
namespace Go.Proofs.YteglbnopdedadaaGreat
open Go.RowKit Lx Sx
set_option maxHeartbeats 1000000
theorem c_FusesR (a b : List UInt8) (ha : a.length ≤ 140737488355328) (hb : b.length ≤ 140737488355328) : S_semvcsref01_Fuses a b (fusesT a b) := sum0_calls rfl rfl fun S w ρ xs hx => by
  simp only [LRel] at hx
  obtain ⟨x, ys, rfl, h1, y, zs, rfl, h2, rfl⟩ := hx
  simp only [VRel] at h1 h2; subst h1 h2
  exact (fusesR a b w ha hb).mono fun e w' ⟨h1, h2⟩ => ⟨_, h1, by simp only [VRel], chg_ext h2⟩
theorem c_TriviaR (a : List UInt8) (f : Bool) (ha : a.length ≤ 140737488351232) : S_semvcsref01_Trivia a f (triviaT false a f) := sum0_calls rfl rfl fun S w ρ xs hx => by
  simp only [LRel] at hx
  obtain ⟨x, ys, rfl, h1, y, zs, rfl, h2, rfl⟩ := hx
  simp only [VRel] at h1 h2; subst h1 h2
  exact (triviaR a f w (by omega)).mono fun e w' ⟨h1, h2⟩ => ⟨_, h1, by simp only [VRel], h2 ▸ Chg.refl _ _⟩
abbrev Pce := GSemvcsref02Piece
def Qp (l : List Pce) : Prop := ∀ x ∈ l, x.Lead.length ≤ 1000000 ∧ x.Text.length ≤ 1000010
theorem Qp_app {a b : List Pce} : Qp (a ++ b) ↔ Qp a ∧ Qp b := ⟨fun h => ⟨fun x hx => h x (by simp [hx]), fun x hx => h x (by simp [hx])⟩, fun h x hx => by rcases List.mem_append.1 hx with h1 | h1; exact h.1 x h1; exact h.2 x h1⟩
theorem Qp_cons {x : Pce} {a : List Pce} : Qp (x :: a) ↔ (x.Lead.length ≤ 1000000 ∧ x.Text.length ≤ 1000010) ∧ Qp a := ⟨fun h => ⟨h x (by simp), fun y hy => h y (by simp [hy])⟩, fun h y hy => by rcases List.mem_cons.1 hy with h1 | h1; subst h1; exact h.1; exact h.2 y h1⟩
theorem Qp_nil : Qp [] := fun x hx => by cases hx
theorem c_lead {t : Tree} (k : Nat) (ht : tbulk t ≤ 1000000) : ∃ s, S_semvcsref02_lead t (k : Int) s ∧ s.length ≤ 1000000 := by
  by_cases h : (k : Int) < (t.leads.length : Nat)
  · obtain ⟨s, hs, _⟩ | h' := get_or t.leads k
    · have := lsum_get hs
      have := tbulk_eq t
      exact ⟨s, rS_semvcsref02_lead 0 _ _ _ ⟨fun _ => ⟨k, rfl, s, hs, rfl⟩, fun h' => absurd h h'⟩, by omega⟩
    · omega
  · exact ⟨[], rS_semvcsref02_lead 0 _ _ _ ⟨fun h' => absurd h' h, fun _ => rfl⟩, by simp⟩
def Pok (t : Tree) : Prop := ∀ l, l.length + 8 * tbulk t ≤ 900000000 → ∃ r, S_semvcsref02_pieces l t r ∧ r.length + 1 ≤ l.length + 8 * tbulk t ∧ (Qp l → Qp r)
theorem shapeKs_get {k n : Int} : ∀ {l : List Tree} {i : Nat}, shapeKs k n i l = true → ∀ j u, l[j]? = some u → suitK k n ((i + j : Nat) : Int) u.kind = true ∧ shapeK u = true
  | [], _, _, j, u, h => by simp at h
  | t :: r, i, hs, 0, u, h => by
    simp only [shapeKs, Bool.and_eq_true] at hs
    simp at h; subst h
    exact ⟨hs.1.1, hs.1.2⟩
  | t :: r, i, hs, j + 1, u, h => by
    simp only [shapeKs, Bool.and_eq_true] at hs
    have := shapeKs_get hs.2 j u (by simpa using h)
    rw [show i + 1 + j = i + (j + 1) by omega] at this
    exact this
theorem shape_kid {t u : Tree} {i : Nat} (hs : shapeK t = true) (hu : t.kids[i]? = some u) : shapeK u = true ∧ suitK t.kind t.kids.length i u.kind = true := by
  rw [shapeK_eq] at hs
  simp only [Bool.and_eq_true] at hs
  have := shapeKs_get hs.2 i u hu
  rw [Nat.zero_add] at this
  exact ⟨this.2, this.1⟩
theorem shape_lds {t : Tree} (hs : shapeK t = true) : 0 ≤ ldsK t.kind t.kids.length := by
  rw [shapeK_eq] at hs
  simp only [Bool.and_eq_true, decide_eq_true_eq] at hs
  exact hs.1.1
theorem shape_kids {t : Tree} (hs : shapeK t = true) : (t.kind = 2 → 2 ≤ t.kids.length) ∧ (t.kind = 18 → 1 ≤ t.kids.length) ∧ (t.kind = 3 ∨ t.kind = 4 ∨ t.kind = 8 ∨ t.kind = 17 ∨ t.kind = 22 → t.kids.length = 1) ∧ (t.kind = 19 → t.kids.length = 3) ∧ (t.kind = 20 ∨ t.kind = 21 → t.kids.length = 2) := by
  have h := shape_lds hs
  refine ⟨fun hk => ?_, fun hk => ?_, fun hk => ?_, fun hk => ?_, fun hk => ?_⟩
  · rw [hk] at h; simp only [ldsK, f0] at h; simp at h; omega
  · rw [hk] at h; simp only [ldsK, f0] at h; simp at h; omega
  · rcases hk with hk | hk | hk | hk | hk <;> (rw [hk] at h; simp only [ldsK, f0] at h; simp at h; omega)
  · rw [hk] at h; simp only [ldsK, f0] at h; simp at h; omega
  · rcases hk with hk | hk <;> (rw [hk] at h; simp only [ldsK, f0] at h; simp at h; omega)
theorem p_5 {t : Tree} (hk : t.kind = 5) (ht : tbulk t ≤ 1000000) : Pok t := fun l hl => by
  obtain ⟨s1, g1, b1⟩ := c_lead 0 ht
  have htp := tbulk_pos t
  have M := 0
  refine ⟨l ++ [⟨s1, [73, 110, 116]⟩], ?_, by simp; omega, fun hq => by simp only [Qp_app, Qp_cons]; exact ⟨hq, ⟨b1, by decide⟩, Qp_nil⟩⟩
  exact rS_semvcsref02_pieces (M + 5) _ _ _ ⟨fun h => absurd (hk.symm.trans h) (by decide), fun _ => rL1_semvcsref02_pieces (M + 4) _ _ _ ⟨fun h => absurd (hk.symm.trans h) (by decide), fun _ => rL4_semvcsref02_pieces (M + 3) _ _ _ ⟨fun h => absurd (hk.symm.trans h) (by decide), fun _ => rL6_semvcsref02_pieces (M + 2) _ _ _ ⟨fun h => absurd (hk.symm.trans h) (by decide), fun _ => rL8_semvcsref02_pieces (M + 1) _ _ _ ⟨fun _ => ⟨_, g1, by simp; omega, rfl⟩, fun h => absurd hk h⟩⟩⟩⟩⟩
theorem p_6 {t : Tree} (hk : t.kind = 6) (ht : tbulk t ≤ 1000000) : Pok t := fun l hl => by
  obtain ⟨s1, g1, b1⟩ := c_lead 0 ht
  have htp := tbulk_pos t
  have M := 0
  refine ⟨l ++ [⟨s1, [84, 101, 120, 116]⟩], ?_, by simp; omega, fun hq => by simp only [Qp_app, Qp_cons]; exact ⟨hq, ⟨b1, by decide⟩, Qp_nil⟩⟩
  exact rS_semvcsref02_pieces (M + 6) _ _ _ ⟨fun h => absurd (hk.symm.trans h) (by decide), fun _ => rL1_semvcsref02_pieces (M + 5) _ _ _ ⟨fun h => absurd (hk.symm.trans h) (by decide), fun _ => rL4_semvcsref02_pieces (M + 4) _ _ _ ⟨fun h => absurd (hk.symm.trans h) (by decide), fun _ => rL6_semvcsref02_pieces (M + 3) _ _ _ ⟨fun h => absurd (hk.symm.trans h) (by decide), fun _ => rL8_semvcsref02_pieces (M + 2) _ _ _ ⟨fun h => absurd (hk.symm.trans h) (by decide), fun _ => rL9_semvcsref02_pieces (M + 1) _ _ _ ⟨fun _ => ⟨_, g1, by simp; omega, rfl⟩, fun h => absurd hk h⟩⟩⟩⟩⟩⟩
theorem p_7 {t : Tree} (hk : t.kind = 7) (ht : tbulk t ≤ 1000000) : Pok t := fun l hl => by
  obtain ⟨s1, g1, b1⟩ := c_lead 0 ht
  have htp := tbulk_pos t
  have M := 0
  refine ⟨l ++ [⟨s1, [66, 111, 111, 108]⟩], ?_, by simp; omega, fun hq => by simp only [Qp_app, Qp_cons]; exact ⟨hq, ⟨b1, by decide⟩, Qp_nil⟩⟩
  exact rS_semvcsref02_pieces (M + 7) _ _ _ ⟨fun h => absurd (hk.symm.trans h) (by decide), fun _ => rL1_semvcsref02_pieces (M + 6) _ _ _ ⟨fun h => absurd (hk.symm.trans h) (by decide), fun _ => rL4_semvcsref02_pieces (M + 5) _ _ _ ⟨fun h => absurd (hk.symm.trans h) (by decide), fun _ => rL6_semvcsref02_pieces (M + 4) _ _ _ ⟨fun h => absurd (hk.symm.trans h) (by decide), fun _ => rL8_semvcsref02_pieces (M + 3) _ _ _ ⟨fun h => absurd (hk.symm.trans h) (by decide), fun _ => rL9_semvcsref02_pieces (M + 2) _ _ _ ⟨fun h => absurd (hk.symm.trans h) (by decide), fun _ => rL10_semvcsref02_pieces (M + 1) _ _ _ ⟨fun _ => ⟨_, g1, by simp; omega, rfl⟩, fun h => absurd hk h⟩⟩⟩⟩⟩⟩⟩
theorem p_13 {t : Tree} (hk : t.kind = 13) (ht : tbulk t ≤ 1000000) : Pok t := fun l hl => by
  obtain ⟨s1, g1, b1⟩ := c_lead 0 ht
  have htp := tbulk_pos t
  have M := 0
  refine ⟨l ++ [⟨s1, [116, 114, 117, 101]⟩], ?_, by simp; omega, fun hq => by simp only [Qp_app, Qp_cons]; exact ⟨hq, ⟨b1, by decide⟩, Qp_nil⟩⟩
  exact rS_semvcsref02_pieces (M + 8) _ _ _ ⟨fun h => absurd (hk.symm.trans h) (by decide), fun _ => rL1_semvcsref02_pieces (M + 7) _ _ _ ⟨fun h => absurd (hk.symm.trans h) (by decide), fun _ => rL4_semvcsref02_pieces (M + 6) _ _ _ ⟨fun h => absurd (hk.symm.trans h) (by decide), fun _ => rL6_semvcsref02_pieces (M + 5) _ _ _ ⟨fun h => absurd (hk.symm.trans h) (by decide), fun _ => rL8_semvcsref02_pieces (M + 4) _ _ _ ⟨fun h => absurd (hk.symm.trans h) (by decide), fun _ => rL9_semvcsref02_pieces (M + 3) _ _ _ ⟨fun h => absurd (hk.symm.trans h) (by decide), fun _ => rL10_semvcsref02_pieces (M + 2) _ _ _ ⟨fun h => absurd (hk.symm.trans h) (by decide), fun _ => rL11_semvcsref02_pieces (M + 1) _ _ _ ⟨fun _ => ⟨_, g1, by simp; omega, rfl⟩, fun h => absurd hk h⟩⟩⟩⟩⟩⟩⟩⟩
theorem p_14 {t : Tree} (hk : t.kind = 14) (ht : tbulk t ≤ 1000000) : Pok t := fun l hl => by
  obtain ⟨s1, g1, b1⟩ := c_lead 0 ht
  have htp := tbulk_pos t
  have M := 0
  refine ⟨l ++ [⟨s1, [102, 97, 108, 115, 101]⟩], ?_, by simp; omega, fun hq => by simp only [Qp_app, Qp_cons]; exact ⟨hq, ⟨b1, by decide⟩, Qp_nil⟩⟩
  exact rS_semvcsref02_pieces (M + 9) _ _ _ ⟨fun h => absurd (hk.symm.trans h) (by decide), fun _ => rL1_semvcsref02_pieces (M + 8) _ _ _ ⟨fun h => absurd (hk.symm.trans h) (by decide), fun _ => rL4_semvcsref02_pieces (M + 7) _ _ _ ⟨fun h => absurd (hk.symm.trans h) (by decide), fun _ => rL6_semvcsref02_pieces (M + 6) _ _ _ ⟨fun h => absurd (hk.symm.trans h) (by decide), fun _ => rL8_semvcsref02_pieces (M + 5) _ _ _ ⟨fun h => absurd (hk.symm.trans h) (by decide), fun _ => rL9_semvcsref02_pieces (M + 4) _ _ _ ⟨fun h => absurd (hk.symm.trans h) (by decide), fun _ => rL10_semvcsref02_pieces (M + 3) _ _ _ ⟨fun h => absurd (hk.symm.trans h) (by decide), fun _ => rL11_semvcsref02_pieces (M + 2) _ _ _ ⟨fun h => absurd (hk.symm.trans h) (by decide), fun _ => rL12_semvcsref02_pieces (M + 1) _ _ _ ⟨fun _ => ⟨_, g1, by simp; omega, rfl⟩, fun h => absurd hk h⟩⟩⟩⟩⟩⟩⟩⟩⟩
theorem p_15 {t : Tree} (hk : t.kind = 15) (ht : tbulk t ≤ 1000000) : Pok t := fun l hl => by
  obtain ⟨s1, g1, b1⟩ := c_lead 0 ht
  have htp := tbulk_pos t
  have M := 0
  refine ⟨l ++ [⟨s1, [63]⟩], ?_, by simp; omega, fun hq => by simp only [Qp_app, Qp_cons]; exact ⟨hq, ⟨b1, by decide⟩, Qp_nil⟩⟩
  exact rS_semvcsref02_pieces (M + 10) _ _ _ ⟨fun h => absurd (hk.symm.trans h) (by decide), fun _ => rL1_semvcsref02_pieces (M + 9) _ _ _ ⟨fun h => absurd (hk.symm.trans h) (by decide), fun _ => rL4_semvcsref02_pieces (M + 8) _ _ _ ⟨fun h => absurd (hk.symm.trans h) (by decide), fun _ => rL6_semvcsref02_pieces (M + 7) _ _ _ ⟨fun h => absurd (hk.symm.trans h) (by decide), fun _ => rL8_semvcsref02_pieces (M + 6) _ _ _ ⟨fun h => absurd (hk.symm.trans h) (by decide), fun _ => rL9_semvcsref02_pieces (M + 5) _ _ _ ⟨fun h => absurd (hk.symm.trans h) (by decide), fun _ => rL10_semvcsref02_pieces (M + 4) _ _ _ ⟨fun h => absurd (hk.symm.trans h) (by decide), fun _ => rL11_semvcsref02_pieces (M + 3) _ _ _ ⟨fun h => absurd (hk.symm.trans h) (by decide), fun _ => rL12_semvcsref02_pieces (M + 2) _ _ _ ⟨fun h => absurd (hk.symm.trans h) (by decide), fun _ => rL13_semvcsref02_pieces (M + 1) _ _ _ ⟨fun _ => ⟨_, g1, by simp; omega, rfl⟩, fun h => absurd hk h⟩⟩⟩⟩⟩⟩⟩⟩⟩⟩
theorem kbulk_1 {l : List Tree} {u : Tree} (h0 : l[0]? = some u) : tbulk u ≤ kbulk l := kbulk_get h0
theorem kbulk_2 {l : List Tree} {u v : Tree} (h0 : l[0]? = some u) (h1 : l[1]? = some v) : tbulk u + tbulk v ≤ kbulk l := by
  match l, h0, h1 with
  | a :: r, h0, h1 => simp at h0; subst h0; have := kbulk_get (ks := r) (i := 0) (by simpa using h1); simp only [kbulk]; omega
theorem kbulk_3 {l : List Tree} {u v x : Tree} (h0 : l[0]? = some u) (h1 : l[1]? = some v) (h2 : l[2]? = some x) : tbulk u + tbulk v + tbulk x ≤ kbulk l := by
  match l, h0, h1, h2 with
  | a :: r, h0, h1, h2 => simp at h0; subst h0; have := kbulk_2 (l := r) (by simpa using h1) (by simpa using h2); simp only [kbulk]; omega
theorem p_3 {t : Tree} (hk : t.kind = 3) (hs : shapeK t = true) (ht : tbulk t ≤ 1000000) (ih : ∀ (i : Nat) (u : Tree), t.kids[i]? = some u → Pok u) : Pok t := fun l hl => by
  have htp := tbulk_pos t
  have htx := text_len t
  have hn := shape_kids hs
  have M := 0
  have hkn : t.kids.length = 1 := hn.2.2.1 (by simp [hk])
  obtain ⟨u0, hu0, _⟩ | h' := get_or t.kids 0
  rotate_left
  · omega
  have hsum : tbulk u0 + 1 ≤ tbulk t := by
    have hb := tbulk_eq t
    have hx := kbulk_1 hu0
    omega
  obtain ⟨s1, g1, b1⟩ := c_lead 0 ht
  obtain ⟨s2, g2, b2⟩ := c_lead 1 ht
  obtain ⟨s3, g3, b3⟩ := c_lead 2 ht
  have q1 : Qp l → Qp (l ++ [⟨s1, [116, 121, 112, 101]⟩, ⟨s2, t.text⟩, ⟨s3, [61]⟩]) := fun hq => by simp only [Qp_app, Qp_cons]; exact ⟨hq, ⟨b1, by decide⟩, ⟨b2, by omega⟩, ⟨b3, by decide⟩, Qp_nil⟩
  obtain ⟨r0, e0, z0, y0⟩ := ih 0 u0 hu0 (l ++ [⟨s1, [116, 121, 112, 101]⟩, ⟨s2, t.text⟩, ⟨s3, [61]⟩]) (by first | omega | (simp only [List.length_append, List.length_cons, List.length_nil]; omega))
  try simp only [List.length_append, List.length_cons, List.length_nil] at z0
  refine ⟨r0, ?_, by first | omega | (simp only [List.length_append, List.length_cons, List.length_nil]; omega), fun hq => (y0 (q1 hq))⟩
  exact rS_semvcsref02_pieces (M + 3) _ _ _ ⟨fun h => absurd (hk.symm.trans h) (by decide), fun _ => rL1_semvcsref02_pieces (M + 2) _ _ _ ⟨fun h => absurd (hk.symm.trans h) (by decide), fun _ => rL4_semvcsref02_pieces (M + 1) _ _ _ ⟨fun _ => rL5_semvcsref02_pieces (M) _ _ _ ⟨_, g1, _, g2, _, g3, by simp; omega, u0, hu0, _, e0, rfl⟩, fun h => absurd hk h⟩⟩⟩
theorem p_4 {t : Tree} (hk : t.kind = 4) (hs : shapeK t = true) (ht : tbulk t ≤ 1000000) (ih : ∀ (i : Nat) (u : Tree), t.kids[i]? = some u → Pok u) : Pok t := fun l hl => by
  have htp := tbulk_pos t
  have htx := text_len t
  have hn := shape_kids hs
  have M := 0
  have hkn : t.kids.length = 1 := hn.2.2.1 (by simp [hk])
  obtain ⟨u0, hu0, _⟩ | h' := get_or t.kids 0
  rotate_left
  · omega
  have hsum : tbulk u0 + 1 ≤ tbulk t := by
    have hb := tbulk_eq t
    have hx := kbulk_1 hu0
    omega
  obtain ⟨s1, g1, b1⟩ := c_lead 0 ht
  obtain ⟨s2, g2, b2⟩ := c_lead 1 ht
  have q1 : Qp l → Qp (l ++ [⟨s1, t.text⟩, ⟨s2, [58]⟩]) := fun hq => by simp only [Qp_app, Qp_cons]; exact ⟨hq, ⟨b1, by omega⟩, ⟨b2, by decide⟩, Qp_nil⟩
  obtain ⟨r0, e0, z0, y0⟩ := ih 0 u0 hu0 (l ++ [⟨s1, t.text⟩, ⟨s2, [58]⟩]) (by first | omega | (simp only [List.length_append, List.length_cons, List.length_nil]; omega))
  try simp only [List.length_append, List.length_cons, List.length_nil] at z0
  refine ⟨r0, ?_, by first | omega | (simp only [List.length_append, List.length_cons, List.length_nil]; omega), fun hq => (y0 (q1 hq))⟩
  exact rS_semvcsref02_pieces (M + 4) _ _ _ ⟨fun h => absurd (hk.symm.trans h) (by decide), fun _ => rL1_semvcsref02_pieces (M + 3) _ _ _ ⟨fun h => absurd (hk.symm.trans h) (by decide), fun _ => rL4_semvcsref02_pieces (M + 2) _ _ _ ⟨fun h => absurd (hk.symm.trans h) (by decide), fun _ => rL6_semvcsref02_pieces (M + 1) _ _ _ ⟨fun _ => rL7_semvcsref02_pieces (M) _ _ _ ⟨_, g1, _, g2, by simp; omega, u0, hu0, _, e0, rfl⟩, fun h => absurd hk h⟩⟩⟩⟩
theorem p_8 {t : Tree} (hk : t.kind = 8) (hs : shapeK t = true) (ht : tbulk t ≤ 1000000) (ih : ∀ (i : Nat) (u : Tree), t.kids[i]? = some u → Pok u) : Pok t := fun l hl => by
  have htp := tbulk_pos t
  have htx := text_len t
  have hn := shape_kids hs
  have M := 0
  have hkn : t.kids.length = 1 := hn.2.2.1 (by simp [hk])
  obtain ⟨u0, hu0, _⟩ | h' := get_or t.kids 0
  rotate_left
  · omega
  have hsum : tbulk u0 + 1 ≤ tbulk t := by
    have hb := tbulk_eq t
    have hx := kbulk_1 hu0
    omega
  obtain ⟨s1, g1, b1⟩ := c_lead 0 ht
  have q1 : Qp l → Qp (l ++ [⟨s1, [91]⟩]) := fun hq => by simp only [Qp_app, Qp_cons]; exact ⟨hq, ⟨b1, by decide⟩, Qp_nil⟩
  obtain ⟨r0, e0, z0, y0⟩ := ih 0 u0 hu0 (l ++ [⟨s1, [91]⟩]) (by first | omega | (simp only [List.length_append, List.length_cons, List.length_nil]; omega))
  try simp only [List.length_append, List.length_cons, List.length_nil] at z0
  obtain ⟨s2, g2, b2⟩ := c_lead 1 ht
  have q3 : Qp r0 → Qp (r0 ++ [⟨s2, [93]⟩]) := fun hq => by simp only [Qp_app, Qp_cons]; exact ⟨hq, ⟨b2, by decide⟩, Qp_nil⟩
  refine ⟨(r0 ++ [⟨s2, [93]⟩]), ?_, by first | omega | (simp only [List.length_append, List.length_cons, List.length_nil]; omega), fun hq => (q3 (y0 (q1 hq)))⟩
  exact rS_semvcsref02_pieces (M + 11) _ _ _ ⟨fun h => absurd (hk.symm.trans h) (by decide), fun _ => rL1_semvcsref02_pieces (M + 10) _ _ _ ⟨fun h => absurd (hk.symm.trans h) (by decide), fun _ => rL4_semvcsref02_pieces (M + 9) _ _ _ ⟨fun h => absurd (hk.symm.trans h) (by decide), fun _ => rL6_semvcsref02_pieces (M + 8) _ _ _ ⟨fun h => absurd (hk.symm.trans h) (by decide), fun _ => rL8_semvcsref02_pieces (M + 7) _ _ _ ⟨fun h => absurd (hk.symm.trans h) (by decide), fun _ => rL9_semvcsref02_pieces (M + 6) _ _ _ ⟨fun h => absurd (hk.symm.trans h) (by decide), fun _ => rL10_semvcsref02_pieces (M + 5) _ _ _ ⟨fun h => absurd (hk.symm.trans h) (by decide), fun _ => rL11_semvcsref02_pieces (M + 4) _ _ _ ⟨fun h => absurd (hk.symm.trans h) (by decide), fun _ => rL12_semvcsref02_pieces (M + 3) _ _ _ ⟨fun h => absurd (hk.symm.trans h) (by decide), fun _ => rL13_semvcsref02_pieces (M + 2) _ _ _ ⟨fun h => absurd (hk.symm.trans h) (by decide), fun _ => rL14_semvcsref02_pieces (M + 1) _ _ _ ⟨fun _ => rL15_semvcsref02_pieces (M) _ _ _ ⟨_, g1, by simp; omega, u0, hu0, _, e0, _, g2, by simp; omega, rfl⟩, fun h => absurd hk h⟩⟩⟩⟩⟩⟩⟩⟩⟩⟩⟩
theorem p_17 {t : Tree} (hk : t.kind = 17) (hs : shapeK t = true) (ht : tbulk t ≤ 1000000) (ih : ∀ (i : Nat) (u : Tree), t.kids[i]? = some u → Pok u) : Pok t := fun l hl => by
  have htp := tbulk_pos t
  have htx := text_len t
  have hn := shape_kids hs
  have M := 0
  have hkn : t.kids.length = 1 := hn.2.2.1 (by simp [hk])
  obtain ⟨u0, hu0, _⟩ | h' := get_or t.kids 0
  rotate_left
  · omega
  have hsum : tbulk u0 + 1 ≤ tbulk t := by
    have hb := tbulk_eq t
    have hx := kbulk_1 hu0
    omega
  obtain ⟨r0, e0, z0, y0⟩ := ih 0 u0 hu0 l (by first | omega | (simp only [List.length_append, List.length_cons, List.length_nil]; omega))
  try simp only [List.length_append, List.length_cons, List.length_nil] at z0
  refine ⟨r0, ?_, by first | omega | (simp only [List.length_append, List.length_cons, List.length_nil]; omega), fun hq => (y0 hq)⟩
  exact rS_semvcsref02_pieces (M + 13) _ _ _ ⟨fun h => absurd (hk.symm.trans h) (by decide), fun _ => rL1_semvcsref02_pieces (M + 12) _ _ _ ⟨fun h => absurd (hk.symm.trans h) (by decide), fun _ => rL4_semvcsref02_pieces (M + 11) _ _ _ ⟨fun h => absurd (hk.symm.trans h) (by decide), fun _ => rL6_semvcsref02_pieces (M + 10) _ _ _ ⟨fun h => absurd (hk.symm.trans h) (by decide), fun _ => rL8_semvcsref02_pieces (M + 9) _ _ _ ⟨fun h => absurd (hk.symm.trans h) (by decide), fun _ => rL9_semvcsref02_pieces (M + 8) _ _ _ ⟨fun h => absurd (hk.symm.trans h) (by decide), fun _ => rL10_semvcsref02_pieces (M + 7) _ _ _ ⟨fun h => absurd (hk.symm.trans h) (by decide), fun _ => rL11_semvcsref02_pieces (M + 6) _ _ _ ⟨fun h => absurd (hk.symm.trans h) (by decide), fun _ => rL12_semvcsref02_pieces (M + 5) _ _ _ ⟨fun h => absurd (hk.symm.trans h) (by decide), fun _ => rL13_semvcsref02_pieces (M + 4) _ _ _ ⟨fun h => absurd (hk.symm.trans h) (by decide), fun _ => rL14_semvcsref02_pieces (M + 3) _ _ _ ⟨fun h => absurd (hk.symm.trans h) (by decide), fun _ => rL16_semvcsref02_pieces (M + 2) _ _ _ ⟨fun h => absurd (hk.symm.trans h) (by decide), fun _ => rL18_semvcsref02_pieces (M + 1) _ _ _ ⟨fun _ => ⟨u0, hu0, _, e0, rfl⟩, fun h => absurd hk h⟩⟩⟩⟩⟩⟩⟩⟩⟩⟩⟩⟩⟩
theorem p_19 {t : Tree} (hk : t.kind = 19) (hs : shapeK t = true) (ht : tbulk t ≤ 1000000) (ih : ∀ (i : Nat) (u : Tree), t.kids[i]? = some u → Pok u) : Pok t := fun l hl => by
  have htp := tbulk_pos t
  have htx := text_len t
  have hn := shape_kids hs
  have M := 0
  have hkn : t.kids.length = 3 := hn.2.2.2.1 hk
  obtain ⟨u0, hu0, _⟩ | h' := get_or t.kids 0
  rotate_left
  · omega
  obtain ⟨u1, hu1, _⟩ | h' := get_or t.kids 1
  rotate_left
  · omega
  obtain ⟨u2, hu2, _⟩ | h' := get_or t.kids 2
  rotate_left
  · omega
  have hsum : tbulk u0 + tbulk u1 + tbulk u2 + 1 ≤ tbulk t := by
    have hb := tbulk_eq t
    have hx := kbulk_3 hu0 hu1 hu2
    omega
  obtain ⟨s1, g1, b1⟩ := c_lead 0 ht
  have q1 : Qp l → Qp (l ++ [⟨s1, [105, 102]⟩]) := fun hq => by simp only [Qp_app, Qp_cons]; exact ⟨hq, ⟨b1, by decide⟩, Qp_nil⟩
  obtain ⟨r0, e0, z0, y0⟩ := ih 0 u0 hu0 (l ++ [⟨s1, [105, 102]⟩]) (by first | omega | (simp only [List.length_append, List.length_cons, List.length_nil]; omega))
  try simp only [List.length_append, List.length_cons, List.length_nil] at z0
  obtain ⟨s2, g2, b2⟩ := c_lead 1 ht
  have q3 : Qp r0 → Qp (r0 ++ [⟨s2, [116, 104, 101, 110]⟩]) := fun hq => by simp only [Qp_app, Qp_cons]; exact ⟨hq, ⟨b2, by decide⟩, Qp_nil⟩
  obtain ⟨r1, e1, z1, y1⟩ := ih 1 u1 hu1 (r0 ++ [⟨s2, [116, 104, 101, 110]⟩]) (by first | omega | (simp only [List.length_append, List.length_cons, List.length_nil]; omega))
  try simp only [List.length_append, List.length_cons, List.length_nil] at z1
  obtain ⟨s3, g3, b3⟩ := c_lead 2 ht
  have q5 : Qp r1 → Qp (r1 ++ [⟨s3, [101, 108, 115, 101]⟩]) := fun hq => by simp only [Qp_app, Qp_cons]; exact ⟨hq, ⟨b3, by decide⟩, Qp_nil⟩
  obtain ⟨r2, e2, z2, y2⟩ := ih 2 u2 hu2 (r1 ++ [⟨s3, [101, 108, 115, 101]⟩]) (by first | omega | (simp only [List.length_append, List.length_cons, List.length_nil]; omega))
  try simp only [List.length_append, List.length_cons, List.length_nil] at z2
  refine ⟨r2, ?_, by first | omega | (simp only [List.length_append, List.length_cons, List.length_nil]; omega), fun hq => (y2 (q5 (y1 (q3 (y0 (q1 hq))))))⟩
  exact rS_semvcsref02_pieces (M + 15) _ _ _ ⟨fun h => absurd (hk.symm.trans h) (by decide), fun _ => rL1_semvcsref02_pieces (M + 14) _ _ _ ⟨fun h => absurd (hk.symm.trans h) (by decide), fun _ => rL4_semvcsref02_pieces (M + 13) _ _ _ ⟨fun h => absurd (hk.symm.trans h) (by decide), fun _ => rL6_semvcsref02_pieces (M + 12) _ _ _ ⟨fun h => absurd (hk.symm.trans h) (by decide), fun _ => rL8_semvcsref02_pieces (M + 11) _ _ _ ⟨fun h => absurd (hk.symm.trans h) (by decide), fun _ => rL9_semvcsref02_pieces (M + 10) _ _ _ ⟨fun h => absurd (hk.symm.trans h) (by decide), fun _ => rL10_semvcsref02_pieces (M + 9) _ _ _ ⟨fun h => absurd (hk.symm.trans h) (by decide), fun _ => rL11_semvcsref02_pieces (M + 8) _ _ _ ⟨fun h => absurd (hk.symm.trans h) (by decide), fun _ => rL12_semvcsref02_pieces (M + 7) _ _ _ ⟨fun h => absurd (hk.symm.trans h) (by decide), fun _ => rL13_semvcsref02_pieces (M + 6) _ _ _ ⟨fun h => absurd (hk.symm.trans h) (by decide), fun _ => rL14_semvcsref02_pieces (M + 5) _ _ _ ⟨fun h => absurd (hk.symm.trans h) (by decide), fun _ => rL16_semvcsref02_pieces (M + 4) _ _ _ ⟨fun h => absurd (hk.symm.trans h) (by decide), fun _ => rL18_semvcsref02_pieces (M + 3) _ _ _ ⟨fun h => absurd (hk.symm.trans h) (by decide), fun _ => rL19_semvcsref02_pieces (M + 2) _ _ _ ⟨fun h => absurd (hk.symm.trans h) (by decide), fun _ => rL21_semvcsref02_pieces (M + 1) _ _ _ ⟨fun _ => rL22_semvcsref02_pieces (M) _ _ _ ⟨u0, hu0, _, g1, by simp; omega, _, e0, u1, hu1, _, g2, by simp; omega, _, e1, u2, hu2, _, g3, by simp; omega, _, e2, rfl⟩, fun h => absurd hk h⟩⟩⟩⟩⟩⟩⟩⟩⟩⟩⟩⟩⟩⟩⟩
theorem p_20 {t : Tree} (hk : t.kind = 20) (hs : shapeK t = true) (ht : tbulk t ≤ 1000000) (ih : ∀ (i : Nat) (u : Tree), t.kids[i]? = some u → Pok u) : Pok t := fun l hl => by
  have htp := tbulk_pos t
  have htx := text_len t
  have hn := shape_kids hs
  have M := 0
  have hkn : t.kids.length = 2 := hn.2.2.2.2 (by simp [hk])
  obtain ⟨u0, hu0, _⟩ | h' := get_or t.kids 0
  rotate_left
  · omega
  obtain ⟨u1, hu1, _⟩ | h' := get_or t.kids 1
  rotate_left
  · omega
  have hsum : tbulk u0 + tbulk u1 + 1 ≤ tbulk t := by
    have hb := tbulk_eq t
    have hx := kbulk_2 hu0 hu1
    omega
  obtain ⟨s1, g1, b1⟩ := c_lead 0 ht
  obtain ⟨s2, g2, b2⟩ := c_lead 1 ht
  obtain ⟨s3, g3, b3⟩ := c_lead 2 ht
  have q1 : Qp l → Qp (l ++ [⟨s1, [108, 101, 116]⟩, ⟨s2, t.text⟩, ⟨s3, [61]⟩]) := fun hq => by simp only [Qp_app, Qp_cons]; exact ⟨hq, ⟨b1, by decide⟩, ⟨b2, by omega⟩, ⟨b3, by decide⟩, Qp_nil⟩
  obtain ⟨r0, e0, z0, y0⟩ := ih 0 u0 hu0 (l ++ [⟨s1, [108, 101, 116]⟩, ⟨s2, t.text⟩, ⟨s3, [61]⟩]) (by first | omega | (simp only [List.length_append, List.length_cons, List.length_nil]; omega))
  try simp only [List.length_append, List.length_cons, List.length_nil] at z0
  obtain ⟨s4, g4, b4⟩ := c_lead 3 ht
  have q3 : Qp r0 → Qp (r0 ++ [⟨s4, [105, 110]⟩]) := fun hq => by simp only [Qp_app, Qp_cons]; exact ⟨hq, ⟨b4, by decide⟩, Qp_nil⟩
  obtain ⟨r1, e1, z1, y1⟩ := ih 1 u1 hu1 (r0 ++ [⟨s4, [105, 110]⟩]) (by first | omega | (simp only [List.length_append, List.length_cons, List.length_nil]; omega))
  try simp only [List.length_append, List.length_cons, List.length_nil] at z1
  refine ⟨r1, ?_, by first | omega | (simp only [List.length_append, List.length_cons, List.length_nil]; omega), fun hq => (y1 (q3 (y0 (q1 hq))))⟩
  exact rS_semvcsref02_pieces (M + 16) _ _ _ ⟨fun h => absurd (hk.symm.trans h) (by decide), fun _ => rL1_semvcsref02_pieces (M + 15) _ _ _ ⟨fun h => absurd (hk.symm.trans h) (by decide), fun _ => rL4_semvcsref02_pieces (M + 14) _ _ _ ⟨fun h => absurd (hk.symm.trans h) (by decide), fun _ => rL6_semvcsref02_pieces (M + 13) _ _ _ ⟨fun h => absurd (hk.symm.trans h) (by decide), fun _ => rL8_semvcsref02_pieces (M + 12) _ _ _ ⟨fun h => absurd (hk.symm.trans h) (by decide), fun _ => rL9_semvcsref02_pieces (M + 11) _ _ _ ⟨fun h => absurd (hk.symm.trans h) (by decide), fun _ => rL10_semvcsref02_pieces (M + 10) _ _ _ ⟨fun h => absurd (hk.symm.trans h) (by decide), fun _ => rL11_semvcsref02_pieces (M + 9) _ _ _ ⟨fun h => absurd (hk.symm.trans h) (by decide), fun _ => rL12_semvcsref02_pieces (M + 8) _ _ _ ⟨fun h => absurd (hk.symm.trans h) (by decide), fun _ => rL13_semvcsref02_pieces (M + 7) _ _ _ ⟨fun h => absurd (hk.symm.trans h) (by decide), fun _ => rL14_semvcsref02_pieces (M + 6) _ _ _ ⟨fun h => absurd (hk.symm.trans h) (by decide), fun _ => rL16_semvcsref02_pieces (M + 5) _ _ _ ⟨fun h => absurd (hk.symm.trans h) (by decide), fun _ => rL18_semvcsref02_pieces (M + 4) _ _ _ ⟨fun h => absurd (hk.symm.trans h) (by decide), fun _ => rL19_semvcsref02_pieces (M + 3) _ _ _ ⟨fun h => absurd (hk.symm.trans h) (by decide), fun _ => rL21_semvcsref02_pieces (M + 2) _ _ _ ⟨fun h => absurd (hk.symm.trans h) (by decide), fun _ => rL23_semvcsref02_pieces (M + 1) _ _ _ ⟨fun _ => rL24_semvcsref02_pieces (M) _ _ _ ⟨_, g1, _, g2, _, g3, by simp; omega, u0, hu0, _, e0, _, g4, by simp; omega, u1, hu1, _, e1, rfl⟩, fun h => absurd hk h⟩⟩⟩⟩⟩⟩⟩⟩⟩⟩⟩⟩⟩⟩⟩⟩
theorem p_21 {t : Tree} (hk : t.kind = 21) (hs : shapeK t = true) (ht : tbulk t ≤ 1000000) (ih : ∀ (i : Nat) (u : Tree), t.kids[i]? = some u → Pok u) : Pok t := fun l hl => by
  have htp := tbulk_pos t
  have htx := text_len t
  have hn := shape_kids hs
  have M := 0
  have hkn : t.kids.length = 2 := hn.2.2.2.2 (by simp [hk])
  obtain ⟨u0, hu0, _⟩ | h' := get_or t.kids 0
  rotate_left
  · omega
  obtain ⟨u1, hu1, _⟩ | h' := get_or t.kids 1
  rotate_left
  · omega
  have hsum : tbulk u0 + tbulk u1 + 1 ≤ tbulk t := by
    have hb := tbulk_eq t
    have hx := kbulk_2 hu0 hu1
    omega
  obtain ⟨r0, e0, z0, y0⟩ := ih 0 u0 hu0 l (by first | omega | (simp only [List.length_append, List.length_cons, List.length_nil]; omega))
  try simp only [List.length_append, List.length_cons, List.length_nil] at z0
  obtain ⟨s1, g1, b1⟩ := c_lead 0 ht
  have q2 : Qp r0 → Qp (r0 ++ [⟨s1, t.text⟩]) := fun hq => by simp only [Qp_app, Qp_cons]; exact ⟨hq, ⟨b1, by omega⟩, Qp_nil⟩
  obtain ⟨r1, e1, z1, y1⟩ := ih 1 u1 hu1 (r0 ++ [⟨s1, t.text⟩]) (by first | omega | (simp only [List.length_append, List.length_cons, List.length_nil]; omega))
  try simp only [List.length_append, List.length_cons, List.length_nil] at z1
  refine ⟨r1, ?_, by first | omega | (simp only [List.length_append, List.length_cons, List.length_nil]; omega), fun hq => (y1 (q2 (y0 hq)))⟩
  exact rS_semvcsref02_pieces (M + 17) _ _ _ ⟨fun h => absurd (hk.symm.trans h) (by decide), fun _ => rL1_semvcsref02_pieces (M + 16) _ _ _ ⟨fun h => absurd (hk.symm.trans h) (by decide), fun _ => rL4_semvcsref02_pieces (M + 15) _ _ _ ⟨fun h => absurd (hk.symm.trans h) (by decide), fun _ => rL6_semvcsref02_pieces (M + 14) _ _ _ ⟨fun h => absurd (hk.symm.trans h) (by decide), fun _ => rL8_semvcsref02_pieces (M + 13) _ _ _ ⟨fun h => absurd (hk.symm.trans h) (by decide), fun _ => rL9_semvcsref02_pieces (M + 12) _ _ _ ⟨fun h => absurd (hk.symm.trans h) (by decide), fun _ => rL10_semvcsref02_pieces (M + 11) _ _ _ ⟨fun h => absurd (hk.symm.trans h) (by decide), fun _ => rL11_semvcsref02_pieces (M + 10) _ _ _ ⟨fun h => absurd (hk.symm.trans h) (by decide), fun _ => rL12_semvcsref02_pieces (M + 9) _ _ _ ⟨fun h => absurd (hk.symm.trans h) (by decide), fun _ => rL13_semvcsref02_pieces (M + 8) _ _ _ ⟨fun h => absurd (hk.symm.trans h) (by decide), fun _ => rL14_semvcsref02_pieces (M + 7) _ _ _ ⟨fun h => absurd (hk.symm.trans h) (by decide), fun _ => rL16_semvcsref02_pieces (M + 6) _ _ _ ⟨fun h => absurd (hk.symm.trans h) (by decide), fun _ => rL18_semvcsref02_pieces (M + 5) _ _ _ ⟨fun h => absurd (hk.symm.trans h) (by decide), fun _ => rL19_semvcsref02_pieces (M + 4) _ _ _ ⟨fun h => absurd (hk.symm.trans h) (by decide), fun _ => rL21_semvcsref02_pieces (M + 3) _ _ _ ⟨fun h => absurd (hk.symm.trans h) (by decide), fun _ => rL23_semvcsref02_pieces (M + 2) _ _ _ ⟨fun h => absurd (hk.symm.trans h) (by decide), fun _ => rL25_semvcsref02_pieces (M + 1) _ _ _ ⟨fun _ => rL26_semvcsref02_pieces (M) _ _ _ ⟨u0, hu0, _, e0, _, g1, by simp; omega, u1, hu1, _, e1, rfl⟩, fun h => absurd hk h⟩⟩⟩⟩⟩⟩⟩⟩⟩⟩⟩⟩⟩⟩⟩⟩⟩
theorem p_22 {t : Tree} (hk : t.kind = 22) (hs : shapeK t = true) (ht : tbulk t ≤ 1000000) (ih : ∀ (i : Nat) (u : Tree), t.kids[i]? = some u → Pok u) : Pok t := fun l hl => by
  have htp := tbulk_pos t
  have htx := text_len t
  have hn := shape_kids hs
  have M := 0
  have hkn : t.kids.length = 1 := hn.2.2.1 (by simp [hk])
  obtain ⟨u0, hu0, _⟩ | h' := get_or t.kids 0
  rotate_left
  · omega
  have hsum : tbulk u0 + 1 ≤ tbulk t := by
    have hb := tbulk_eq t
    have hx := kbulk_1 hu0
    omega
  obtain ⟨s1, g1, b1⟩ := c_lead 0 ht
  have q1 : Qp l → Qp (l ++ [⟨s1, [40]⟩]) := fun hq => by simp only [Qp_app, Qp_cons]; exact ⟨hq, ⟨b1, by decide⟩, Qp_nil⟩
  obtain ⟨r0, e0, z0, y0⟩ := ih 0 u0 hu0 (l ++ [⟨s1, [40]⟩]) (by first | omega | (simp only [List.length_append, List.length_cons, List.length_nil]; omega))
  try simp only [List.length_append, List.length_cons, List.length_nil] at z0
  obtain ⟨s2, g2, b2⟩ := c_lead 1 ht
  have q3 : Qp r0 → Qp (r0 ++ [⟨s2, [41]⟩]) := fun hq => by simp only [Qp_app, Qp_cons]; exact ⟨hq, ⟨b2, by decide⟩, Qp_nil⟩
  refine ⟨(r0 ++ [⟨s2, [41]⟩]), ?_, by first | omega | (simp only [List.length_append, List.length_cons, List.length_nil]; omega), fun hq => (q3 (y0 (q1 hq)))⟩
  exact rS_semvcsref02_pieces (M + 18) _ _ _ ⟨fun h => absurd (hk.symm.trans h) (by decide), fun _ => rL1_semvcsref02_pieces (M + 17) _ _ _ ⟨fun h => absurd (hk.symm.trans h) (by decide), fun _ => rL4_semvcsref02_pieces (M + 16) _ _ _ ⟨fun h => absurd (hk.symm.trans h) (by decide), fun _ => rL6_semvcsref02_pieces (M + 15) _ _ _ ⟨fun h => absurd (hk.symm.trans h) (by decide), fun _ => rL8_semvcsref02_pieces (M + 14) _ _ _ ⟨fun h => absurd (hk.symm.trans h) (by decide), fun _ => rL9_semvcsref02_pieces (M + 13) _ _ _ ⟨fun h => absurd (hk.symm.trans h) (by decide), fun _ => rL10_semvcsref02_pieces (M + 12) _ _ _ ⟨fun h => absurd (hk.symm.trans h) (by decide), fun _ => rL11_semvcsref02_pieces (M + 11) _ _ _ ⟨fun h => absurd (hk.symm.trans h) (by decide), fun _ => rL12_semvcsref02_pieces (M + 10) _ _ _ ⟨fun h => absurd (hk.symm.trans h) (by decide), fun _ => rL13_semvcsref02_pieces (M + 9) _ _ _ ⟨fun h => absurd (hk.symm.trans h) (by decide), fun _ => rL14_semvcsref02_pieces (M + 8) _ _ _ ⟨fun h => absurd (hk.symm.trans h) (by decide), fun _ => rL16_semvcsref02_pieces (M + 7) _ _ _ ⟨fun h => absurd (hk.symm.trans h) (by decide), fun _ => rL18_semvcsref02_pieces (M + 6) _ _ _ ⟨fun h => absurd (hk.symm.trans h) (by decide), fun _ => rL19_semvcsref02_pieces (M + 5) _ _ _ ⟨fun h => absurd (hk.symm.trans h) (by decide), fun _ => rL21_semvcsref02_pieces (M + 4) _ _ _ ⟨fun h => absurd (hk.symm.trans h) (by decide), fun _ => rL23_semvcsref02_pieces (M + 3) _ _ _ ⟨fun h => absurd (hk.symm.trans h) (by decide), fun _ => rL25_semvcsref02_pieces (M + 2) _ _ _ ⟨fun h => absurd (hk.symm.trans h) (by decide), fun _ => rL27_semvcsref02_pieces (M + 1) _ _ _ ⟨fun _ => rL28_semvcsref02_pieces (M) _ _ _ ⟨_, g1, by simp; omega, u0, hu0, _, e0, _, g2, by simp; omega, rfl⟩, fun h => absurd hk h⟩⟩⟩⟩⟩⟩⟩⟩⟩⟩⟩⟩⟩⟩⟩⟩⟩⟩
theorem p_text {t : Tree} (hn : ∀ c : Int, c ∈ [(1 : Int), 2, 3, 4, 5, 6, 7, 13, 14, 15, 8, 16, 17, 18, 19, 20, 21, 22] → t.kind ≠ c) (ht : tbulk t ≤ 1000000) : Pok t := fun l hl => by
  obtain ⟨s1, g1, b1⟩ := c_lead 0 ht
  have htp := tbulk_pos t
  have htx := text_len t
  have M := 0
  refine ⟨l ++ [⟨s1, t.text⟩], ?_, by simp; omega, fun hq => by simp only [Qp_app, Qp_cons]; exact ⟨hq, ⟨b1, by omega⟩, Qp_nil⟩⟩
  exact rS_semvcsref02_pieces (M + 18) _ _ _ ⟨fun h => absurd h (hn 1 (by decide)), fun _ => rL1_semvcsref02_pieces (M + 17) _ _ _ ⟨fun h => absurd h (hn 2 (by decide)), fun _ => rL4_semvcsref02_pieces (M + 16) _ _ _ ⟨fun h => absurd h (hn 3 (by decide)), fun _ => rL6_semvcsref02_pieces (M + 15) _ _ _ ⟨fun h => absurd h (hn 4 (by decide)), fun _ => rL8_semvcsref02_pieces (M + 14) _ _ _ ⟨fun h => absurd h (hn 5 (by decide)), fun _ => rL9_semvcsref02_pieces (M + 13) _ _ _ ⟨fun h => absurd h (hn 6 (by decide)), fun _ => rL10_semvcsref02_pieces (M + 12) _ _ _ ⟨fun h => absurd h (hn 7 (by decide)), fun _ => rL11_semvcsref02_pieces (M + 11) _ _ _ ⟨fun h => absurd h (hn 13 (by decide)), fun _ => rL12_semvcsref02_pieces (M + 10) _ _ _ ⟨fun h => absurd h (hn 14 (by decide)), fun _ => rL13_semvcsref02_pieces (M + 9) _ _ _ ⟨fun h => absurd h (hn 15 (by decide)), fun _ => rL14_semvcsref02_pieces (M + 8) _ _ _ ⟨fun h => absurd h (hn 8 (by decide)), fun _ => rL16_semvcsref02_pieces (M + 7) _ _ _ ⟨fun h => absurd h (hn 16 (by decide)), fun _ => rL18_semvcsref02_pieces (M + 6) _ _ _ ⟨fun h => absurd h (hn 17 (by decide)), fun _ => rL19_semvcsref02_pieces (M + 5) _ _ _ ⟨fun h => absurd h (hn 18 (by decide)), fun _ => rL21_semvcsref02_pieces (M + 4) _ _ _ ⟨fun h => absurd h (hn 19 (by decide)), fun _ => rL23_semvcsref02_pieces (M + 3) _ _ _ ⟨fun h => absurd h (hn 20 (by decide)), fun _ => rL25_semvcsref02_pieces (M + 2) _ _ _ ⟨fun h => absurd h (hn 21 (by decide)), fun _ => rL27_semvcsref02_pieces (M + 1) _ _ _ ⟨fun h => absurd h (hn 22 (by decide)), fun _ => ⟨_, g1, by simp; omega, rfl⟩⟩⟩⟩⟩⟩⟩⟩⟩⟩⟩⟩⟩⟩⟩⟩⟩⟩⟩
theorem p_row {t : Tree} (ht : tbulk t ≤ 1000000) (ih : ∀ (i : Nat) (u : Tree), t.kids[i]? = some u → Pok u) (n comma : Nat) (hn : n ≤ t.kids.length) (hc : comma ≤ 10) : ∀ l, l.length + 8 * kbulk (t.kids.take n) ≤ 899999999 → ∃ r, S_semvcsref02_row l t 0 (n : Int) (comma : Int) r ∧ r.length ≤ l.length + 8 * kbulk (t.kids.take n) ∧ (Qp l → Qp r) := by
  have hk := kids_len t
  have loop : ∀ k i l, n - i ≤ k → i ≤ n → l.length + 8 * kbulk ((t.kids.take n).drop i) ≤ 899999999 → ∃ r, L0_semvcsref02_row (k + 1) t 0 (n : Int) (comma : Int) l (i : Int) r ∧ r.length ≤ l.length + 8 * kbulk ((t.kids.take n).drop i) ∧ (Qp l → Qp r) := fun k => by
    induction k with
    | zero =>
      intro i l hi hle hl
      exact ⟨l, rL0_semvcsref02_row 0 _ _ _ _ _ _ _ ⟨fun h => by omega, fun _ => rfl⟩, by omega, fun h => h⟩
    | succ k ihk =>
      intro i l hi hle hl
      by_cases hin : i < n
      · obtain ⟨u, hu, hul⟩ | h' := get_or t.kids i
        · have hu' : (t.kids.take n)[i]? = some u := by rw [List.getElem?_take, if_pos hin]; exact hu
          have hd := drop_get hu'
          rw [hd, kbulk] at hl ⊢
          have hup := tbulk_pos u
          by_cases h0 : 0 < i
          · obtain ⟨s, g, b⟩ := c_lead (t := t) (comma + i - 1) ht
            have g' : S_semvcsref02_lead t ((((comma : Int) + (i : Int)) - 0) - 1) s := by rw [show (((comma : Int) + (i : Int)) - 0) - 1 = ((comma + i - 1 : Nat) : Int) by omega]; exact g
            obtain ⟨r, e, z, y⟩ := ih i u hu (l ++ [⟨s, [44]⟩]) (by simp; omega)
            simp only [List.length_append, List.length_cons, List.length_nil] at z
            obtain ⟨r2, e2, z2, y2⟩ := ihk (i + 1) r (by omega) (by omega) (by omega)
            refine ⟨r2, rL0_semvcsref02_row (k + 1) _ _ _ _ _ _ _ ⟨fun _ => ⟨fun _ => ⟨by omega, by omega, by omega, s, g', by simp; omega, i, rfl, u, hu, r, e, by omega, ?_⟩, fun h => by omega⟩, fun h => by omega⟩, by omega, fun hq => y2 (y (by simp only [Qp_app, Qp_cons]; exact ⟨hq, ⟨b, by decide⟩, Qp_nil⟩))⟩
            exact e2
          · obtain ⟨r, e, z, y⟩ := ih i u hu l (by omega)
            obtain ⟨r2, e2, z2, y2⟩ := ihk (i + 1) r (by omega) (by omega) (by omega)
            refine ⟨r2, rL0_semvcsref02_row (k + 1) _ _ _ _ _ _ _ ⟨fun _ => ⟨fun h => by omega, fun _ => ⟨i, rfl, u, hu, r, e, by omega, e2⟩⟩, fun h => by omega⟩, by omega, fun hq => y2 (y hq)⟩
        · omega
      · exact ⟨l, rL0_semvcsref02_row (k + 1) _ _ _ _ _ _ _ ⟨fun h => by omega, fun _ => rfl⟩, by omega, fun h => h⟩
  intro l hl
  have h1 : kbulk (t.kids.take n) ≤ kbulk t.kids := by
    have : ∀ (l : List Tree) n, kbulk (l.take n) ≤ kbulk l := fun l => by
      induction l with
      | nil => intro n; simp
      | cons a r ih => intro n; cases n with
        | zero => simp [kbulk]
        | succ n => have := ih n; simp only [List.take_succ_cons, kbulk]; omega
    exact this _ _
  have h2 := tbulk_eq t
  obtain ⟨r, e, z, y⟩ := loop n 0 l (by omega) (by omega) (by simpa using hl)
  exact ⟨r, rS_semvcsref02_row (n + 1) _ _ _ _ _ _ e, by simpa using z, y⟩
theorem kbulk_split (l : List Tree) (n : Nat) : kbulk (l.take n) + kbulk (l.drop n) = kbulk l := by rw [← kbulk_app, List.take_append_drop]
theorem p_16 {t : Tree} (hk : t.kind = 16) (hs : shapeK t = true) (ht : tbulk t ≤ 1000000) (ih : ∀ (i : Nat) (u : Tree), t.kids[i]? = some u → Pok u) : Pok t := fun l hl => by
  have hb := tbulk_eq t
  have htx := text_len t
  have M := 0
  obtain ⟨s1, g1, b1⟩ := c_lead 0 ht
  obtain ⟨s2, g2, b2⟩ := c_lead 1 ht
  obtain ⟨r, e, z, y⟩ := p_row ht ih t.kids.length 3 (Nat.le_refl _) (by decide) (l ++ [⟨s1, t.text⟩, ⟨s2, [40]⟩]) (by simp only [List.length_append, List.length_cons, List.length_nil, List.take_length]; omega)
  simp only [List.length_append, List.length_cons, List.length_nil, List.take_length] at z
  obtain ⟨s9, g9, b9⟩ := c_lead 2 ht
  refine ⟨r ++ [⟨s9, [41]⟩], ?_, by simp only [List.length_append, List.length_cons, List.length_nil]; omega, fun hq => by
    have := y (by simp only [Qp_app, Qp_cons]; exact ⟨hq, ⟨b1, by omega⟩, ⟨b2, by decide⟩, Qp_nil⟩)
    simp only [Qp_app, Qp_cons]; exact ⟨this, ⟨b9, by decide⟩, Qp_nil⟩⟩
  exact rS_semvcsref02_pieces (M + 12) _ _ _ ⟨fun h => absurd (hk.symm.trans h) (by decide), fun _ => rL1_semvcsref02_pieces (M + 11) _ _ _ ⟨fun h => absurd (hk.symm.trans h) (by decide), fun _ => rL4_semvcsref02_pieces (M + 10) _ _ _ ⟨fun h => absurd (hk.symm.trans h) (by decide), fun _ => rL6_semvcsref02_pieces (M + 9) _ _ _ ⟨fun h => absurd (hk.symm.trans h) (by decide), fun _ => rL8_semvcsref02_pieces (M + 8) _ _ _ ⟨fun h => absurd (hk.symm.trans h) (by decide), fun _ => rL9_semvcsref02_pieces (M + 7) _ _ _ ⟨fun h => absurd (hk.symm.trans h) (by decide), fun _ => rL10_semvcsref02_pieces (M + 6) _ _ _ ⟨fun h => absurd (hk.symm.trans h) (by decide), fun _ => rL11_semvcsref02_pieces (M + 5) _ _ _ ⟨fun h => absurd (hk.symm.trans h) (by decide), fun _ => rL12_semvcsref02_pieces (M + 4) _ _ _ ⟨fun h => absurd (hk.symm.trans h) (by decide), fun _ => rL13_semvcsref02_pieces (M + 3) _ _ _ ⟨fun h => absurd (hk.symm.trans h) (by decide), fun _ => rL14_semvcsref02_pieces (M + 2) _ _ _ ⟨fun h => absurd (hk.symm.trans h) (by decide), fun _ => rL16_semvcsref02_pieces (M + 1) _ _ _ ⟨fun _ => rL17_semvcsref02_pieces (M) _ _ _ ⟨_, g1, _, g2, by simp only [List.length_append, List.length_cons, List.length_nil]; omega, _, e, _, g9, by simp only [List.length_append, List.length_cons, List.length_nil]; omega, rfl⟩, fun h => absurd hk h⟩⟩⟩⟩⟩⟩⟩⟩⟩⟩⟩⟩
theorem p_18 {t : Tree} (hk : t.kind = 18) (hs : shapeK t = true) (ht : tbulk t ≤ 1000000) (ih : ∀ (i : Nat) (u : Tree), t.kids[i]? = some u → Pok u) : Pok t := fun l hl => by
  have hb := tbulk_eq t
  have htx := text_len t
  have M := 0
  obtain ⟨s1, g1, b1⟩ := c_lead 0 ht
  obtain ⟨r, e, z, y⟩ := p_row ht ih t.kids.length 2 (Nat.le_refl _) (by decide) (l ++ [⟨s1, [91]⟩]) (by simp only [List.length_append, List.length_cons, List.length_nil, List.take_length]; omega)
  simp only [List.length_append, List.length_cons, List.length_nil, List.take_length] at z
  obtain ⟨s9, g9, b9⟩ := c_lead 1 ht
  refine ⟨r ++ [⟨s9, [93]⟩], ?_, by simp only [List.length_append, List.length_cons, List.length_nil]; omega, fun hq => by
    have := y (by simp only [Qp_app, Qp_cons]; exact ⟨hq, ⟨b1, by decide⟩, Qp_nil⟩)
    simp only [Qp_app, Qp_cons]; exact ⟨this, ⟨b9, by decide⟩, Qp_nil⟩⟩
  exact rS_semvcsref02_pieces (M + 14) _ _ _ ⟨fun h => absurd (hk.symm.trans h) (by decide), fun _ => rL1_semvcsref02_pieces (M + 13) _ _ _ ⟨fun h => absurd (hk.symm.trans h) (by decide), fun _ => rL4_semvcsref02_pieces (M + 12) _ _ _ ⟨fun h => absurd (hk.symm.trans h) (by decide), fun _ => rL6_semvcsref02_pieces (M + 11) _ _ _ ⟨fun h => absurd (hk.symm.trans h) (by decide), fun _ => rL8_semvcsref02_pieces (M + 10) _ _ _ ⟨fun h => absurd (hk.symm.trans h) (by decide), fun _ => rL9_semvcsref02_pieces (M + 9) _ _ _ ⟨fun h => absurd (hk.symm.trans h) (by decide), fun _ => rL10_semvcsref02_pieces (M + 8) _ _ _ ⟨fun h => absurd (hk.symm.trans h) (by decide), fun _ => rL11_semvcsref02_pieces (M + 7) _ _ _ ⟨fun h => absurd (hk.symm.trans h) (by decide), fun _ => rL12_semvcsref02_pieces (M + 6) _ _ _ ⟨fun h => absurd (hk.symm.trans h) (by decide), fun _ => rL13_semvcsref02_pieces (M + 5) _ _ _ ⟨fun h => absurd (hk.symm.trans h) (by decide), fun _ => rL14_semvcsref02_pieces (M + 4) _ _ _ ⟨fun h => absurd (hk.symm.trans h) (by decide), fun _ => rL16_semvcsref02_pieces (M + 3) _ _ _ ⟨fun h => absurd (hk.symm.trans h) (by decide), fun _ => rL18_semvcsref02_pieces (M + 2) _ _ _ ⟨fun h => absurd (hk.symm.trans h) (by decide), fun _ => rL19_semvcsref02_pieces (M + 1) _ _ _ ⟨fun _ => rL20_semvcsref02_pieces (M) _ _ _ ⟨_, g1, by simp only [List.length_append, List.length_cons, List.length_nil]; omega, _, e, _, g9, by simp only [List.length_append, List.length_cons, List.length_nil]; omega, rfl⟩, fun h => absurd hk h⟩⟩⟩⟩⟩⟩⟩⟩⟩⟩⟩⟩⟩⟩
theorem p_2 {t : Tree} (hk : t.kind = 2) (hs : shapeK t = true) (ht : tbulk t ≤ 1000000) (ih : ∀ (i : Nat) (u : Tree), t.kids[i]? = some u → Pok u) : Pok t := fun l hl => by
  have hb := tbulk_eq t
  have htx := text_len t
  have hn := (shape_kids hs).1 hk
  have hkl := kids_len t
  have M := 0
  obtain ⟨s1, g1, b1⟩ := c_lead 0 ht
  obtain ⟨s2, g2, b2⟩ := c_lead 1 ht
  obtain ⟨s3, g3, b3⟩ := c_lead 2 ht
  obtain ⟨s4, g4, b4⟩ := c_lead 3 ht
  obtain ⟨s5, g5, b5⟩ := c_lead 4 ht
  obtain ⟨s6, g6, b6⟩ := c_lead 5 ht
  obtain ⟨r, e, z, y⟩ := p_row ht ih (t.kids.length - 2) 6 (by omega) (by decide) (l ++ [⟨s1, [100, 101, 102]⟩, ⟨s2, t.text⟩, ⟨s3, [40]⟩]) (by have := kbulk_split t.kids (t.kids.length - 2); simp only [List.length_append, List.length_cons, List.length_nil]; omega)
  simp only [List.length_append, List.length_cons, List.length_nil] at z
  obtain ⟨u, hu, _⟩ | h' := get_or t.kids (t.kids.length - 2)
  rotate_left
  · omega
  obtain ⟨v, hv, _⟩ | h' := get_or t.kids (t.kids.length - 1)
  rotate_left
  · omega
  have hsp := kbulk_split t.kids (t.kids.length - 2)
  have hd1 := drop_get hu
  have hd2 : t.kids.drop (t.kids.length - 2 + 1) = v :: t.kids.drop (t.kids.length - 1 + 1) := by rw [show t.kids.length - 2 + 1 = t.kids.length - 1 by omega]; exact drop_get hv
  rw [hd1, kbulk, hd2, kbulk] at hsp
  have hup := tbulk_pos u
  have hvp := tbulk_pos v
  have e' : S_semvcsref02_row (l ++ [⟨s1, [100, 101, 102]⟩, ⟨s2, t.text⟩, ⟨s3, [40]⟩]) t 0 (((t.kids.length : Nat) : Int) - 2) 6 r := by rw [show ((t.kids.length : Nat) : Int) - 2 = ((t.kids.length - 2 : Nat) : Int) by omega]; exact e
  obtain ⟨r1, e1, z1, y1⟩ := ih _ u hu (r ++ [⟨s4, [41]⟩, ⟨s5, [58]⟩]) (by simp only [List.length_append, List.length_cons, List.length_nil]; omega)
  simp only [List.length_append, List.length_cons, List.length_nil] at z1
  obtain ⟨r2, e2, z2, y2⟩ := ih _ v hv (r1 ++ [⟨s6, [61]⟩]) (by simp only [List.length_append, List.length_cons, List.length_nil]; omega)
  simp only [List.length_append, List.length_cons, List.length_nil] at z2
  refine ⟨r2, ?_, by omega, fun hq => ?_⟩
  · exact rS_semvcsref02_pieces (M + 2) _ _ _ ⟨fun h => absurd (hk.symm.trans h) (by decide), fun _ => rL1_semvcsref02_pieces (M + 1) _ _ _ ⟨fun _ => rL3_semvcsref02_pieces (M) _ _ _ ⟨_, g1, _, g2, _, g3, by simp only [List.length_append, List.length_cons, List.length_nil]; omega, by omega, r, e', _, g4, _, g5, by simp only [List.length_append, List.length_cons, List.length_nil]; omega, by omega, t.kids.length - 2, by omega, u, hu, r1, e1, _, g6, by simp only [List.length_append, List.length_cons, List.length_nil]; omega, by omega, t.kids.length - 1, by omega, v, hv, r2, e2, rfl⟩, fun h => absurd hk h⟩⟩
  · have q1 := y (by simp only [Qp_app, Qp_cons]; exact ⟨hq, ⟨b1, by decide⟩, ⟨b2, by omega⟩, ⟨b3, by decide⟩, Qp_nil⟩)
    have q2 := y1 (by simp only [Qp_app, Qp_cons]; exact ⟨q1, ⟨b4, by decide⟩, ⟨b5, by decide⟩, Qp_nil⟩)
    exact y2 (by simp only [Qp_app, Qp_cons]; exact ⟨q2, ⟨b6, by decide⟩, Qp_nil⟩)
theorem p_1 {t : Tree} (hk : t.kind = 1) (hs : shapeK t = true) (ht : tbulk t ≤ 1000000) (ih : ∀ (i : Nat) (u : Tree), t.kids[i]? = some u → Pok u) : Pok t := fun l hl => by
  have hb := tbulk_eq t
  have htx := text_len t
  have hkl := kids_len t
  obtain ⟨s1, g1, b1⟩ := c_lead 0 ht
  obtain ⟨s2, g2, b2⟩ := c_lead 1 ht
  obtain ⟨s3, g3, b3⟩ := c_lead 2 ht
  have loop : ∀ k i l, t.kids.length - i ≤ k → l.length + 8 * kbulk (t.kids.drop i) ≤ 899999996 → ∃ r, L2_semvcsref02_pieces (k + 1) t l i r ∧ r.length ≤ l.length + 8 * kbulk (t.kids.drop i) + 1 ∧ (Qp l → Qp r) := fun k => by
    have last : ∀ k i l, ¬ i < t.kids.length → l.length ≤ 899999996 → ∃ r, L2_semvcsref02_pieces (k + 1) t l i r ∧ r.length ≤ l.length + 8 * kbulk (t.kids.drop i) + 1 ∧ (Qp l → Qp r) := fun k i l hi hl => by
      refine ⟨l ++ [⟨s3, []⟩], rL2_semvcsref02_pieces k _ _ _ _ ⟨fun h => absurd h hi, fun _ => ⟨s3, g3, by simp only [List.length_append, List.length_cons, List.length_nil]; omega, rfl⟩⟩, by simp only [List.length_append, List.length_cons, List.length_nil]; omega, fun hq => by simp only [Qp_app, Qp_cons]; exact ⟨hq, ⟨b3, by decide⟩, Qp_nil⟩⟩
    induction k with
    | zero => intro i l hi hl; exact last 0 i l (by omega) (by omega)
    | succ k ihk =>
      intro i l hi hl
      obtain ⟨u, hu, hul⟩ | h' := get_or t.kids i
      · have hd := drop_get hu
        rw [hd, kbulk] at hl ⊢
        obtain ⟨r, e, z, y⟩ := ih i u hu l (by omega)
        obtain ⟨r2, e2, z2, y2⟩ := ihk (i + 1) r (by omega) (by omega)
        exact ⟨r2, rL2_semvcsref02_pieces (k + 1) _ _ _ _ ⟨fun _ => ⟨u, hu, r, e, by omega, e2⟩, fun h => absurd hul h⟩, by omega, fun hq => y2 (y hq)⟩
      · exact last (k + 1) i l h' (by omega)
  obtain ⟨r, e, z, y⟩ := loop t.kids.length 0 (l ++ [⟨s1, [109, 111, 100, 117, 108, 101]⟩, ⟨s2, t.text⟩]) (by omega) (by simp only [List.length_append, List.length_cons, List.length_nil, List.drop_zero]; omega)
  simp only [List.length_append, List.length_cons, List.length_nil, List.drop_zero] at z
  refine ⟨r, rS_semvcsref02_pieces (t.kids.length + 2) _ _ _ ⟨fun _ => rL0_semvcsref02_pieces (t.kids.length + 1) _ _ _ ⟨_, g1, _, g2, by simp only [List.length_append, List.length_cons, List.length_nil]; omega, e⟩, fun h => absurd hk h⟩, by omega, fun hq => y (by simp only [Qp_app, Qp_cons]; exact ⟨hq, ⟨b1, by decide⟩, ⟨b2, by omega⟩, Qp_nil⟩)⟩
theorem c_pieces : ∀ t : Tree, tbulk t ≤ 1000000 → shapeK t = true → Pok t := tree_ind fun t ih ht hs => by
  have ih' : ∀ (i : Nat) (u : Tree), t.kids[i]? = some u → Pok u := fun i u hu => ih i u hu (by have := tbulk_kid hu; omega) (shape_kid hs hu).1
  by_cases h : ∃ c ∈ [(1 : Int), 2, 3, 4, 5, 6, 7, 13, 14, 15, 8, 16, 17, 18, 19, 20, 21, 22], t.kind = c
  · obtain ⟨c, hc, e⟩ := h
    simp only [List.mem_cons, List.not_mem_nil, or_false] at hc
    rcases hc with rfl | rfl | rfl | rfl | rfl | rfl | rfl | rfl | rfl | rfl | rfl | rfl | rfl | rfl | rfl | rfl | rfl | rfl
    · exact p_1 e hs ht ih'
    · exact p_2 e hs ht ih'
    · exact p_3 e hs ht ih'
    · exact p_4 e hs ht ih'
    · exact p_5 e ht
    · exact p_6 e ht
    · exact p_7 e ht
    · exact p_13 e ht
    · exact p_14 e ht
    · exact p_15 e ht
    · exact p_8 e hs ht ih'
    · exact p_16 e hs ht ih'
    · exact p_17 e hs ht ih'
    · exact p_18 e hs ht ih'
    · exact p_19 e hs ht ih'
    · exact p_20 e hs ht ih'
    · exact p_21 e hs ht ih'
    · exact p_22 e hs ht ih'
  · exact p_text (fun c hc e => h ⟨c, hc, e⟩) ht
theorem c_leadsR : ∀ t : Tree, tbulk t ≤ 1000000 → ∃ b, S_semvcsref02_leads t b := tree_ind fun t ih ht => by
  have hk := kids_len t
  have hl := leads_len t
  have kids : ∀ k i, t.kids.length - i ≤ k → ∃ b, L1_semvcsref02_leads (k + 1) t i b := fun k => by
    induction k with
    | zero => intro i hi; exact ⟨_, rL1_semvcsref02_leads 0 _ _ _ ⟨fun h => by omega, fun _ => rfl⟩⟩
    | succ k ihk =>
      intro i hi
      obtain ⟨u, hu, hul⟩ | h' := get_or t.kids i
      · have := tbulk_kid hu
        obtain ⟨b, hb⟩ := ih i u hu (by omega)
        cases b with
        | false => exact ⟨false, rL1_semvcsref02_leads (k + 1) _ _ _ ⟨fun _ => ⟨u, hu, _, hb, fun _ => rfl, fun h => (by cases h)⟩, fun h => absurd hul h⟩⟩
        | true =>
          obtain ⟨b2, hb2⟩ := ihk (i + 1) (by omega)
          exact ⟨b2, rL1_semvcsref02_leads (k + 1) _ _ _ ⟨fun _ => ⟨u, hu, _, hb, fun h => (by cases h), fun _ => hb2⟩, fun h => absurd hul h⟩⟩
      · exact ⟨true, rL1_semvcsref02_leads (k + 1) _ _ _ ⟨fun h => absurd h h', fun _ => rfl⟩⟩
  have lead : ∀ k i, t.leads.length - i ≤ k → ∃ b M, L0_semvcsref02_leads M t i b := fun k => by
    have last : ∀ i, ¬ i < t.leads.length → ∃ b M, L0_semvcsref02_leads M t i b := fun i hi => by
      obtain ⟨b, hb⟩ := kids t.kids.length 0 (by omega)
      exact ⟨b, _, rL0_semvcsref02_leads _ _ _ _ ⟨fun h => absurd h hi, fun _ => hb⟩⟩
    induction k with
    | zero => intro i hi; exact last i (by omega)
    | succ k ihk =>
      intro i hi
      obtain ⟨s, hs, hsl⟩ | h' := get_or t.leads i
      · have := lsum_get hs
        have := tbulk_eq t
        obtain ⟨b2, M, hb2⟩ := ihk (i + 1) (by omega)
        by_cases h1 : t.kind = 1
        · have ht1 := c_TriviaR s (((i : Nat) : Int) == 2) (by omega)
          cases hb : triviaT false s (((i : Nat) : Int) == 2) with
          | false => rw [hb] at ht1; exact ⟨false, 1, rL0_semvcsref02_leads 0 _ _ _ ⟨fun _ => ⟨s, hs, fun _ => ⟨_, ht1, fun _ => rfl, fun h => (by cases h)⟩, fun h => absurd h1 h⟩, fun h => absurd hsl h⟩⟩
          | true => rw [hb] at ht1; exact ⟨b2, M + 1, rL0_semvcsref02_leads M _ _ _ ⟨fun _ => ⟨s, hs, fun _ => ⟨_, ht1, fun h => (by cases h), fun _ => hb2⟩, fun h => absurd h1 h⟩, fun h => absurd hsl h⟩⟩
        · have ht1 := c_TriviaR s false (by omega)
          cases hb : triviaT false s false with
          | false => rw [hb] at ht1; exact ⟨false, 1, rL0_semvcsref02_leads 0 _ _ _ ⟨fun _ => ⟨s, hs, fun h => absurd h h1, fun _ => ⟨_, ht1, fun _ => rfl, fun h => (by cases h)⟩⟩, fun h => absurd hsl h⟩⟩
          | true => rw [hb] at ht1; exact ⟨b2, M + 1, rL0_semvcsref02_leads M _ _ _ ⟨fun _ => ⟨s, hs, fun h => absurd h h1, fun _ => ⟨_, ht1, fun h => (by cases h), fun _ => hb2⟩⟩, fun h => absurd hsl h⟩⟩
      · exact last i h'
  by_cases h : ((t.leads.length : Nat) : Int) = ldsK t.kind t.kids.length
  · obtain ⟨b, M, hb⟩ := lead t.leads.length 0 (by omega)
    exact ⟨b, rS_semvcsref02_leads M _ _ ⟨_, c_LeadsR (by omega) (by omega), fun h' => absurd h h', fun _ => hb⟩⟩
  · exact ⟨false, rS_semvcsref02_leads 0 _ _ ⟨_, c_LeadsR (by omega) (by omega), fun _ => rfl, fun h' => absurd h' h⟩⟩
theorem c_limitsR : ∀ t : Tree, tbulk t ≤ 1000000 → ∃ b, S_semvcsref02_limits t b := tree_ind fun t ih ht => by
  have hk := kids_len t
  have kids : ∀ k i, t.kids.length - i ≤ k → ∃ b, L0_semvcsref02_limits (k + 1) t i b := fun k => by
    induction k with
    | zero => intro i hi; exact ⟨_, rL0_semvcsref02_limits 0 _ _ _ ⟨fun h => by omega, fun _ => rfl⟩⟩
    | succ k ihk =>
      intro i hi
      obtain ⟨u, hu, hul⟩ | h' := get_or t.kids i
      · have := tbulk_kid hu
        obtain ⟨b, hb⟩ := ih i u hu (by omega)
        cases b with
        | false => exact ⟨false, rL0_semvcsref02_limits (k + 1) _ _ _ ⟨fun _ => ⟨u, hu, _, hb, fun _ => rfl, fun h => (by cases h)⟩, fun h => absurd hul h⟩⟩
        | true =>
          obtain ⟨b2, hb2⟩ := ihk (i + 1) (by omega)
          exact ⟨b2, rL0_semvcsref02_limits (k + 1) _ _ _ ⟨fun _ => ⟨u, hu, _, hb, fun h => (by cases h), fun _ => ⟨by omega, hb2⟩⟩, fun h => absurd hul h⟩⟩
      · exact ⟨true, rL0_semvcsref02_limits (k + 1) _ _ _ ⟨fun h => absurd h h', fun _ => rfl⟩⟩
  obtain ⟨b, hb⟩ := kids t.kids.length 0 (by omega)
  by_cases hall : (t.kind = 1 ∧ (40 : Int) < t.kids.length) ∨ (t.kind = 2 ∧ (10 : Int) < t.kids.length) ∨ (t.kind = 16 ∧ (8 : Int) < t.kids.length) ∨ (t.kind = 18 ∧ (16 : Int) < t.kids.length)
  · refine ⟨false, rS_semvcsref02_limits (t.kids.length + 1) _ _ ?_⟩
    repeat' (refine And.intro (fun _ => ?_) (fun _ => ?_))
    all_goals first | rfl | (exfalso; omega)
  · refine ⟨b, rS_semvcsref02_limits (t.kids.length + 1) _ _ ?_⟩
    repeat' (refine And.intro (fun _ => ?_) (fun _ => ?_))
    all_goals first | exact hb | (exfalso; omega)
theorem c_DepthR : ∀ t : Tree, tbulk t ≤ 1000000 → ∃ n, S_semvcsref02_Depth t n ∧ 0 ≤ n ∧ n ≤ tbulk t := tree_ind fun t ih ht => by
  have hk := kids_len t
  have kids : ∀ k i (z : Int), t.kids.length - i ≤ k → 0 ≤ z → z < tbulk t → ∃ n, L0_semvcsref02_Depth (k + 1) t z i n ∧ 0 ≤ n ∧ n ≤ tbulk t := fun k => by
    induction k with
    | zero => intro i z hi h0 hz; exact ⟨_, rL0_semvcsref02_Depth 0 _ _ _ _ ⟨fun h => by omega, fun _ => ⟨by omega, rfl⟩⟩, by omega, by omega⟩
    | succ k ihk =>
      intro i z hi h0 hz
      obtain ⟨u, hu, hul⟩ | h' := get_or t.kids i
      · have := tbulk_kid hu
        obtain ⟨n, hn, n0, n1⟩ := ih i u hu (by omega)
        obtain ⟨r, hr, r0, r1⟩ := ihk (i + 1) (max z n) (by omega) (by omega) (by omega)
        exact ⟨r, rL0_semvcsref02_Depth (k + 1) _ _ _ _ ⟨fun _ => ⟨u, hu, _, hn, hr⟩, fun h => absurd hul h⟩, r0, r1⟩
      · exact ⟨_, rL0_semvcsref02_Depth (k + 1) _ _ _ _ ⟨fun h => absurd h h', fun _ => ⟨by omega, rfl⟩⟩, by omega, by omega⟩
  obtain ⟨n, hn, n0, n1⟩ := kids t.kids.length 0 0 (by omega) (by omega) (by have := tbulk_pos t; omega)
  exact ⟨n, rS_semvcsref02_Depth _ _ _ hn, n0, n1⟩
theorem c_PrintableR (t : Tree) (ht : tbulk t ≤ 1000000) : ∃ b, S_semvcsref02_Printable t b ∧ (b = true → shapeK t = true) := by
  have h1 := c_ShapedR t (by omega)
  cases hs : shapeK t with
  | false => rw [hs] at h1; exact ⟨false, rS_semvcsref02_Printable 0 _ _ ⟨_, h1, fun h => by (cases h), fun _ => rfl⟩, fun h => (by cases h)⟩
  | true =>
    rw [hs] at h1
    obtain ⟨b, hb⟩ := c_leadsR t ht
    exact ⟨b, rS_semvcsref02_Printable 0 _ _ ⟨_, h1, fun _ => ⟨_, hb, rfl⟩, fun h => (by cases h)⟩, fun _ => rfl⟩
theorem c_PrintR (t : Tree) (ht : tbulk t ≤ 1000000) : ∃ s, S_semvcsref02_Print t s := by
  obtain ⟨b, hb, hs⟩ := c_PrintableR t ht
  cases b with
  | false => exact ⟨[], rS_semvcsref02_Print 0 _ _ ⟨_, hb, fun _ => rfl, fun h => (by cases h)⟩⟩
  | true =>
    obtain ⟨l, e, z, q⟩ := c_pieces t ht (hs rfl) [] (by simp; omega)
    have hq := q Qp_nil
    simp only [List.length_nil] at z
    have loop : ∀ k i (s : List UInt8), l.length - i ≤ k → s.length ≤ i * 2000020 → i ≤ l.length → ∃ r, L0_semvcsref02_Print (k + 1) l s i r := fun k => by
      induction k with
      | zero => intro i s hi hsl hil; exact ⟨_, rL0_semvcsref02_Print 0 _ _ _ _ ⟨fun h => by omega, fun _ => rfl⟩⟩
      | succ k ihk =>
        intro i s hi hsl hil
        obtain ⟨x, hx, hxl⟩ | h' := get_or l i
        · obtain ⟨hx1, hx2⟩ := hq x (List.mem_of_getElem? hx)
          have hmul : (i + 1) * 2000020 = i * 2000020 + 2000020 := Nat.succ_mul _ _
          obtain ⟨r1, hr1⟩ := ihk (i + 1) (((s ++ [32]) ++ x.Lead) ++ x.Text) (by omega) (by simp only [List.length_append, List.length_cons, List.length_nil]; omega) (by omega)
          obtain ⟨r2, hr2⟩ := ihk (i + 1) ((s ++ x.Lead) ++ x.Text) (by omega) (by simp only [List.length_append]; omega) (by omega)
          have plain : s.length + x.Lead.length ≤ 9223372036854775807 ∧ ∃ y : Pce, l[i]? = some y ∧ (s ++ x.Lead).length + y.Text.length ≤ 9223372036854775807 ∧ L0_semvcsref02_Print (k + 1) l ((s ++ x.Lead) ++ y.Text) (i + 1) r2 := ⟨by omega, x, hx, by simp only [List.length_append]; omega, hr2⟩
          by_cases h0 : (0 : Int) < ((i : Nat) : Int)
          · by_cases hle : x.Lead = []
            · obtain ⟨y, hy, hyl⟩ | h' := get_or l (i - 1)
              rotate_left
              · omega
              obtain ⟨hy1, hy2⟩ := hq y (List.mem_of_getElem? hy)
              have hf := c_FusesR y.Text x.Text (by omega) (by omega)
              cases hb2 : fusesT y.Text x.Text with
              | true =>
                rw [hb2] at hf
                exact ⟨r1, rL0_semvcsref02_Print (k + 1) _ _ _ _ ⟨fun _ => ⟨fun _ => ⟨x, hx, fun _ => ⟨by omega, i - 1, by omega, y, hy, x, hx, _, hf, fun _ => ⟨by simp only [List.length_cons, List.length_nil]; omega, x, hx, by simp only [List.length_append, List.length_cons, List.length_nil]; omega, x, hx, by simp only [List.length_append, List.length_cons, List.length_nil]; omega, hr1⟩, fun h => by (cases h)⟩, fun h => absurd hle h⟩, fun h => absurd h0 h⟩, fun h => absurd hxl h⟩⟩
              | false =>
                rw [hb2] at hf
                exact ⟨r2, rL0_semvcsref02_Print (k + 1) _ _ _ _ ⟨fun _ => ⟨fun _ => ⟨x, hx, fun _ => ⟨by omega, i - 1, by omega, y, hy, x, hx, _, hf, fun h => by (cases h), fun _ => ⟨x, hx, plain⟩⟩, fun h => absurd hle h⟩, fun h => absurd h0 h⟩, fun h => absurd hxl h⟩⟩
            · exact ⟨r2, rL0_semvcsref02_Print (k + 1) _ _ _ _ ⟨fun _ => ⟨fun _ => ⟨x, hx, fun h => absurd h hle, fun _ => ⟨x, hx, plain⟩⟩, fun h => absurd h0 h⟩, fun h => absurd hxl h⟩⟩
          · exact ⟨r2, rL0_semvcsref02_Print (k + 1) _ _ _ _ ⟨fun _ => ⟨fun h => absurd h h0, fun _ => ⟨x, hx, plain⟩⟩, fun h => absurd hxl h⟩⟩
        · exact ⟨s, rL0_semvcsref02_Print (k + 1) _ _ _ _ ⟨fun h => absurd h h', fun _ => rfl⟩⟩
    obtain ⟨r, hr⟩ := loop l.length 0 [] (by omega) (by simp) (by omega)
    exact ⟨r, rS_semvcsref02_Print (l.length + 1) _ _ ⟨_, hb, fun h => by (cases h), fun _ => ⟨l, rS_semvcsref02_Pieces 0 _ _ ⟨_, e, rfl⟩, hr⟩⟩⟩
theorem c_ValidR (t : Tree) (ht : tbulk t ≤ 1000000) : ∃ b, S_semvcsref02_Valid t b := by
  obtain ⟨b, hb, _⟩ := c_PrintableR t ht
  cases b with
  | false => exact ⟨false, rS_semvcsref02_Valid 0 _ _ ⟨_, hb, fun h => by (cases h), fun _ => rfl⟩⟩
  | true =>
    obtain ⟨b2, hb2⟩ := c_limitsR t ht
    cases b2 with
    | false => exact ⟨false, rS_semvcsref02_Valid 0 _ _ ⟨_, hb, fun _ => ⟨_, hb2, fun h => by (cases h), fun _ => rfl⟩, fun h => (by cases h)⟩⟩
    | true =>
      obtain ⟨n, hn, _, _⟩ := c_DepthR t ht
      obtain ⟨s, hs⟩ := c_PrintR t ht
      by_cases h40 : n ≤ 40
      · exact ⟨_, rS_semvcsref02_Valid 0 _ _ ⟨_, hb, fun _ => ⟨_, hb2, fun _ => ⟨n, hn, fun _ => ⟨s, hs, rfl⟩, fun h => absurd h40 h⟩, fun h => (by cases h)⟩, fun h => (by cases h)⟩⟩
      · exact ⟨false, rS_semvcsref02_Valid 0 _ _ ⟨_, hb, fun _ => ⟨_, hb2, fun _ => ⟨n, hn, fun h => absurd h h40, fun _ => rfl⟩, fun h => (by cases h)⟩, fun h => (by cases h)⟩⟩
end Go.Proofs.YteglbnopdedadaaGreat
namespace Go.Proofs.YteglbnopdedadaaGreat
open Go.RowKit Lx Sx
set_option maxHeartbeats 1000000
set_option maxRecDepth 100000
theorem c_Def {L : List Int} {a : Int} (hd : Dc L a) : Gt L (fun t a' => S_semvcsmake_Def L a t L a') 500 := by
  obtain ⟨r, a1, h1, h2, h3⟩ := c_Next hd (n := 5) (by omega) (by omega)
  by_cases hr : r = 0
  · obtain ⟨s, a2, g1, g2, g3⟩ := c_pick h3 [[84], [85]] (by decide) (by decide)
    have hs := small5 g2 (by decide)
    obtain ⟨t, a3, q1, q2, q3⟩ := c_typ 2 g3 (by omega)
    exact ⟨_, a3, rS_semvcsmake_Def 0 _ _ _ _ _ ⟨_, _, _, h1, fun _ => ⟨_, _, _, g1, _, _, _, q1, rfl, rfl, rfl⟩, fun h => absurd hr h⟩, q2, by rw [tb1]; omega⟩
  · obtain ⟨s, a2, g1, g2, g3⟩ := c_pick h3 [[102], [103], [104]] (by decide) (by decide)
    have hs := small5 g2 (by decide)
    obtain ⟨n, a3, g4, g5, g6⟩ := c_Next g3 (n := 4) (by omega) (by omega)
    have loop : ∀ (k : Nat) (a : Int) (l : List Tree), Dc L a → l.length + k ≤ 100 → Gt L (fun t a' => L0_semvcsmake_Def (k + 1) s L a l (k : Int) t L a') (s.length + 1 + kbulk l + k * 13 + 429) := fun k => by
      induction k with
      | zero =>
        intro a l hd hl
        obtain ⟨t1, b1, q1, q2, q3⟩ := c_typ 1 hd (by omega)
        obtain ⟨t2, b2, q4, q5, q6⟩ := c_Expr 3 q2 (by omega)
        have : eB 3 = 422 := rfl
        refine ⟨_, b2, rL0_semvcsmake_Def 0 _ _ _ _ _ _ _ _ ⟨fun h => by omega, fun _ => ⟨_, _, _, q1, _, _, _, q4, by simp; omega, rfl, rfl, rfl⟩⟩, q5, ?_⟩
        rw [tbK, kbulk_app]; simp only [kbulk]; omega
      | succ k ihk =>
        intro a l hd hl
        obtain ⟨x, b0, q0, q0', q0''⟩ := c_pick hd [[120], [121], [122]] (by decide) (by decide)
        have hx := small5 q0' (by decide)
        obtain ⟨t, b, q1, q2, q3⟩ := c_typ 1 q0'' (by omega)
        refine (ihk b (l ++ [.node 4 x [] [t]]) q2 (by simp; omega)).map ?_ fun t' a' h => rL0_semvcsmake_Def (k + 1) _ _ _ _ _ _ _ _ ⟨fun _ => ⟨_, _, _, q0, _, _, _, q1, by simp; omega, by omega, by rw [show ((k + 1 : Nat) : Int) - 1 = (k : Int) by omega]; exact h⟩, fun h => by omega⟩
        rw [kbulk_app]; simp only [kbulk, tb1]; omega
    exact (loop n.toNat a3 [] g6 (by simp; omega)).map (by simp only [kbulk]; omega) fun t a' h => rS_semvcsmake_Def (n.toNat + 1) _ _ _ _ _ ⟨_, _, _, h1, fun h => absurd h hr, fun _ => ⟨_, _, _, g1, _, _, _, g4, by rw [show n = ((n.toNat : Nat) : Int) by omega]; exact h⟩⟩
def Sh (l : List (List UInt8)) (n : Nat) : Prop := l.length = n ∧ ∀ x ∈ l, x.length ≤ 2
theorem Sh.sum : ∀ {l : List (List UInt8)} {n : Nat}, Sh l n → lsum l ≤ 3 * n
  | [], n, h => by simp [lsum]
  | x :: r, n, h => by
    obtain ⟨h1, h2⟩ := h
    have := h2 x (by simp)
    have := Sh.sum (l := r) (n := n - 1) ⟨by simp at h1; omega, fun y hy => h2 y (by simp [hy])⟩
    simp only [lsum]; simp at h1; omega
theorem Sh.set {l : List (List UInt8)} {n i : Nat} {x : List UInt8} (h : Sh l n) (hx : x.length ≤ 2) : Sh (l.set i x) n := ⟨by simpa using h.1, fun y hy => by
  rcases List.mem_or_eq_of_mem_set hy with h1 | h1
  · exact h.2 y h1
  · subst h1; exact hx⟩
theorem Sh.get {l : List (List UInt8)} {n i : Nat} (h : Sh l n) (hi : i < n) : ∃ s, l[i]? = some s := by
  obtain ⟨s, hs, _⟩ | h' := get_or l i
  · exact ⟨s, hs⟩
  · have := h.1; omega
theorem c_blanks {n : Int} (h0 : 0 ≤ n) (h1 : n ≤ 100000000) : ∃ l, S_semvcsref04_blanks n l ∧ Sh l n.toNat := by
  have loop : ∀ k i (l : List (List UInt8)), n.toNat - i ≤ k → i ≤ n.toNat → Sh l i → ∃ r, L0_semvcsref04_blanks (k + 1) n l i r ∧ Sh r n.toNat := fun k => by
    induction k with
    | zero => intro i l hi hle hl; exact ⟨l, rL0_semvcsref04_blanks 0 _ _ _ _ ⟨fun h => by omega, fun _ => rfl⟩, by rw [show n.toNat = i by omega]; exact hl⟩
    | succ k ihk =>
      intro i l hi hle hl
      by_cases h : (i : Int) < n
      · obtain ⟨r, e, hr⟩ := ihk (i + 1) (l ++ [[32]]) (by omega) (by omega) ⟨by simp [hl.1], fun x hx => by
          rcases List.mem_append.1 hx with h1 | h1
          · exact hl.2 x h1
          · simp at h1; subst h1; simp⟩
        exact ⟨r, rL0_semvcsref04_blanks (k + 1) _ _ _ _ ⟨fun _ => ⟨by simp [hl.1]; omega, by omega, e⟩, fun h' => absurd h h'⟩, hr⟩
      · exact ⟨l, rL0_semvcsref04_blanks (k + 1) _ _ _ _ ⟨fun h' => absurd h' h, fun _ => rfl⟩, by rw [show n.toNat = i by omega]; exact hl⟩
  obtain ⟨r, e, hr⟩ := loop n.toNat 0 [] (by omega) (by omega) ⟨rfl, fun x hx => by cases hx⟩
  exact ⟨r, rS_semvcsref04_blanks _ _ _ e, hr⟩
def beforeK (t : Tree) (i : Int) (first : List UInt8) : List UInt8 := if t.kind = 1 then [10, 10] else if 0 < i then [32] else if t.kind = 8 ∨ t.kind = 22 ∨ t.kind = 16 ∨ t.kind = 18 then [] else if t.kind = 2 then (if (2 : Int) < t.kids.length then [] else [32]) else if t.kind = 17 ∨ t.kind = 21 then first else [32]
theorem c_before (t : Tree) (i : Int) (first : List UInt8) : S_semvcsref04_before t i first (beforeK t i first) := by
  refine rS_semvcsref04_before 1 _ _ _ _ ?_
  repeat' first | (refine And.intro (fun _ => ?_) (fun _ => ?_)) | (refine rL0_semvcsref04_before 0 _ _ _ _ ?_)
  all_goals simp_all [beforeK]
  all_goals (intro h; omega)
theorem before_len (t : Tree) (i : Int) (first : List UInt8) (hf : first.length ≤ 2) : (beforeK t i first).length ≤ 2 := by
  unfold beforeK
  repeat' split
  all_goals first | exact hf | simp
theorem f0_le {n : Int} (hn : 0 ≤ n) (a b c : Nat) (z : Int) : f0 n a b c z ≤ b + n := by
  unfold f0; repeat' split
  all_goals omega
theorem lds_le {k n : Int} (hn : 0 ≤ n) : ldsK k n ≤ 6 + n := by
  have a1 := f0_le hn 2 6 2 (-1)
  have a2 := f0_le hn 0 3 0 (-1)
  have a3 := f0_le hn 1 2 0 (-1)
  have a4 := f0_le hn 1 3 0 1
  have a5 := f0_le hn 1 2 0 1
  have a6 := f0_le hn 1 0 0 1
  have a7 := f0_le hn 3 3 0 3
  have a8 := f0_le hn 2 4 0 2
  have a9 := f0_le hn 2 1 0 2
  have a10 := f0_le hn 0 1 0 0
  simp only [ldsK]
  repeat' first | omega | split
theorem lds_ge {t : Tree} (hs : shapeK t = true) : (t.kind = 1 → ldsK t.kind t.kids.length = 3) ∧ (t.kind = 2 → 6 ≤ ldsK t.kind t.kids.length) ∧ (t.kind = 4 ∨ t.kind = 8 ∨ t.kind = 22 → ldsK t.kind t.kids.length = 2) ∧ (t.kind ≠ 17 → 1 ≤ ldsK t.kind t.kids.length) := by
  have h := shape_lds hs
  refine ⟨fun hk => ?_, fun hk => ?_, fun hk => ?_, fun hk => ?_⟩
  · rw [hk]; simp only [ldsK]; simp
  · rw [hk] at h ⊢; simp only [ldsK, f0] at h ⊢; simp at h ⊢; repeat' split
    all_goals first | omega | (simp_all; omega)
  · rcases hk with hk | hk | hk <;> (rw [hk] at h ⊢; simp only [ldsK, f0] at h ⊢; simp at h ⊢; repeat' split) <;> first | omega | (simp_all; done) | (simp_all; omega)
  · have key : ∀ k n : Int, 0 ≤ n → k ≠ 17 → 0 ≤ ldsK k n → 1 ≤ ldsK k n := fun k n hn hk h => by
      have q : ∀ (a b c : Nat) z, 1 ≤ b → f0 n a b c z = -1 ∨ 1 ≤ f0 n a b c z := fun a b c z hb => by
        unfold f0; repeat' split
        all_goals omega
      have a1 := q 2 6 2 (-1) (by decide)
      have a2 := q 0 3 0 (-1) (by decide)
      have a3 := q 1 2 0 (-1) (by decide)
      have a4 := q 1 3 0 1 (by decide)
      have a5 := q 1 2 0 1 (by decide)
      have a7 := q 3 3 0 3 (by decide)
      have a8 := q 2 4 0 2 (by decide)
      have a9 := q 2 1 0 2 (by decide)
      have a10 := q 0 1 0 0 (by decide)
      revert h
      simp only [ldsK]
      repeat' first | (intro h; omega) | split
    exact key _ _ (by omega) hk h
section
variable {t : Tree} {N : Nat} {us : List Tree}
theorem c_fill3 : ∀ k i (l : List (List UInt8)), N - i ≤ k → Sh l N → ∃ l', L3_semvcsref04_arrange (k + 1) t l i us (.node t.kind t.text l' us) ∧ Sh l' N := fun k => by
  induction k with
  | zero => intro i l hi hl; exact ⟨l, rL3_semvcsref04_arrange 0 _ _ _ _ _ ⟨fun h => by have := hl.1; omega, fun _ => rfl⟩, hl⟩
  | succ k ihk =>
    intro i l hi hl
    by_cases h : i < l.length
    · obtain ⟨s, hs⟩ := hl.get (i := i) (by have := hl.1; omega)
      obtain ⟨l', e, h'⟩ := ihk (i + 1) (l.set i []) (by omega) (hl.set (by simp))
      exact ⟨l', rL3_semvcsref04_arrange (k + 1) _ _ _ _ _ ⟨fun _ => ⟨s, hs, e⟩, fun h' => absurd h h'⟩, h'⟩
    · exact ⟨l, rL3_semvcsref04_arrange (k + 1) _ _ _ _ _ ⟨fun h' => absurd h' h, fun _ => rfl⟩, hl⟩
theorem c_fill4 : ∀ k i (l : List (List UInt8)), N - i ≤ k → Sh l N → ∃ l', L4_semvcsref04_arrange (k + 1) t l i us (.node t.kind t.text l' us) ∧ Sh l' N := fun k => by
  induction k with
  | zero => intro i l hi hl; exact ⟨l, rL4_semvcsref04_arrange 0 _ _ _ _ _ ⟨fun h => by have := hl.1; omega, fun _ => rfl⟩, hl⟩
  | succ k ihk =>
    intro i l hi hl
    by_cases h : i < l.length
    · obtain ⟨s, hs⟩ := hl.get (i := i) (by have := hl.1; omega)
      obtain ⟨l', e, h'⟩ := ihk (i + 1) (l.set i []) (by omega) (hl.set (by simp))
      exact ⟨l', rL4_semvcsref04_arrange (k + 1) _ _ _ _ _ ⟨fun _ => ⟨s, hs, e⟩, fun h' => absurd h h'⟩, h'⟩
    · exact ⟨l, rL4_semvcsref04_arrange (k + 1) _ _ _ _ _ ⟨fun h' => absurd h' h, fun _ => rfl⟩, hl⟩
theorem c_fill2 (hs : shapeK t = true) (hN : N = (ldsK t.kind t.kids.length).toNat) {l : List (List UInt8)} (hl : Sh l N) : ∃ l', L2_semvcsref04_arrange (N + 2) t l us (.node t.kind t.text l' us) ∧ Sh l' N := by
  obtain ⟨g1, g2, g3, g4⟩ := lds_ge hs
  have e0 : ([] : List UInt8).length ≤ 2 := by simp
  by_cases h1 : t.kind = 1
  · have := g1 h1
    obtain ⟨s, hs⟩ := hl.get (i := 2) (by omega)
    exact ⟨_, rL2_semvcsref04_arrange (N + 1) _ _ _ _ ⟨fun _ => ⟨s, hs, rfl⟩, fun h => absurd h1 h⟩, hl.set (by simp)⟩
  by_cases h2 : t.kind = 2
  · have := g2 h2
    have l1 := hl.set (i := 2) e0
    have l2 := l1.set (i := 3) e0
    have l3 := l2.set (i := 4) e0
    obtain ⟨s, hs⟩ := hl.get (i := 2) (by omega)
    obtain ⟨s', hs'⟩ := l1.get (i := 3) (by omega)
    obtain ⟨s2, hs2⟩ := l2.get (i := 4) (by omega)
    obtain ⟨l', e, h'⟩ := c_fill3 (t := t) (us := us) N 6 _ (by omega) l3
    exact ⟨l', rL2_semvcsref04_arrange (N + 1) _ _ _ _ ⟨fun h => absurd h h1, fun _ => ⟨fun _ => ⟨s, hs, s', hs', s2, hs2, e⟩, fun h => absurd h2 h⟩⟩, h'⟩
  by_cases h4 : t.kind = 4
  · have := g3 (by simp [h4])
    obtain ⟨s, hs⟩ := hl.get (i := 1) (by omega)
    exact ⟨_, rL2_semvcsref04_arrange (N + 1) _ _ _ _ ⟨fun h => absurd h h1, fun _ => ⟨fun h => absurd h h2, fun _ => ⟨fun _ => ⟨s, hs, rfl⟩, fun h => absurd h4 h⟩⟩⟩, hl.set e0⟩
  by_cases h8 : t.kind = 8
  · have := g3 (by simp [h8])
    obtain ⟨s, hs⟩ := hl.get (i := 1) (by omega)
    exact ⟨_, rL2_semvcsref04_arrange (N + 1) _ _ _ _ ⟨fun h => absurd h h1, fun _ => ⟨fun h => absurd h h2, fun _ => ⟨fun h => absurd h h4, fun _ => ⟨fun _ => ⟨s, hs, rfl⟩, fun h => absurd h8 h⟩⟩⟩⟩, hl.set e0⟩
  by_cases h22 : t.kind = 22
  · have := g3 (by simp [h22])
    obtain ⟨s, hs⟩ := hl.get (i := 1) (by omega)
    exact ⟨_, rL2_semvcsref04_arrange (N + 1) _ _ _ _ ⟨fun h => absurd h h1, fun _ => ⟨fun h => absurd h h2, fun _ => ⟨fun h => absurd h h4, fun _ => ⟨fun h => absurd h h8, fun _ => ⟨fun _ => ⟨s, hs, rfl⟩, fun h => absurd h22 h⟩⟩⟩⟩⟩, hl.set e0⟩
  by_cases h16 : t.kind = 16
  · obtain ⟨l', e, h'⟩ := c_fill4 (t := t) (us := us) N 1 _ (by omega) hl
    exact ⟨l', rL2_semvcsref04_arrange (N + 1) _ _ _ _ ⟨fun h => absurd h h1, fun _ => ⟨fun h => absurd h h2, fun _ => ⟨fun h => absurd h h4, fun _ => ⟨fun h => absurd h h8, fun _ => ⟨fun h => absurd h h22, fun _ => ⟨fun _ => e, fun h => absurd h16 h⟩⟩⟩⟩⟩⟩, h'⟩
  by_cases h18 : t.kind = 18
  · obtain ⟨l', e, h'⟩ := c_fill4 (t := t) (us := us) N 1 _ (by omega) hl
    exact ⟨l', rL2_semvcsref04_arrange (N + 1) _ _ _ _ ⟨fun h => absurd h h1, fun _ => ⟨fun h => absurd h h2, fun _ => ⟨fun h => absurd h h4, fun _ => ⟨fun h => absurd h h8, fun _ => ⟨fun h => absurd h h22, fun _ => ⟨fun h => absurd h h16, fun _ => ⟨fun _ => e, fun h => absurd h18 h⟩⟩⟩⟩⟩⟩⟩, h'⟩
  · exact ⟨l, rL2_semvcsref04_arrange (N + 1) _ _ _ _ ⟨fun h => absurd h h1, fun _ => ⟨fun h => absurd h h2, fun _ => ⟨fun h => absurd h h4, fun _ => ⟨fun h => absurd h h8, fun _ => ⟨fun h => absurd h h22, fun _ => ⟨fun h => absurd h h16, fun _ => ⟨fun h => absurd h h18, fun _ => rfl⟩⟩⟩⟩⟩⟩⟩, hl⟩
end
theorem kbulk_take_succ {l : List Tree} {i : Nat} {u : Tree} (h : l[i]? = some u) : kbulk (l.take (i + 1)) = kbulk (l.take i) + tbulk u := by
  rw [List.take_add_one, h, kbulk_app]; simp [kbulk]
theorem c_arrange : ∀ t : Tree, tbulk t ≤ 1000000 → shapeK t = true → ∀ first, first.length ≤ 2 → ∃ u, S_semvcsref04_arrange t first u ∧ tbulk u + 3 ≤ 25 * tbulk t := tree_ind fun t ih ht hs first hf => by
  have hk := kids_len t
  have hbt := tbulk_eq t
  have h0 := shape_lds hs
  have h6 := lds_le (k := t.kind) (n := (t.kids.length : Int)) (by omega)
  obtain ⟨g1, g2, g3, g4⟩ := lds_ge hs
  obtain ⟨bl, hbl, hsh⟩ := c_blanks h0 (by omega)
  have loop : ∀ k i (done rest : List Tree), t.kids.length - i ≤ k → done.length = i → i ≤ t.kids.length → rest.length = t.kids.length - i → kbulk done + 3 * i ≤ 25 * kbulk (t.kids.take i) → ∃ M r, L1_semvcsref04_arrange M t first bl (done ++ rest) i r ∧ tbulk r + 3 ≤ 25 * tbulk t := fun k => by
    have last : ∀ i (done rest : List Tree), ¬ i < t.kids.length → done.length = i → i ≤ t.kids.length → rest.length = t.kids.length - i → kbulk done + 3 * i ≤ 25 * kbulk (t.kids.take i) → ∃ M r, L1_semvcsref04_arrange M t first bl (done ++ rest) i r ∧ tbulk r + 3 ≤ 25 * tbulk t := fun i done rest hi hd hle hr hb => by
      have hr0 : rest = [] := List.length_eq_zero_iff.1 (by omega)
      subst hr0
      rw [List.append_nil]
      rw [List.take_of_length_le (by omega)] at hb
      have fin : ∀ l', Sh l' (ldsK t.kind t.kids.length).toNat → tbulk (.node t.kind t.text l' done) + 3 ≤ 25 * tbulk t := fun l' hl' => by
        have := hl'.sum
        simp only [tbulk]; omega
      by_cases h17 : t.kind = 17
      · obtain ⟨l', e, h'⟩ := c_fill2 (us := done) hs rfl hsh
        exact ⟨_, _, rL1_semvcsref04_arrange _ _ _ _ _ _ _ ⟨fun h => absurd h hi, fun _ => ⟨fun h => absurd h17 h, fun _ => e⟩⟩, fin l' h'⟩
      · by_cases h21 : t.kind = 21
        · obtain ⟨l', e, h'⟩ := c_fill2 (us := done) hs rfl hsh
          exact ⟨_, _, rL1_semvcsref04_arrange _ _ _ _ _ _ _ ⟨fun h => absurd h hi, fun _ => ⟨fun _ => ⟨fun h => absurd h21 h, fun _ => e⟩, fun h => absurd h h17⟩⟩, fin l' h'⟩
        · obtain ⟨l', e, h'⟩ := c_fill2 (us := done) hs rfl (hsh.set (i := 0) hf)
          have := g4 h17
          obtain ⟨s, hs0⟩ := hsh.get (i := 0) (by omega)
          exact ⟨_, _, rL1_semvcsref04_arrange _ _ _ _ _ _ _ ⟨fun h => absurd h hi, fun _ => ⟨fun _ => ⟨fun _ => ⟨s, hs0, e⟩, fun h => absurd h h21⟩, fun h => absurd h h17⟩⟩, fin l' h'⟩
    induction k with
    | zero => intro i done rest hi hd hle hr hb; exact last i done rest (by omega) hd hle hr hb
    | succ k ihk =>
      intro i done rest hi hd hle hr hb
      obtain ⟨u, hu, hul⟩ | h' := get_or t.kids i
      · have hbu := tbulk_kid hu
        obtain ⟨v, hv, hvb⟩ := ih i u hu (by omega) (shape_kid hs hu).1 _ (before_len t i first hf)
        match rest, hr with
        | z :: rest', hr =>
          obtain ⟨M, r, e, hb2⟩ := ihk (i + 1) (done ++ [v]) rest' (by omega) (by simp [hd]) (by omega) (by simp at hr; omega) (by rw [kbulk_take_succ hu, kbulk_app]; simp only [kbulk]; omega)
          refine ⟨M + 1, r, rL1_semvcsref04_arrange M _ _ _ _ _ _ ⟨fun _ => ⟨u, hu, _, c_before t i first, v, hv, z, by simp [← hd], by omega, ?_⟩, fun h => absurd hul h⟩, hb2⟩
          have : (done ++ z :: rest').set i v = done ++ [v] ++ rest' := by simp [← hd]
          rw [this]; exact e
        | [], hr => simp at hr; omega
      · exact last i done rest h' hd hle hr hb
  obtain ⟨M, r, e, hb⟩ := loop t.kids.length 0 [] (List.replicate t.kids.length (.node 0 [] [] [])) (by omega) rfl (by omega) (by simp) (by simp [kbulk])
  exact ⟨r, rS_semvcsref04_arrange (M + 1) _ _ _ ⟨_, c_LeadsR (by omega) (by omega), bl, hbl, rL0_semvcsref04_arrange M _ _ _ _ ⟨by omega, by simpa using e⟩⟩, hb⟩
theorem c_Arrange (t : Tree) (ht : tbulk t ≤ 1000000) : ∃ u, S_semvcsref04_Arrange t u ∧ tbulk u ≤ 25 * tbulk t := by
  have h1 := c_ShapedR t (by omega)
  have := tbulk_pos t
  cases hs : shapeK t with
  | false => rw [hs] at h1; exact ⟨.node 0 [] [] [], rS_semvcsref04_Arrange 0 _ _ ⟨_, h1, fun _ => rfl, fun h => (by cases h)⟩, by rw [tb0]; simp; omega⟩
  | true =>
    rw [hs] at h1
    obtain ⟨u, hu, hb⟩ := c_arrange t ht hs [] (by simp)
    exact ⟨u, rS_semvcsref04_Arrange 0 _ _ ⟨_, h1, fun h => (by cases h), fun _ => ⟨u, hu, rfl⟩⟩, by omega⟩
theorem lsum_set : ∀ (l : List (List UInt8)) (i : Nat) (x : List UInt8), lsum (l.set i x) ≤ lsum l + x.length
  | [], i, x => by simp [lsum]
  | y :: r, 0, x => by simp only [List.set_cons_zero, lsum]; omega
  | y :: r, i + 1, x => by have := lsum_set r i x; simp only [List.set_cons_succ, lsum]; omega
theorem c_leadsM {L : List Int} : ∀ t : Tree, tbulk t ≤ 1000000 → ∀ {a : Int}, Dc L a → Gt L (fun u a' => S_semvcsmake_leads L a t u L a') (6 * tbulk t) := tree_ind fun t ih ht a hd => by
  have hk := kids_len t
  have hl := leads_len t
  have hbt := tbulk_eq t
  have kids : ∀ k i (done : List Tree) (ls : List (List UInt8)) (a : Int), t.kids.length - i ≤ k → i ≤ t.kids.length → done.length = i → kbulk done ≤ 6 * kbulk (t.kids.take i) → lsum ls ≤ 6 * lsum t.leads → Dc L a → ∃ M, Gt L (fun u a' => L1_semvcsmake_leads M t L a (done ++ t.kids.drop i) i ls u L a') (6 * tbulk t) := fun k => by
    have last : ∀ i (done : List Tree) (ls : List (List UInt8)) (a : Int), ¬ i < t.kids.length → i ≤ t.kids.length → done.length = i → kbulk done ≤ 6 * kbulk (t.kids.take i) → lsum ls ≤ 6 * lsum t.leads → Dc L a → ∃ M, Gt L (fun u a' => L1_semvcsmake_leads M t L a (done ++ t.kids.drop i) i ls u L a') (6 * tbulk t) := fun i done ls a hi hle hdn hb hls hd => by
      rw [List.drop_of_length_le (by omega), List.append_nil]
      rw [List.take_of_length_le (by omega)] at hb
      exact ⟨1, _, a, rL1_semvcsmake_leads 0 _ _ _ _ _ _ _ _ _ ⟨fun h => absurd h (by omega), fun _ => ⟨rfl, rfl, rfl⟩⟩, hd, by simp only [tbulk]; omega⟩
    induction k with
    | zero => intro i done ls a hi hle hdn hb hls hd; exact last i done ls a (by omega) hle hdn hb hls hd
    | succ k ihk =>
      intro i done ls a hi hle hdn hb hls hd
      obtain ⟨u, hu, hul⟩ | h' := get_or t.kids i
      · have hbu := tbulk_kid hu
        obtain ⟨v, a1, q1, q2, q3⟩ := ih i u hu (by omega) hd
        obtain ⟨M, hM⟩ := ihk (i + 1) (done ++ [v]) ls a1 (by omega) (by omega) (by simp [hdn]) (by rw [kbulk_take_succ hu, kbulk_app]; simp only [kbulk]; omega) hls q2
        have hg : (done ++ t.kids.drop i)[i]? = some u := by rw [List.getElem?_append_right (by omega), hdn]; simpa using hu
        refine ⟨M + 1, hM.map (Nat.le_refl _) fun w b h => rL1_semvcsmake_leads M _ _ _ _ _ _ _ _ _ ⟨fun _ => ⟨u, hg, _, _, _, q1, u, hg, ?_⟩, fun h' => absurd (by simp [hdn]; omega) h'⟩⟩
        have : (done ++ t.kids.drop i).set i v = done ++ [v] ++ t.kids.drop (i + 1) := by rw [drop_get hu]; simp [← hdn]
        rw [this]; exact h
      · exact last i done ls a h' hle hdn hb hls hd
  have lead : ∀ k i (ls : List (List UInt8)) (a : Int), t.leads.length - i ≤ k → i ≤ t.leads.length → ls.length = t.leads.length → lsum ls ≤ lsum t.leads + 5 * i → Dc L a → ∃ M, Gt L (fun u a' => L0_semvcsmake_leads M t L a ls i u L a') (6 * tbulk t) := fun k => by
    have hll := lsum_len t.leads
    have last : ∀ i (ls : List (List UInt8)) (a : Int), ¬ i < t.leads.length → i ≤ t.leads.length → ls.length = t.leads.length → lsum ls ≤ lsum t.leads + 5 * i → Dc L a → ∃ M, Gt L (fun u a' => L0_semvcsmake_leads M t L a ls i u L a') (6 * tbulk t) := fun i ls a hi hle hlen hb hd => by
      obtain ⟨M, hM⟩ := kids t.kids.length 0 [] ls a (by omega) (by omega) rfl (by simp [kbulk]) (by omega) hd
      exact ⟨M + 1, hM.map (Nat.le_refl _) fun w b h => rL0_semvcsmake_leads M _ _ _ _ _ _ _ _ ⟨fun h' => absurd h' (by omega), fun _ => ⟨by omega, by simpa using h⟩⟩⟩
    induction k with
    | zero => intro i ls a hi hle hlen hb hd; exact last i ls a (by omega) hle hlen hb hd
    | succ k ihk =>
      intro i ls a hi hle hlen hb hd
      obtain ⟨x, hx, hxl⟩ | h' := get_or ls i
      · obtain ⟨n, a1, h1, h2, h3⟩ := c_Next hd (n := 9) (by omega) (by omega)
        by_cases hn : n = 1
        · obtain ⟨s, a2, g1, g2, g3⟩ := c_pick h3 [[32, 35, 32, 99, 10], [32, 32], [10, 9], [35, 10]] (by decide) (by decide)
          have hs5 := small5 g2 (by decide)
          have := lsum_set ls i s
          obtain ⟨M, hM⟩ := ihk (i + 1) (ls.set i s) a2 (by omega) (by omega) (by simpa using hlen) (by omega) g3
          exact ⟨M + 1, hM.map (Nat.le_refl _) fun w b h => rL0_semvcsmake_leads M _ _ _ _ _ _ _ _ ⟨fun _ => ⟨_, _, _, h1, fun _ => ⟨_, _, _, g1, x, hx, h⟩, fun h' => absurd hn h'⟩, fun h' => absurd hxl h'⟩⟩
        · obtain ⟨M, hM⟩ := ihk (i + 1) ls a1 (by omega) (by omega) hlen (by omega) h3
          exact ⟨M + 1, hM.map (Nat.le_refl _) fun w b h => rL0_semvcsmake_leads M _ _ _ _ _ _ _ _ ⟨fun _ => ⟨_, _, _, h1, fun h' => absurd h' hn, fun _ => h⟩, fun h' => absurd hxl h'⟩⟩
      · exact last i ls a (by omega) hle hlen hb hd
  obtain ⟨M, hM⟩ := lead t.leads.length 0 t.leads a (by omega) (by omega) rfl (by omega) hd
  exact hM.map (Nat.le_refl _) fun w b h => rS_semvcsmake_leads M _ _ _ _ _ _ ⟨by omega, h⟩
theorem c_Module {L : List Int} {a : Int} (hd : Dc L a) (name : List UInt8) (hname : name.length ≤ 5) : Gt L (fun t a' => S_semvcsmake_Module L a name t L a') 300000 := by
  obtain ⟨n, a1, h1, h2, h3⟩ := c_Next hd (n := 4) (by omega) (by omega)
  have loop : ∀ (k : Nat) (a : Int) (l : List Tree), Dc L a → l.length + k ≤ 100 → kbulk l + k * 500 ≤ 1500 → Gt L (fun t a' => L0_semvcsmake_Module (k + 1) name L a l (k : Int) t L a') 300000 := fun k => by
    induction k with
    | zero =>
      intro a l hd hl hb
      have ht : tbulk (.node 1 name [] l) ≤ 1506 := by rw [tbK]; omega
      obtain ⟨u, hu, hub⟩ := c_Arrange (.node 1 name [] l) (by omega)
      obtain ⟨z, a2, g1, g2, g3⟩ := c_Next hd (n := 2) (by omega) (by omega)
      by_cases hz : z = 0
      · exact (c_leadsM u (by omega) g3).map (by omega) fun w b h => rL0_semvcsmake_Module 0 _ _ _ _ _ _ _ _ ⟨fun h' => by omega, fun _ => ⟨u, hu, _, _, _, g1, fun _ => ⟨_, _, _, h, rfl, rfl, rfl⟩, fun h' => absurd hz h'⟩⟩
      · exact ⟨u, a2, rL0_semvcsmake_Module 0 _ _ _ _ _ _ _ _ ⟨fun h' => by omega, fun _ => ⟨u, hu, _, _, _, g1, fun h' => absurd h' hz, fun _ => ⟨rfl, rfl, rfl⟩⟩⟩, g3, by omega⟩
    | succ k ihk =>
      intro a l hd hl hb
      obtain ⟨t, b, q1, q2, q3⟩ := c_Def hd
      exact (ihk b (l ++ [t]) q2 (by simp; omega) (by rw [kbulk_app]; simp only [kbulk]; omega)).map (Nat.le_refl _) fun w c h => rL0_semvcsmake_Module (k + 1) _ _ _ _ _ _ _ _ ⟨fun _ => ⟨_, _, _, q1, by simp; omega, by omega, by rw [show ((k + 1 : Nat) : Int) - 1 = (k : Int) by omega]; exact h⟩, fun h => by omega⟩
  exact (loop n.toNat a1 [] h3 (by simp; omega) (by simp only [kbulk]; omega)).map (Nat.le_refl _) fun w b h => rS_semvcsmake_Module (n.toNat + 1) _ _ _ _ _ _ ⟨_, _, _, h1, by rw [show n = ((n.toNat : Nat) : Int) by omega]; exact h⟩
theorem c_Program (l : List Int) (hl : l.length ≤ 1000000) : ∃ p, S_semvcsmake_Program l p ∧ kbulk p ≤ 1000000 := by
  have hd0 : Dc l 0 := ⟨by omega, by omega, by omega⟩
  obtain ⟨n, a1, h1, h2, h3⟩ := c_Next hd0 (n := 4) (by omega) (by omega)
  have loop : ∀ (k : Nat) (a : Int) (p : List Tree), Dc l a → p.length + k ≤ 3 → kbulk p + k * 300001 ≤ 900003 → ∃ r, L0_semvcsmake_Program (k + 1) l a p (k : Int) r ∧ kbulk r ≤ 900003 := fun k => by
    induction k with
    | zero => intro a p hd hp hb; exact ⟨p, rL0_semvcsmake_Program 0 _ _ _ _ _ ⟨fun h => by omega, fun _ => rfl⟩, by omega⟩
    | succ k ihk =>
      intro a p hd hp hb
      have hb2 : kbulk p + k * 300001 + 300001 ≤ 900003 := Nat.le_trans (Nat.le_of_eq (by rw [Nat.succ_mul, Nat.add_assoc])) hb
      have hb3 : kbulk p + k * 300001 ≤ 900003 := Nat.le_trans (Nat.le_add_right _ _) hb2
      obtain ⟨x, hx, _⟩ | h' := get_or [[(65 : UInt8)], [66], [67]] p.length
      rotate_left
      · simp at h'; omega
      have hx5 : x.length ≤ 5 := small5 (List.mem_of_getElem? hx) (by decide)
      obtain ⟨t, a2, q1, q2, q3⟩ := c_Module hd x hx5
      obtain ⟨z, a3, g1, g2, g3⟩ := c_Next q2 (n := 8) (by omega) (by omega)
      have step : ∀ u : Tree, tbulk u ≤ 300001 → ∃ b r, S_semvcsref02_Valid u b ∧ ((b = true) → (p ++ [u]).length ≤ 1000000000 ∧ InI (((k + 1 : Nat) : Int) - 1) ∧ L0_semvcsmake_Program (k + 1) l a3 (p ++ [u]) (((k + 1 : Nat) : Int) - 1) r) ∧ ((b = false) → InI (((k + 1 : Nat) : Int) - 1) ∧ L0_semvcsmake_Program (k + 1) l a3 p (((k + 1 : Nat) : Int) - 1) r) ∧ kbulk r ≤ 900003 := fun u hu => by
        obtain ⟨b, hb'⟩ := c_ValidR u (by omega)
        have e : ((k + 1 : Nat) : Int) - 1 = (k : Int) := by omega
        rw [e]
        cases b with
        | true =>
          obtain ⟨r, hr, hrb⟩ := ihk a3 (p ++ [u]) g3 (by simp; omega) (by clear hb; rw [kbulk_app]; simp only [kbulk]; omega)
          exact ⟨true, r, hb', fun _ => ⟨by simp; omega, by omega, hr⟩, fun h => (by cases h), hrb⟩
        | false =>
          obtain ⟨r, hr, hrb⟩ := ihk a3 p g3 (by omega) hb3
          exact ⟨false, r, hb', fun h => (by cases h), fun _ => ⟨by omega, hr⟩, hrb⟩
      by_cases hz : z = 7
      · have hub : tbulk (.node t.kind [65] t.leads t.kids) ≤ 300001 := by have := tbulk_eq t; simp only [tbulk, List.length_cons, List.length_nil]; omega
        obtain ⟨b, r, e1, e2, e3, e4⟩ := step _ hub
        exact ⟨r, rL0_semvcsmake_Program (k + 1) _ _ _ _ _ ⟨fun _ => ⟨x, hx, _, _, _, q1, _, _, _, g1, fun _ => ⟨b, e1, e2, e3⟩, fun h => absurd hz h⟩, fun h => by omega⟩, e4⟩
      · obtain ⟨b, r, e1, e2, e3, e4⟩ := step t (by omega)
        exact ⟨r, rL0_semvcsmake_Program (k + 1) _ _ _ _ _ ⟨fun _ => ⟨x, hx, _, _, _, q1, _, _, _, g1, fun h => absurd h hz, fun _ => ⟨b, e1, e2, e3⟩⟩, fun h => by omega⟩, e4⟩
  obtain ⟨r, hr, hrb⟩ := loop n.toNat a1 [] h3 (by simp; omega) (by simp only [kbulk]; omega)
  exact ⟨r, rS_semvcsmake_Program (n.toNat + 1) _ _ ⟨_, _, rS_semvcsmake_Roll 0 _ _ _ ⟨by omega, rfl, rfl⟩, _, _, _, h1, by rw [show n = ((n.toNat : Nat) : Int) by omega]; exact hr⟩, by omega⟩
end Go.Proofs.YteglbnopdedadaaGreat
namespace Go.Proofs.YteglbnopdedadaaGreat
open Go.RowKit Lx Sx
set_option maxRecDepth 100000
set_option maxHeartbeats 4000000
def S_semvcsref03_At (p0 : Tree) (p1 : (List Int)) (r0 : Tree) (r1 : Bool) : Prop := Sum0 Tryz.prog 19 [.agg (treeC p0), .row 1 (List.map (V.int .i64) p1)] (.tup [.agg (treeC r0), .bool r1])
def S_slices_Clone_b (p0 : (List Int)) (r0 : (List Int)) : Prop := SumP [0] Tryz.prog 70 [.sl 0] ⟨1, [(0, .row 3 1 (List.map (V.int .i64) p0))]⟩ (fun u G => u = .row 1 (List.map (V.int .i64) r0) ∧ G = ⟨1, [(0, .row 3 1 (List.map (V.int .i64) p0))]⟩)
def L0_semvcsref03_At (m : Nat) (p1 : (List Int)) (t1v1 : Tree) (i1v2 : Nat) (r0 : Tree) (r1 : Bool) : Prop := ∀ (K : Ctx) (j1 : Nat), PinB K [] → m ≤ j1 → Go Tryz.prog K (bodyPost Tryz.prog Tryz.f19 (SP K (fun u _ => u = .tup [.agg (treeC r0), .bool r1]))) (.code (cL (cK (cB (cA (cB (bodyC Tryz.f19))))))) [.loop (cL (cK (cB (cA (cB (bodyC Tryz.f19)))))) j1, .blk 0, .seq (cB (cB (bodyC Tryz.f19)))] 38 (mkF 38 0 [(1, .row 1 (List.map (V.int .i64) p1)), (2, .ptr 0 0), (4, .ptr 1 0), (6, .int .i64 ((i1v2 : Nat) : Int))]) ⟨2, [(1, .var 32 [.int .i64 0, .str [], .nils, .nils]), (0, .var 32 (treeC t1v1))]⟩
theorem rS_semvcsref03_At (m : Nat) (p0 : Tree) (p1 : (List Int)) (r0 : Tree) (r1 : Bool) (h : L0_semvcsref03_At m p1 p0 0 r0 r1) : S_semvcsref03_At p0 p1 r0 r1 := by
  refine ⟨rfl, rfl, ?_⟩
  refine sum_enter 38 [] Tryz.func19 rfl rfl rfl (pv_of rfl) fun K hK => ?_
  refine gR 14 rfl ?_
  refine go_loop m ?_
  exact gJ (h K _ hK (by omega)) [0, 1] [] rfl hK ⟨⟨_, rfl, .rfl⟩, ⟨_, rfl, .rfl⟩, ⟨_, rfl, .rfl⟩, ⟨_, rfl, .rfl⟩, trivial⟩ ⟨⟨_, rfl, ⟨rfl, SubL.rfl⟩⟩, ⟨⟨_, rfl, ⟨rfl, SubL.rfl⟩⟩, trivial⟩⟩ rfl
theorem rL0_semvcsref03_At (m : Nat) (p1 : (List Int)) (t1v1 : Tree) (i1v2 : Nat) (r0 : Tree) (r1 : Bool) (h : ((i1v2 < p1.length) → ∃ (n1_1 : Int), p1[i1v2]? = some n1_1 ∧ ((n1_1 < 0) → (Tree.node 0 [] [] []) = r0 ∧ false = r1) ∧ ((¬ n1_1 < 0) → ∃ (n1_2 : Int), p1[i1v2]? = some n1_2 ∧ ((((t1v1.kids.length : Nat) : Int) ≤ n1_2) → (Tree.node 0 [] [] []) = r0 ∧ false = r1) ∧ ((¬ ((t1v1.kids.length : Nat) : Int) ≤ n1_2) → ∃ (n1_3 : Int), p1[i1v2]? = some n1_3 ∧ ∃ (k1_4 : Nat), n1_3 = ((k1_4 : Nat) : Int) ∧ ∃ (t1_5 : Tree), t1v1.kids[k1_4]? = some t1_5 ∧ L0_semvcsref03_At m p1 t1_5 (i1v2 + 1) r0 r1))) ∧ ((¬ i1v2 < p1.length) → t1v1 = r0 ∧ true = r1)) : L0_semvcsref03_At (m + 1) p1 t1v1 i1v2 r0 r1 := by
  intro K j1 hK hj1
  obtain ⟨j1, rfl⟩ : ∃ j, j1 = j + 1 := ⟨j1 - 1, by omega⟩
  refine gR 6 rfl ?_
  refine gV 9 (.int .i64 ((p1.length : Nat) : Int)) rfl (lenI (lenM (V.int .i64) _)) rfl ?_
  refine gLB 8 rfl (lenM (V.int .i64) _) fun hl11 => ?_
  refine gR 3 rfl ?_
  refine gB 10 rfl rfl rfl (fun hd => ?_) (fun hd => ?_)
  · replace hd := (natT hd)
    replace h := h.1 hd
    refine gR 7 rfl ?_
    refine gDs [0] 12 15 rfl (by kernel_rfl) (by kernel_rfl) ?_
    refine gDr [(0, 2), (1, 0)] (by kernel_rfl) rfl rfl ?_
    obtain ⟨n1_1, hxn1_1, h⟩ := h
    refine gYd1 2 rfl (by kernel_rfl) (yIR' (mapget (f := (V.int .i64)) hxn1_1) tabS_ok rfl rfl rfl rfl) rfl rfl ?_
    refine gDr [(3, 0), (4, 0), (5, 0)] (by kernel_rfl) rfl rfl ?_
    refine gB 18 rfl rfl rfl (fun hd => ?_) (fun hd => ?_)
    · refine gT 17 rfl hd rfl ?_
      replace hd := (of_decide_eq_true hd)
      replace h := h.1 hd
      refine gDr [(6, 2), (7, 2), (8, 2), (9, 2), (10, 0), (11, 0), (12, 0), (13, 0), (14, 1)] (by kernel_rfl) rfl rfl ?_
      refine gDe (by kernel_rfl) ?_
      refine gR 13 rfl ?_
      refine go_xloopR ?_
      refine gR 2 rfl ?_
      obtain ⟨rfl, rfl⟩ := h
      refine go_sub (F' := (mkF 38 0 [(4, .ptr 0 0), (5, .bool false)])) (H' := ⟨1, [(0, .var 32 [.int .i64 ((Tree.node 0 [] [] []).kind), .str ((Tree.node 0 [] [] []).text), .row 1 (List.map V.str ((Tree.node 0 [] [] []).leads)), .row 4 (kidsV ((Tree.node 0 [] [] []).kids))])]⟩) [1] [] rfl hK ⟨⟨_, rfl, .rfl⟩, ⟨_, rfl, .rfl⟩, trivial⟩ ⟨⟨_, rfl, ⟨rfl, (.cons .rfl (.cons .rfl (.cons (.nil 1) (.cons (.nil 4) .nil))))⟩⟩, trivial⟩ rfl ?_
      exact go_end tabS_ok (rs := [.cell 4 32, .tmp 5]) rfl rfl rfl
    · refine gF 17 rfl hd rfl ?_
      replace hd := (of_decide_eq_false hd)
      replace h := h.2 hd
      refine gDr [(6, 2), (7, 2)] (by kernel_rfl) rfl rfl ?_
      obtain ⟨n1_2, hxn1_2, h⟩ := h
      refine gYd 8 rfl (by kernel_rfl) (yIR' (mapget (f := (V.int .i64)) hxn1_2) tabS_ok rfl rfl rfl rfl) rfl rfl ?_
      refine gDr [(9, 2), (10, 0), (11, 0), (12, 1)] (by kernel_rfl) rfl rfl ?_
      refine gV 25 (.int .i64 ((t1v1.kids.length : Nat) : Int)) rfl (lenI (lenK _)) rfl ?_
      refine gLB 24 rfl (lenK _) fun hl15 => ?_
      refine gDr [(13, 1), (14, 1)] (by kernel_rfl) rfl rfl ?_
      refine gDe (by kernel_rfl) ?_
      refine gR 1 rfl ?_
      refine gB 27 rfl rfl rfl (fun hd => ?_) (fun hd => ?_)
      · replace hd := (of_decide_eq_true hd)
        replace h := h.1 hd
        refine gR 12 rfl ?_
        refine go_xloopR ?_
        refine gR 2 rfl ?_
        obtain ⟨rfl, rfl⟩ := h
        refine go_sub (F' := (mkF 38 0 [(4, .ptr 0 0), (5, .bool false)])) (H' := ⟨1, [(0, .var 32 [.int .i64 ((Tree.node 0 [] [] []).kind), .str ((Tree.node 0 [] [] []).text), .row 1 (List.map V.str ((Tree.node 0 [] [] []).leads)), .row 4 (kidsV ((Tree.node 0 [] [] []).kids))])]⟩) [1] [] rfl hK ⟨⟨_, rfl, .rfl⟩, ⟨_, rfl, .rfl⟩, trivial⟩ ⟨⟨_, rfl, ⟨rfl, (.cons .rfl (.cons .rfl (.cons (.nil 1) (.cons (.nil 4) .nil))))⟩⟩, trivial⟩ rfl ?_
        exact go_end tabS_ok (rs := [.cell 4 32, .tmp 5]) rfl rfl rfl
      · replace hd := (of_decide_eq_false hd)
        replace h := h.2 hd
        refine gR 3 rfl ?_
        refine gDs [0] 8 9 rfl (by kernel_rfl) (by kernel_rfl) ?_
        refine gDr [(0, 2), (1, 3), (2, 2), (3, 0)] (by kernel_rfl) rfl rfl ?_
        obtain ⟨n1_3, hxn1_3, h⟩ := h
        refine gYd1 4 rfl (by kernel_rfl) (yIR' (mapget (f := (V.int .i64)) hxn1_3) tabS_ok rfl rfl rfl rfl) rfl rfl ?_
        refine gDr [(5, 0)] (by kernel_rfl) rfl rfl ?_
        obtain ⟨k1_4, ek1_4, h⟩ := h
        refine gV 34 (.int .i64 ((k1_4 : Nat) : Int)) rfl (lenI' ek1_4) rfl ?_
        obtain ⟨t1_5, hxt1_5, h⟩ := h
        refine gYd1 6 rfl (by kernel_rfl) (yIR' (kidsV_get hxt1_5) tabS_ok rfl rfl rfl rfl) rfl rfl ?_
        refine gDr [(7, 0), (8, 1)] (by kernel_rfl) rfl rfl ?_
        refine gDe (by kernel_rfl) ?_
        refine gR 5 rfl ?_
        refine gV 12 (.int .i64 ((i1v2 + 1 : Nat) : Int)) rfl (wrapI (by have := hl11; omega) (by omega)) rfl ?_
        refine gR 2 rfl ?_
        refine go_xloop ?_
        exact gJ (h K _ hK (by omega)) [0, 1] [] rfl hK ⟨⟨_, rfl, .rfl⟩, ⟨_, rfl, .rfl⟩, ⟨_, rfl, .rfl⟩, ⟨_, rfl, .rfl⟩, trivial⟩ ⟨⟨_, rfl, ⟨rfl, SubL.rfl⟩⟩, ⟨⟨_, rfl, ⟨rfl, SubL.rfl⟩⟩, trivial⟩⟩ rfl
  · replace hd := (natF hd)
    replace h := h.2 hd
    refine gR 3 rfl ?_
    refine go_xloopE ?_
    refine gR 10 rfl ?_
    obtain ⟨rfl, rfl⟩ := h
    refine go_sub (F' := (mkF 38 0 [(4, .ptr 0 0), (5, .bool true)])) (H' := ⟨1, [(0, .var 32 [.int .i64 t1v1.kind, .str t1v1.text, .row 1 (List.map V.str t1v1.leads), .row 4 (kidsV t1v1.kids)])]⟩) [1] [] rfl hK ⟨⟨_, rfl, .rfl⟩, ⟨_, rfl, .rfl⟩, trivial⟩ ⟨⟨_, rfl, ⟨rfl, SubL.rfl⟩⟩, trivial⟩ rfl ?_
    exact go_end tabS_ok (rs := [.cell 4 32, .tmp 5]) rfl rfl rfl
theorem rS_slices_Clone_b (m : Nat) (p0 : (List Int)) (r0 : (List Int)) (h : ∀ (b0_1 : Bool), (b0_1 = true → p0.length = 0) → ((b0_1 = true) → [] = r0) ∧ ((b0_1 = false) → p0.length ≤ 1000000000 ∧ p0 = r0)) : S_slices_Clone_b p0 r0 := by
  refine sum_enter 8 [0] Tryz.func70 rfl rfl rfl (pv_of rfl) fun K hK => ?_
  refine gR 9 rfl ?_
  refine gEqNe (N := p0.length) tabS_ok rfl rfl rfl rfl (lenM (V.int .i64) p0) fun b0_1 hb => ?_
  replace h := h b0_1 hb
  refine gR 2 rfl ?_
  refine gB 4 rfl rfl rfl (fun hd => ?_) (fun hd => ?_)
  · skip
    replace h := h.1 hd
    refine gR 8 rfl ?_
    subst h
    refine go_sub (F' := (mkF 8 0 [(2, .row 1 (List.map (V.int .i64) []))])) (H' := ⟨1, [(0, .row 3 1 (List.map (V.int .i64) p0))]⟩) [0] [0] rfl hK ⟨⟨_, rfl, (.nil 1)⟩, trivial⟩ ⟨⟨_, rfl, ⟨rfl, rfl, (renM _ (V.int .i64) (fun _ => rfl) p0).symm⟩⟩, trivial⟩ rfl ?_
    exact go_endD [] tabS_ok (rs := [.tmp 2]) rfl rfl ⟨rfl, rfl⟩
  · skip
    replace h := h.2 hd
    refine gR 7 rfl ?_
    obtain ⟨hb, h⟩ := h
    refine gDo (.repl 1 (.row 3 1 (List.map (V.int .i64) p0))) (dAp' tabS_ok rfl rfl rfl rfl rfl (List.nil_append _) (by rw [lenM]; exact hb)) (okR rfl) rfl rfl rfl ?_
    refine gR 4 rfl ?_
    refine gFR 2 rfl (pureM _ (fun _ => rfl) _) rfl rfl ?_
    subst h
    refine go_sub (F' := (mkF 8 0 [(2, .row 1 (List.map (V.int .i64) p0))])) (H' := ⟨1, [(0, .row 3 1 (List.map (V.int .i64) p0))]⟩) [0] [0] rfl hK ⟨⟨_, rfl, .rfl⟩, trivial⟩ ⟨⟨_, rfl, ⟨rfl, rfl, (renM _ (V.int .i64) (fun _ => rfl) p0).symm⟩⟩, trivial⟩ rfl ?_
    exact go_endD [] tabS_ok (rs := [.tmp 2]) rfl rfl ⟨rfl, rfl⟩
end Go.Proofs.YteglbnopdedadaaGreat
namespace Go.Proofs.YteglbnopdedadaaGreat
open Go.RowKit Lx Sx
set_option maxRecDepth 100000
set_option maxHeartbeats 4000000
structure GPlace where
  Module : Int
  Path : (List Int)
abbrev GPlace.c (x : GPlace) : List V := [.int .i64 x.Module, .row 1 (List.map (V.int .i64) x.Path)]
abbrev GPlace.w (x : GPlace) : V := .agg x.c
structure GTarget where
  Use : GPlace
  Module : Int
  Def : Int
  Free : Bool
abbrev GTarget.c (x : GTarget) : List V := [.int .i64 x.Use.Module, .row 1 (List.map (V.int .i64) x.Use.Path), .int .i64 x.Module, .int .i64 x.Def, .bool x.Free]
abbrev GTarget.w (x : GTarget) : V := .agg x.c
def S_internal_stringslite_IndexByte (p0 : (List UInt8)) (p1 : Int) (r0 : Int) : Prop := Sum0 Tryz.prog 144 [.str p0, .int .u8 p1] (.int .i64 r0)
def S_link_program (p0 : (List Tree)) (r0 : Bool) : Prop := Sum0 Tryz.prog 41 [.row 4 (kidsV p0)] (.bool r0)
def S_link_lookup (p0 : (List Tree)) (p1 : Int) (p2 : (List UInt8)) (r0 : Int) (r1 : Int) (r2 : Bool) : Prop := Sum0 Tryz.prog 45 [.row 4 (kidsV p0), .int .i64 p1, .str p2] (.tup [.int .i64 r0, .int .i64 r1, .bool r2])
def S_link_Targets (p0 : (List Tree)) (r0 : (List GTarget)) : Prop := Sum0 Tryz.prog 15 [.row 4 (kidsV p0)] (.row 5 (List.map GTarget.w r0))
def S_link_Uses (p0 : (List Tree)) (p1 : Int) (p2 : Int) (r0 : (List GPlace)) : Prop := Sum0 Tryz.prog 17 [.row 4 (kidsV p0), .int .i64 p1, .int .i64 p2] (.row 2 (List.map GPlace.w r0))
def S_link_named (p0 : (List Tree)) (p1 : (List UInt8)) (r0 : Int) : Prop := Sum0 Tryz.prog 74 [.row 4 (kidsV p0), .str p1] (.int .i64 r0)
def S_link_named_1 (p0 : Tree) (p1 : (List UInt8)) (r0 : Bool) : Prop := Sum0 Tryz.prog 105 [.agg (treeC p0), .box [.str p1] 0] (.bool r0)
def S_link_collector_visit (p0_p : (List Tree)) (p0_module : Int) (p0_path : (List Int)) (p0_found : (List GTarget)) (p1 : Tree) (q0_p : (List Tree)) (q0_module : Int) (q0_path : (List Int)) (q0_found : (List GTarget)) : Prop := SumP [] Tryz.prog 42 [.ptr 0 0, .agg (treeC p1)] ⟨3, [(2, .row 38 5 (List.map GTarget.w p0_found)), (1, .row 3 1 (List.map (V.int .i64) p0_path)), (0, .var 71 [.row 4 (kidsV p0_p), .int .i64 p0_module, .sl 1, .sl 2])]⟩ (fun u G => u = .tup [] ∧ G = ⟨3, [(2, .row 38 5 (List.map GTarget.w q0_found)), (1, .row 3 1 (List.map (V.int .i64) q0_path)), (0, .var 71 [.row 4 (kidsV q0_p), .int .i64 q0_module, .sl 1, .sl 2])]⟩)
def S_slices_IndexFunc (p0 : (List Tree)) (p1_c0 : (List UInt8)) (r0 : Int) : Prop := Sum0 Tryz.prog 104 [.row 4 (kidsV p0), .clo 105 [.box [.str p1_c0] 0]] (.int .i64 r0)
def S_strings_Cut_dot (p0 : (List UInt8)) (r0 : (List UInt8)) (r1 : (List UInt8)) (r2 : Bool) : Prop := Sum0 Tryz.prog 73 [.str p0, .str [46]] (.tup [.str r0, .str r1, .bool r2])
def S_internal_stringslite_Cut_dot (p0 : (List UInt8)) (r0 : (List UInt8)) (r1 : (List UInt8)) (r2 : Bool) : Prop := Sum0 Tryz.prog 103 [.str p0, .str [46]] (.tup [.str r0, .str r1, .bool r2])
def S_internal_stringslite_Index_dot (p0 : (List UInt8)) (r0 : Int) : Prop := Sum0 Tryz.prog 138 [.str p0, .str [46]] (.int .i64 r0)
def L0_link_program (m : Nat) (p0 : (List Tree)) (i1v1 : Nat) (r0 : Bool) : Prop := ∀ (K : Ctx) (j1 : Nat), PinB K [] → m ≤ j1 → Go Tryz.prog K (bodyPost Tryz.prog Tryz.f41 (SP K (fun u _ => u = .bool r0))) (.code (cL (cK (cB (cA (cB (bodyC Tryz.f41))))))) [.loop (cL (cK (cB (cA (cB (bodyC Tryz.f41)))))) j1, .blk 0, .seq (cB (cB (bodyC Tryz.f41)))] 20 (mkF 20 0 [(5, .row 4 (kidsV p0)), (6, .int .i64 ((p0.length : Nat) : Int)), (7, .int .i64 ((i1v1 : Nat) : Int))]) ⟨0, []⟩
theorem rS_link_program (m : Nat) (p0 : (List Tree)) (r0 : Bool) (h : L0_link_program m p0 0 r0) : S_link_program p0 r0 := by
  refine ⟨rfl, rfl, ?_⟩
  refine sum_enter 20 [] Tryz.func41 rfl rfl rfl (pv_of rfl) fun K hK => ?_
  refine gR 10 rfl ?_
  refine gV 6 (.int .i64 ((p0.length : Nat) : Int)) rfl (lenI (lenK _)) rfl ?_
  refine gLB 5 rfl (lenK _) fun hl5 => ?_
  refine gR 4 rfl ?_
  refine go_loop m ?_
  exact gJ (h K _ hK (by omega)) [] [] rfl hK ⟨⟨_, rfl, .rfl⟩, ⟨_, rfl, .rfl⟩, ⟨_, rfl, .rfl⟩, trivial⟩ trivial rfl
theorem rL0_link_program (m : Nat) (p0 : (List Tree)) (i1v1 : Nat) (r0 : Bool) (h : ((i1v1 < p0.length) → ∃ (t1_1 : Tree), p0[i1v1]? = some t1_1 ∧ ((t1_1.kind ≠ 1) → false = r0) ∧ ((t1_1.kind = 1) → ∃ (b1_2 : Bool), S_syntax_Shaped t1_1 b1_2 ∧ ((b1_2 = false) → false = r0) ∧ ((b1_2 = true) → i1v1 + 1 ≤ 9223372036854775807 ∧ L0_link_program m p0 (i1v1 + 1) r0))) ∧ ((¬ i1v1 < p0.length) → true = r0)) : L0_link_program (m + 1) p0 i1v1 r0 := by
  intro K j1 hK hj1
  obtain ⟨j1, rfl⟩ : ∃ j, j1 = j + 1 := ⟨j1 - 1, by omega⟩
  refine gR 6 rfl ?_
  refine gB 8 rfl rfl rfl (fun hd => ?_) (fun hd => ?_)
  · replace hd := (natT hd)
    replace h := h.1 hd
    refine gR 7 rfl ?_
    obtain ⟨t1_1, hxt1_1, h⟩ := h
    refine gY (yIR' (kidsV_get hxt1_1) tabS_ok rfl rfl rfl rfl) rfl rfl ?_
    refine gR 11 rfl ?_
    refine gB 14 rfl rfl rfl (fun hd => ?_) (fun hd => ?_)
    · refine gT 13 rfl hd rfl ?_
      replace hd := (xneT hd)
      replace h := h.1 hd
      refine gR 15 rfl ?_
      refine go_xloopR ?_
      refine gR 2 rfl ?_
      subst h
      refine go_sub (F' := (mkF 20 0 [(2, .bool false)])) (H' := ⟨0, []⟩) [] [] rfl hK ⟨⟨_, rfl, .rfl⟩, trivial⟩ trivial rfl ?_
      exact go_end tabS_ok (rs := [.tmp 2]) rfl rfl rfl
    · refine gF 13 rfl hd rfl ?_
      replace hd := (bneFE hd)
      replace h := h.2 hd
      refine gR 1 rfl ?_
      obtain ⟨b1_2, hs6, h⟩ := h
      refine gC0 hs6 (by kernel_rfl) rfl rfl .rfl rfl ?_
      refine gR 4 rfl ?_
      refine gB 18 rfl rfl rfl (fun hd => ?_) (fun hd => ?_)
      · replace hd := (not_t hd)
        replace h := h.1 hd
        refine gR 9 rfl ?_
        refine go_xloopR ?_
        refine gR 2 rfl ?_
        subst h
        refine go_sub (F' := (mkF 20 0 [(2, .bool false)])) (H' := ⟨0, []⟩) [] [] rfl hK ⟨⟨_, rfl, .rfl⟩, trivial⟩ trivial rfl ?_
        exact go_end tabS_ok (rs := [.tmp 2]) rfl rfl rfl
      · replace hd := (not_f hd)
        replace h := h.2 hd
        refine gR 5 rfl ?_
        obtain ⟨hb, h⟩ := h
        refine gR 1 rfl ?_
        refine gV 19 (.int .i64 ((i1v1 + 1 : Nat) : Int)) rfl (wrapI (by omega) (by omega)) rfl ?_
        refine gR 2 rfl ?_
        refine go_xloop ?_
        exact gJ (h K _ hK (by omega)) [] [] rfl hK ⟨⟨_, rfl, .rfl⟩, ⟨_, rfl, .rfl⟩, ⟨_, rfl, .rfl⟩, trivial⟩ trivial rfl
  · replace hd := (natF hd)
    replace h := h.2 hd
    refine gR 3 rfl ?_
    refine go_xloopE ?_
    refine gR 8 rfl ?_
    subst h
    refine go_sub (F' := (mkF 20 0 [(2, .bool true)])) (H' := ⟨0, []⟩) [] [] rfl hK ⟨⟨_, rfl, .rfl⟩, trivial⟩ trivial rfl ?_
    exact go_end tabS_ok (rs := [.tmp 2]) rfl rfl rfl
def L0_link_lookup (m : Nat) (p0 : (List Tree)) (z1v1 : Int) (s1v2 : (List UInt8)) (r0 : Int) (r1 : Int) (r2 : Bool) : Prop := ∀ (K : Ctx), PinB K [] → Go Tryz.prog K (bodyPost Tryz.prog Tryz.f45 (SP K (fun u _ => u = .tup [.int .i64 r0, .int .i64 r1, .bool r2]))) (.code (cB (cB (cB (bodyC Tryz.f45))))) [] 45 (mkF 45 0 [(0, .row 4 (kidsV p0)), (1, .int .i64 z1v1), (2, .str s1v2)]) ⟨0, []⟩
theorem rS_link_lookup (m : Nat) (p0 : (List Tree)) (p1 : Int) (p2 : (List UInt8)) (r0 : Int) (r1 : Int) (r2 : Bool) (h : ((p1 < 0) → 0 = r0 ∧ 0 = r1 ∧ false = r2) ∧ ((¬ p1 < 0) → ((((p0.length : Nat) : Int) ≤ p1) → 0 = r0 ∧ 0 = r1 ∧ false = r2) ∧ ((¬ ((p0.length : Nat) : Int) ≤ p1) → ∃ (s0_1 : (List UInt8)), ∃ (s0_2 : (List UInt8)), ∃ (b0_3 : Bool), S_strings_Cut_dot p2 s0_1 s0_2 b0_3 ∧ ((b0_3 = true) → ∃ (n0_4 : Int), S_link_named p0 s0_1 n0_4 ∧ L0_link_lookup m p0 n0_4 s0_2 r0 r1 r2) ∧ ((b0_3 = false) → L0_link_lookup m p0 p1 p2 r0 r1 r2)))) : S_link_lookup p0 p1 p2 r0 r1 r2 := by
  refine ⟨rfl, rfl, ?_⟩
  refine sum_enter 45 [] Tryz.func45 rfl rfl rfl (pv_of rfl) fun K hK => ?_
  refine gR 13 rfl ?_
  refine gB 15 rfl rfl rfl (fun hd => ?_) (fun hd => ?_)
  · refine gT 14 rfl hd rfl ?_
    replace hd := (of_decide_eq_true hd)
    replace h := h.1 hd
    refine gR 17 rfl ?_
    obtain ⟨rfl, rfl, rfl⟩ := h
    refine go_sub (F' := (mkF 45 0 [(6, .int .i64 0), (7, .int .i64 0), (8, .bool false)])) (H' := ⟨0, []⟩) [] [] rfl hK ⟨⟨_, rfl, .rfl⟩, ⟨_, rfl, .rfl⟩, ⟨_, rfl, .rfl⟩, trivial⟩ trivial rfl ?_
    exact go_end tabS_ok (rs := [.tmp 6, .tmp 7, .tmp 8]) rfl rfl rfl
  · refine gF 14 rfl hd rfl ?_
    replace hd := (of_decide_eq_false hd)
    replace h := h.2 hd
    refine gR 3 rfl ?_
    refine gV 18 (.int .i64 ((p0.length : Nat) : Int)) rfl (lenI (lenK _)) rfl ?_
    refine gLB 17 rfl (lenK _) fun hl13 => ?_
    refine gR 4 rfl ?_
    refine gB 20 rfl rfl rfl (fun hd => ?_) (fun hd => ?_)
    · replace hd := (of_decide_eq_true hd)
      replace h := h.1 hd
      refine gR 10 rfl ?_
      obtain ⟨rfl, rfl, rfl⟩ := h
      refine go_sub (F' := (mkF 45 0 [(6, .int .i64 0), (7, .int .i64 0), (8, .bool false)])) (H' := ⟨0, []⟩) [] [] rfl hK ⟨⟨_, rfl, .rfl⟩, ⟨_, rfl, .rfl⟩, ⟨_, rfl, .rfl⟩, trivial⟩ trivial rfl ?_
      exact go_end tabS_ok (rs := [.tmp 6, .tmp 7, .tmp 8]) rfl rfl rfl
    · replace hd := (of_decide_eq_false hd)
      replace h := h.2 hd
      refine gR 7 rfl ?_
      obtain ⟨s0_1, s0_2, b0_3, hs14, h⟩ := h
      refine gC0 hs14 (by kernel_rfl) rfl rfl .rfl rfl ?_
      refine gR 14 rfl ?_
      refine gB 27 rfl rfl rfl (fun hd => ?_) (fun hd => ?_)
      · refine gT 11 rfl hd rfl ?_
        refine gT 26 rfl hd rfl ?_
        skip
        replace h := h.1 hd
        refine gR 4 rfl ?_
        obtain ⟨n0_4, hs15, h⟩ := h
        refine gC0 hs15 (by kernel_rfl) rfl rfl .rfl rfl ?_
        refine gR 5 rfl ?_
        exact gJ (h K hK) [] [] rfl hK ⟨⟨_, rfl, .rfl⟩, ⟨_, rfl, .rfl⟩, ⟨_, rfl, .rfl⟩, trivial⟩ trivial rfl
      · refine gF 11 rfl hd rfl ?_
        refine gF 26 rfl hd rfl ?_
        skip
        replace h := h.2 hd
        refine gR 3 rfl ?_
        exact gJ (h K hK) [] [] rfl hK ⟨⟨_, rfl, .rfl⟩, ⟨_, rfl, .rfl⟩, ⟨_, rfl, .rfl⟩, trivial⟩ trivial rfl
theorem rL0_link_lookup (m : Nat) (p0 : (List Tree)) (z1v1 : Int) (s1v2 : (List UInt8)) (r0 : Int) (r1 : Int) (r2 : Bool) (h : ((z1v1 < 0) → 0 = r0 ∧ 0 = r1 ∧ false = r2) ∧ ((¬ z1v1 < 0) → ∃ (k1_1 : Nat), z1v1 = ((k1_1 : Nat) : Int) ∧ ∃ (t1_2 : Tree), p0[k1_1]? = some t1_2 ∧ ∃ (n1_3 : Int), S_link_named t1_2.kids s1v2 n1_3 ∧ ((n1_3 < 0) → 0 = r0 ∧ 0 = r1 ∧ false = r2) ∧ ((¬ n1_3 < 0) → z1v1 = r0 ∧ n1_3 = r1 ∧ true = r2))) : L0_link_lookup (m + 1) p0 z1v1 s1v2 r0 r1 r2 := by
  intro K hK
  refine gR 7 rfl ?_
  refine gB 33 rfl rfl rfl (fun hd => ?_) (fun hd => ?_)
  · replace hd := (of_decide_eq_true hd)
    replace h := h.1 hd
    refine gR 10 rfl ?_
    obtain ⟨rfl, rfl, rfl⟩ := h
    refine go_sub (F' := (mkF 45 0 [(6, .int .i64 0), (7, .int .i64 0), (8, .bool false)])) (H' := ⟨0, []⟩) [] [] rfl hK ⟨⟨_, rfl, .rfl⟩, ⟨_, rfl, .rfl⟩, ⟨_, rfl, .rfl⟩, trivial⟩ trivial rfl ?_
    exact go_end tabS_ok (rs := [.tmp 6, .tmp 7, .tmp 8]) rfl rfl rfl
  · replace hd := (of_decide_eq_false hd)
    replace h := h.2 hd
    refine gR 7 rfl ?_
    obtain ⟨k1_1, ek1_1, h⟩ := h
    refine gV 35 (.int .i64 ((k1_1 : Nat) : Int)) rfl (lenI' ek1_1) rfl ?_
    obtain ⟨t1_2, hxt1_2, h⟩ := h
    refine gY (yIR' (kidsV_get hxt1_2) tabS_ok rfl rfl rfl rfl) rfl rfl ?_
    refine gR 3 rfl ?_
    obtain ⟨n1_3, hs16, h⟩ := h
    refine gC0 hs16 (by kernel_rfl) rfl rfl .rfl rfl ?_
    refine gR 10 rfl ?_
    refine gB 42 rfl rfl rfl (fun hd => ?_) (fun hd => ?_)
    · replace hd := (of_decide_eq_true hd)
      replace h := h.1 hd
      refine gR 10 rfl ?_
      obtain ⟨rfl, rfl, rfl⟩ := h
      refine go_sub (F' := (mkF 45 0 [(6, .int .i64 0), (7, .int .i64 0), (8, .bool false)])) (H' := ⟨0, []⟩) [] [] rfl hK ⟨⟨_, rfl, .rfl⟩, ⟨_, rfl, .rfl⟩, ⟨_, rfl, .rfl⟩, trivial⟩ trivial rfl ?_
      exact go_end tabS_ok (rs := [.tmp 6, .tmp 7, .tmp 8]) rfl rfl rfl
    · replace hd := (of_decide_eq_false hd)
      replace h := h.2 hd
      refine gR 13 rfl ?_
      obtain ⟨rfl, rfl, rfl⟩ := h
      refine go_sub (F' := (mkF 45 0 [(6, .int .i64 z1v1), (7, .int .i64 n1_3), (8, .bool true)])) (H' := ⟨0, []⟩) [] [] rfl hK ⟨⟨_, rfl, .rfl⟩, ⟨_, rfl, .rfl⟩, ⟨_, rfl, .rfl⟩, trivial⟩ trivial rfl ?_
      exact go_end tabS_ok (rs := [.tmp 6, .tmp 7, .tmp 8]) rfl rfl rfl
def L0_link_Targets (m : Nat) (p0 : (List Tree)) (l1v1 : (List Tree)) (z1v2 : Int) (l1v3 : (List Int)) (l1v4 : (List GTarget)) (i1v5 : Nat) (r0 : (List GTarget)) : Prop := ∀ (K : Ctx) (j1 : Nat), PinB K [] → m ≤ j1 → Go Tryz.prog K (bodyPost Tryz.prog Tryz.f15 (SP K (fun u _ => u = .row 5 (List.map GTarget.w r0)))) (.code (cL (cK (cB (cA (cB (cB (cB (bodyC Tryz.f15))))))))) [.loop (cL (cK (cB (cA (cB (cB (cB (bodyC Tryz.f15)))))))) j1, .blk 0, .seq (cB (cB (cB (cB (bodyC Tryz.f15)))))] 25 (mkF 25 0 [(3, .ptr 0 0), (11, .row 4 (kidsV p0)), (12, .int .i64 ((p0.length : Nat) : Int)), (13, .int .i64 ((i1v5 : Nat) : Int))]) ⟨3, [(2, .row 38 5 (List.map GTarget.w l1v4)), (1, .row 3 1 (List.map (V.int .i64) l1v3)), (0, .var 71 [.row 4 (kidsV l1v1), .int .i64 z1v2, .sl 1, .sl 2])]⟩
theorem rS_link_Targets (m : Nat) (p0 : (List Tree)) (r0 : (List GTarget)) (h : ∃ (b0_1 : Bool), S_link_program p0 b0_1 ∧ ((b0_1 = false) → [] = r0) ∧ ((b0_1 = true) → L0_link_Targets m p0 p0 0 ([] : List Int) ([] : List GTarget) 0 r0)) : S_link_Targets p0 r0 := by
  refine ⟨rfl, rfl, ?_⟩
  refine sum_enter 25 [] Tryz.func15 rfl rfl rfl (pv_of rfl) fun K hK => ?_
  refine gR 9 rfl ?_
  obtain ⟨b0_1, hs7, h⟩ := h
  refine gC0 hs7 (by kernel_rfl) rfl rfl .rfl rfl ?_
  refine gR 3 rfl ?_
  refine gB 8 rfl rfl rfl (fun hd => ?_) (fun hd => ?_)
  · replace hd := (not_t hd)
    replace h := h.1 hd
    refine gR 8 rfl ?_
    subst h
    refine go_sub (F' := (mkF 25 0 [(2, .row 5 (List.map GTarget.w []))])) (H' := ⟨0, []⟩) [] [] rfl hK ⟨⟨_, rfl, (.nil 5)⟩, trivial⟩ trivial rfl ?_
    exact go_end tabS_ok (rs := [.tmp 2]) rfl rfl rfl
  · replace hd := (not_f hd)
    replace h := h.2 hd
    refine gR 16 rfl ?_
    refine gV 12 (.int .i64 ((p0.length : Nat) : Int)) rfl (lenI (lenK _)) rfl ?_
    refine gLB 11 rfl (lenK _) fun hl8 => ?_
    refine gR 4 rfl ?_
    refine go_loop m ?_
    refine gNC 0 2 3 1 rfl rfl rfl rfl ?_
    refine gNC 0 3 38 5 rfl rfl rfl rfl ?_
    exact gJ (h K _ hK (by omega)) [0, 1, 2] [] rfl hK ⟨⟨_, rfl, .rfl⟩, ⟨_, rfl, .rfl⟩, ⟨_, rfl, .rfl⟩, ⟨_, rfl, .rfl⟩, trivial⟩ ⟨⟨_, rfl, ⟨rfl, rfl, rfl⟩⟩, ⟨⟨_, rfl, ⟨rfl, rfl, rfl⟩⟩, ⟨⟨_, rfl, ⟨rfl, SubL.rfl⟩⟩, trivial⟩⟩⟩ rfl
theorem rL0_link_Targets (m : Nat) (p0 : (List Tree)) (l1v1 : (List Tree)) (z1v2 : Int) (l1v3 : (List Int)) (l1v4 : (List GTarget)) (i1v5 : Nat) (r0 : (List GTarget)) (h : ((i1v5 < p0.length) → ∃ (t1_1 : Tree), p0[i1v5]? = some t1_1 ∧ ∃ (r1_2 : (List Tree)), ∃ (n1_3 : Int), ∃ (r1_4 : (List Int)), ∃ (r1_5 : (List GTarget)), S_link_collector_visit l1v1 ((i1v5 : Nat) : Int) l1v3 l1v4 t1_1 r1_2 n1_3 r1_4 r1_5 ∧ i1v5 + 1 ≤ 9223372036854775807 ∧ L0_link_Targets m p0 r1_2 n1_3 r1_4 r1_5 (i1v5 + 1) r0) ∧ ((¬ i1v5 < p0.length) → l1v4 = r0)) : L0_link_Targets (m + 1) p0 l1v1 z1v2 l1v3 l1v4 i1v5 r0 := by
  intro K j1 hK hj1
  obtain ⟨j1, rfl⟩ : ∃ j, j1 = j + 1 := ⟨j1 - 1, by omega⟩
  refine gR 6 rfl ?_
  refine gB 14 rfl rfl rfl (fun hd => ?_) (fun hd => ?_)
  · replace hd := (natT hd)
    replace h := h.1 hd
    refine gR 8 rfl ?_
    obtain ⟨t1_1, hxt1_1, h⟩ := h
    refine gY (yIR' (kidsV_get hxt1_1) tabS_ok rfl rfl rfl rfl) rfl rfl ?_
    refine gR 15 rfl ?_
    obtain ⟨r1_2, n1_3, r1_4, r1_5, hs9, h⟩ := h
    refine gC hs9 [0, 1, 2] (by kernel_rfl) rfl rfl .rfl ⟨⟨_, rfl, ⟨rfl, rfl, (renM _ GTarget.w (fun _ => rfl) l1v4).symm⟩⟩, ⟨⟨_, rfl, ⟨rfl, rfl, (renM _ (V.int .i64) (fun _ => rfl) l1v3).symm⟩⟩, ⟨⟨_, rfl, ⟨rfl, SubL.rfl⟩⟩, trivial⟩⟩⟩ rfl ?_
    rintro _ _ ⟨rfl, rfl⟩
    refine gHR 5 (List.map (V.int .i64) r1_4) rfl (renM _ (V.int .i64) (fun _ => rfl) r1_4) rfl ?_
    refine gHR 6 (List.map GTarget.w r1_5) rfl (renM _ GTarget.w (fun _ => rfl) r1_5) rfl ?_
    refine gR 4 rfl ?_
    obtain ⟨hb, h⟩ := h
    refine gR 1 rfl ?_
    refine gV 22 (.int .i64 ((i1v5 + 1 : Nat) : Int)) rfl (wrapI (by omega) (by omega)) rfl ?_
    refine gR 2 rfl ?_
    refine go_xloop ?_
    exact gJ (h K _ hK (by omega)) [0, 5, 6] [] rfl hK ⟨⟨_, rfl, .rfl⟩, ⟨_, rfl, .rfl⟩, ⟨_, rfl, .rfl⟩, ⟨_, rfl, .rfl⟩, trivial⟩ ⟨⟨_, rfl, ⟨rfl, rfl, (renM _ GTarget.w (fun _ => rfl) r1_5).symm⟩⟩, ⟨⟨_, rfl, ⟨rfl, rfl, (renM _ (V.int .i64) (fun _ => rfl) r1_4).symm⟩⟩, ⟨⟨_, rfl, ⟨rfl, SubL.rfl⟩⟩, trivial⟩⟩⟩ rfl
  · replace hd := (natF hd)
    replace h := h.2 hd
    refine gR 3 rfl ?_
    refine go_xloopE ?_
    refine gR 10 rfl ?_
    refine gFR 2 rfl (pureM _ (fun _ => rfl) _) rfl rfl ?_
    subst h
    refine go_sub (F' := (mkF 25 0 [(2, .row 5 (List.map GTarget.w l1v4))])) (H' := ⟨0, []⟩) [] [] rfl hK ⟨⟨_, rfl, .rfl⟩, trivial⟩ trivial rfl ?_
    exact go_end tabS_ok (rs := [.tmp 2]) rfl rfl rfl
def L0_link_Uses (m : Nat) (p1 : Int) (p2 : Int) (r0_1 : (List GTarget)) (l1v1 : (List GPlace)) (i1v2 : Nat) (r0 : (List GPlace)) : Prop := ∀ (K : Ctx) (j1 : Nat), PinB K [] → m ≤ j1 → Go Tryz.prog K (bodyPost Tryz.prog Tryz.f17 (SP K (fun u _ => u = .row 2 (List.map GPlace.w r0)))) (.code (cL (cK (cB (cA (cB (cB (bodyC Tryz.f17)))))))) [.loop (cL (cK (cB (cA (cB (cB (bodyC Tryz.f17))))))) j1, .blk 0, .seq (cB (cB (cB (bodyC Tryz.f17))))] 39 (mkF 39 0 [(1, .int .i64 p1), (2, .int .i64 p2), (7, .sl 0), (11, .row 5 (List.map GTarget.w r0_1)), (12, .int .i64 ((r0_1.length : Nat) : Int)), (13, .int .i64 ((i1v2 : Nat) : Int))]) ⟨1, [(0, .row 36 2 (List.map GPlace.w l1v1))]⟩
theorem rS_link_Uses (m : Nat) (p0 : (List Tree)) (p1 : Int) (p2 : Int) (r0 : (List GPlace)) (h : ∃ (r0_1 : (List GTarget)), S_link_Targets p0 r0_1 ∧ L0_link_Uses m p1 p2 r0_1 ([] : List GPlace) 0 r0) : S_link_Uses p0 p1 p2 r0 := by
  refine ⟨rfl, rfl, ?_⟩
  refine sum_enter 39 [] Tryz.func17 rfl rfl rfl (pv_of rfl) fun K hK => ?_
  refine gR 14 rfl ?_
  obtain ⟨r0_1, hs5, h⟩ := h
  refine gC0 hs5 (by kernel_rfl) rfl rfl .rfl rfl ?_
  refine gR 1 rfl ?_
  refine gV 12 (.int .i64 ((r0_1.length : Nat) : Int)) rfl (lenI (lenM GTarget.w _)) rfl ?_
  refine gLB 11 rfl (lenM GTarget.w _) fun hl6 => ?_
  refine gR 4 rfl ?_
  refine go_loop m ?_
  refine gNS 7 36 2 rfl rfl rfl rfl ?_
  exact gJ (h K _ hK (by omega)) [0] [] rfl hK ⟨⟨_, rfl, .rfl⟩, ⟨_, rfl, .rfl⟩, ⟨_, rfl, .rfl⟩, ⟨_, rfl, .rfl⟩, ⟨_, rfl, .rfl⟩, ⟨_, rfl, .rfl⟩, trivial⟩ ⟨⟨_, rfl, ⟨rfl, rfl, rfl⟩⟩, trivial⟩ rfl
theorem rL0_link_Uses (m : Nat) (p1 : Int) (p2 : Int) (r0_1 : (List GTarget)) (l1v1 : (List GPlace)) (i1v2 : Nat) (r0 : (List GPlace)) (h : ((i1v2 < r0_1.length) → ∃ (x1_1 : GTarget), r0_1[i1v2]? = some x1_1 ∧ ((x1_1.Free = false) → ((x1_1.Module = p1) → ((x1_1.Def = p2) → (l1v1 ++ [x1_1.Use]).length ≤ 1000000000 ∧ i1v2 + 1 ≤ 9223372036854775807 ∧ L0_link_Uses m p1 p2 r0_1 (l1v1 ++ [x1_1.Use]) (i1v2 + 1) r0) ∧ ((x1_1.Def ≠ p2) → i1v2 + 1 ≤ 9223372036854775807 ∧ L0_link_Uses m p1 p2 r0_1 l1v1 (i1v2 + 1) r0)) ∧ ((x1_1.Module ≠ p1) → i1v2 + 1 ≤ 9223372036854775807 ∧ L0_link_Uses m p1 p2 r0_1 l1v1 (i1v2 + 1) r0)) ∧ ((x1_1.Free = true) → i1v2 + 1 ≤ 9223372036854775807 ∧ L0_link_Uses m p1 p2 r0_1 l1v1 (i1v2 + 1) r0)) ∧ ((¬ i1v2 < r0_1.length) → l1v1 = r0)) : L0_link_Uses (m + 1) p1 p2 r0_1 l1v1 i1v2 r0 := by
  intro K j1 hK hj1
  obtain ⟨j1, rfl⟩ : ∃ j, j1 = j + 1 := ⟨j1 - 1, by omega⟩
  refine gR 6 rfl ?_
  refine gB 14 rfl rfl rfl (fun hd => ?_) (fun hd => ?_)
  · replace hd := (natT hd)
    replace h := h.1 hd
    refine gR 7 rfl ?_
    obtain ⟨x1_1, hxx1_1, h⟩ := h
    refine gY (yIR' (mapget (f := GTarget.w) hxx1_1) tabS_ok rfl rfl rfl rfl) rfl rfl ?_
    refine gR 11 rfl ?_
    refine gB 20 rfl rfl rfl (fun hd => ?_) (fun hd => ?_)
    · refine gT 19 rfl hd rfl ?_
      replace hd := (not_t hd)
      replace h := h.1 hd
      refine gR 6 rfl ?_
      refine gB 26 rfl rfl rfl (fun hd => ?_) (fun hd => ?_)
      · refine gT 25 rfl hd rfl ?_
        replace hd := (eq_of_beq hd)
        replace h := h.1 hd
        refine gR 7 rfl ?_
        refine gB 31 rfl rfl rfl (fun hd => ?_) (fun hd => ?_)
        · replace hd := (eq_of_beq hd)
          replace h := h.1 hd
          refine gR 6 rfl ?_
          obtain ⟨hb, h⟩ := h
          refine gDo (.repl 0 (.row 36 2 (List.map GPlace.w (l1v1 ++ [x1_1.Use])))) (dAp' tabS_ok rfl rfl rfl rfl rfl (apM GPlace.w l1v1 x1_1.Use) (by rw [lenM]; exact hb)) (okR rfl) rfl rfl rfl ?_
          refine gR 5 rfl ?_
          obtain ⟨hb, h⟩ := h
          refine gR 1 rfl ?_
          refine gV 37 (.int .i64 ((i1v2 + 1 : Nat) : Int)) rfl (wrapI (by omega) (by omega)) rfl ?_
          refine gR 2 rfl ?_
          refine go_xloop ?_
          exact gJ (h K _ hK (by omega)) [3] [] rfl hK ⟨⟨_, rfl, .rfl⟩, ⟨_, rfl, .rfl⟩, ⟨_, rfl, .rfl⟩, ⟨_, rfl, .rfl⟩, ⟨_, rfl, .rfl⟩, ⟨_, rfl, .rfl⟩, trivial⟩ ⟨⟨_, rfl, ⟨rfl, rfl, (renM _ GPlace.w (fun _ => rfl) (l1v1 ++ [x1_1.Use])).symm⟩⟩, trivial⟩ rfl
        · replace hd := (ne_of_beq_false hd)
          replace h := h.2 hd
          refine gR 5 rfl ?_
          obtain ⟨hb, h⟩ := h
          refine gR 1 rfl ?_
          refine gV 37 (.int .i64 ((i1v2 + 1 : Nat) : Int)) rfl (wrapI (by omega) (by omega)) rfl ?_
          refine gR 2 rfl ?_
          refine go_xloop ?_
          exact gJ (h K _ hK (by omega)) [0] [] rfl hK ⟨⟨_, rfl, .rfl⟩, ⟨_, rfl, .rfl⟩, ⟨_, rfl, .rfl⟩, ⟨_, rfl, .rfl⟩, ⟨_, rfl, .rfl⟩, ⟨_, rfl, .rfl⟩, trivial⟩ ⟨⟨_, rfl, ⟨rfl, rfl, (renM _ GPlace.w (fun _ => rfl) l1v1).symm⟩⟩, trivial⟩ rfl
      · refine gF 25 rfl hd rfl ?_
        replace hd := (ne_of_beq_false hd)
        replace h := h.2 hd
        refine gR 12 rfl ?_
        obtain ⟨hb, h⟩ := h
        refine gR 1 rfl ?_
        refine gV 37 (.int .i64 ((i1v2 + 1 : Nat) : Int)) rfl (wrapI (by omega) (by omega)) rfl ?_
        refine gR 2 rfl ?_
        refine go_xloop ?_
        exact gJ (h K _ hK (by omega)) [0] [] rfl hK ⟨⟨_, rfl, .rfl⟩, ⟨_, rfl, .rfl⟩, ⟨_, rfl, .rfl⟩, ⟨_, rfl, .rfl⟩, ⟨_, rfl, .rfl⟩, ⟨_, rfl, .rfl⟩, trivial⟩ ⟨⟨_, rfl, ⟨rfl, rfl, (renM _ GPlace.w (fun _ => rfl) l1v1).symm⟩⟩, trivial⟩ rfl
    · refine gF 19 rfl hd rfl ?_
      replace hd := (not_f hd)
      replace h := h.2 hd
      refine gR 18 rfl ?_
      obtain ⟨hb, h⟩ := h
      refine gR 1 rfl ?_
      refine gV 37 (.int .i64 ((i1v2 + 1 : Nat) : Int)) rfl (wrapI (by omega) (by omega)) rfl ?_
      refine gR 2 rfl ?_
      refine go_xloop ?_
      exact gJ (h K _ hK (by omega)) [0] [] rfl hK ⟨⟨_, rfl, .rfl⟩, ⟨_, rfl, .rfl⟩, ⟨_, rfl, .rfl⟩, ⟨_, rfl, .rfl⟩, ⟨_, rfl, .rfl⟩, ⟨_, rfl, .rfl⟩, trivial⟩ ⟨⟨_, rfl, ⟨rfl, rfl, (renM _ GPlace.w (fun _ => rfl) l1v1).symm⟩⟩, trivial⟩ rfl
  · replace hd := (natF hd)
    replace h := h.2 hd
    refine gR 3 rfl ?_
    refine go_xloopE ?_
    refine gR 9 rfl ?_
    refine gFR 0 rfl (pureM _ (fun _ => rfl) _) rfl rfl ?_
    subst h
    refine go_sub (F' := (mkF 39 0 [(6, .row 2 (List.map GPlace.w l1v1))])) (H' := ⟨0, []⟩) [] [] rfl hK ⟨⟨_, rfl, .rfl⟩, trivial⟩ trivial rfl ?_
    exact go_end tabS_ok (rs := [.tmp 6]) rfl rfl rfl
theorem rS_link_named (m : Nat) (p0 : (List Tree)) (p1 : (List UInt8)) (r0 : Int) (h : ∃ (n0_1 : Int), S_slices_IndexFunc p0 p1 n0_1 ∧ n0_1 = r0) : S_link_named p0 p1 r0 := by
  refine ⟨rfl, rfl, ?_⟩
  refine sum_enter 8 [] Tryz.func74 rfl rfl rfl (pv_of rfl) fun K hK => ?_
  refine gR 9 rfl ?_
  refine gFP 0 rfl rfl rfl rfl ?_
  refine gY (yMF rfl) rfl rfl ?_
  obtain ⟨n0_1, hs2, h⟩ := h
  refine gC0 hs2 (by kernel_rfl) rfl rfl .rfl rfl ?_
  refine gR 4 rfl ?_
  subst h
  refine go_sub (F' := (mkF 8 0 [(4, .int .i64 n0_1)])) (H' := ⟨0, []⟩) [] [] rfl hK ⟨⟨_, rfl, .rfl⟩, trivial⟩ trivial rfl ?_
  exact go_end tabS_ok (rs := [.tmp 4]) rfl rfl rfl
theorem rS_link_named_1 (m : Nat) (p0 : Tree) (p1 : (List UInt8)) (r0 : Bool) (h : (p0.text == p1) = r0) : S_link_named_1 p0 p1 r0 := by
  refine ⟨rfl, rfl, ?_⟩
  refine sum_enter 8 [] Tryz.func105 rfl rfl rfl (pv_of rfl) fun K hK => ?_
  refine gR 3 rfl ?_
  refine gFP 0 rfl rfl rfl rfl ?_
  refine gR 13 rfl ?_
  subst h
  refine go_sub (F' := (mkF 8 0 [(3, .bool (p0.text == p1))])) (H' := ⟨0, []⟩) [] [] rfl hK ⟨⟨_, rfl, .rfl⟩, trivial⟩ trivial rfl ?_
  exact go_end tabS_ok (rs := [.tmp 3]) rfl rfl rfl
def L0_link_collector_visit (m : Nat) (p0_p : (List Tree)) (p0_module : Int) (p0_path : (List Int)) (p0_found : (List GTarget)) (p1 : Tree) (b1v1 : Bool) (q0_p : (List Tree)) (q0_module : Int) (q0_path : (List Int)) (q0_found : (List GTarget)) : Prop := ∀ (K : Ctx), PinB K [0] → Go Tryz.prog K (bodyPost Tryz.prog Tryz.f42 (SP K (fun u G => u = .tup [] ∧ G = ⟨3, [(2, .row 38 5 (List.map GTarget.w q0_found)), (1, .row 3 1 (List.map (V.int .i64) q0_path)), (0, .var 71 [.row 4 (kidsV q0_p), .int .i64 q0_module, .sl 1, .sl 2])]⟩))) (.code (cB (cA (cB (bodyC Tryz.f42))))) [.seq (cB (cB (bodyC Tryz.f42)))] 94 (mkF 94 0 [(0, .ptr 0 0), (3, .box (treeC p1) 0), (17, .bool b1v1)]) ⟨3, [(2, .row 38 5 (List.map GTarget.w p0_found)), (1, .row 3 1 (List.map (V.int .i64) p0_path)), (0, .var 71 [.row 4 (kidsV p0_p), .int .i64 p0_module, .sl 1, .sl 2])]⟩
def L1_link_collector_visit (m : Nat) (p0_p : (List Tree)) (p0_module : Int) (p0_path : (List Int)) (p0_found : (List GTarget)) (p1 : Tree) (n1_1 : Int) (n1_2 : Int) (b1_3 : Bool) (r1_4 : (List Int)) (q0_p : (List Tree)) (q0_module : Int) (q0_path : (List Int)) (q0_found : (List GTarget)) : Prop := ∀ (K : Ctx), PinB K [0] → Go Tryz.prog K (bodyPost Tryz.prog Tryz.f42 (SP K (fun u G => u = .tup [] ∧ G = ⟨3, [(2, .row 38 5 (List.map GTarget.w q0_found)), (1, .row 3 1 (List.map (V.int .i64) q0_path)), (0, .var 71 [.row 4 (kidsV q0_p), .int .i64 q0_module, .sl 1, .sl 2])]⟩))) (.ex .normal) [.seq (cB (cB (cT (cB (cA (cB (bodyC Tryz.f42))))))), .seq (cB (cB (bodyC Tryz.f42)))] 94 (mkF 94 0 [(0, .ptr 0 0), (3, .box (treeC p1) 0), (4, .int .i64 n1_1), (5, .int .i64 n1_2), (6, .bool b1_3), (7, .ptr 1 0)]) ⟨4, [(3, .row 38 5 (List.map GTarget.w p0_found)), (2, .row 3 1 (List.map (V.int .i64) p0_path)), (1, .var 36 [.int .i64 p0_module, .row 1 (List.map (V.int .i64) r1_4)]), (0, .var 71 [.row 4 (kidsV p0_p), .int .i64 p0_module, .sl 2, .sl 3])]⟩
def L2_link_collector_visit (m : Nat) (p1 : Tree) (l3v1 : (List GTarget)) (l3v2 : (List Tree)) (z3v3 : Int) (l3v4 : (List Int)) (i3v5 : Nat) (q0_p : (List Tree)) (q0_module : Int) (q0_path : (List Int)) (q0_found : (List GTarget)) : Prop := ∀ (K : Ctx) (j1 : Nat), PinB K [0] → m ≤ j1 → Go Tryz.prog K (bodyPost Tryz.prog Tryz.f42 (SP K (fun u G => u = .tup [] ∧ G = ⟨3, [(2, .row 38 5 (List.map GTarget.w q0_found)), (1, .row 3 1 (List.map (V.int .i64) q0_path)), (0, .var 71 [.row 4 (kidsV q0_p), .int .i64 q0_module, .sl 1, .sl 2])]⟩))) (.code (cL (cK (cB (cB (cB (bodyC Tryz.f42))))))) [.loop (cL (cK (cB (cB (cB (bodyC Tryz.f42)))))) j1, .blk 0] 94 (mkF 94 0 [(0, .ptr 0 0), (59, .row 4 (kidsV p1.kids)), (60, .int .i64 ((p1.kids.length : Nat) : Int)), (61, .int .i64 ((i3v5 : Nat) : Int))]) ⟨3, [(2, .row 38 5 (List.map GTarget.w l3v1)), (1, .row 3 1 (List.map (V.int .i64) l3v4)), (0, .var 71 [.row 4 (kidsV l3v2), .int .i64 z3v3, .sl 1, .sl 2])]⟩
theorem rS_link_collector_visit (m : Nat) (p0_p : (List Tree)) (p0_module : Int) (p0_path : (List Int)) (p0_found : (List GTarget)) (p1 : Tree) (q0_p : (List Tree)) (q0_module : Int) (q0_path : (List Int)) (q0_found : (List GTarget)) (h : ((p1.kind = 16) → L0_link_collector_visit m p0_p p0_module p0_path p0_found p1 true q0_p q0_module q0_path q0_found) ∧ ((p1.kind ≠ 16) → L0_link_collector_visit m p0_p p0_module p0_path p0_found p1 (p1.kind == 9) q0_p q0_module q0_path q0_found)) : S_link_collector_visit p0_p p0_module p0_path p0_found p1 q0_p q0_module q0_path q0_found := by
  refine sum_enter 94 [0] Tryz.func42 rfl rfl rfl (pv_of rfl) fun K hK => ?_
  refine gR 3 rfl ?_
  refine gFP 3 rfl rfl rfl rfl ?_
  refine gR 9 rfl ?_
  refine gB 13 rfl rfl rfl (fun hd => ?_) (fun hd => ?_)
  · refine gT 12 rfl hd rfl ?_
    replace hd := (eq_of_beq hd)
    replace h := h.1 hd
    refine gR 6 rfl ?_
    exact gJ (h K hK) [0, 1, 2] [0] rfl hK ⟨⟨_, rfl, .rfl⟩, ⟨_, rfl, .rfl⟩, ⟨_, rfl, .rfl⟩, trivial⟩ ⟨⟨_, rfl, ⟨rfl, rfl, (renM _ GTarget.w (fun _ => rfl) p0_found).symm⟩⟩, ⟨⟨_, rfl, ⟨rfl, rfl, (renM _ (V.int .i64) (fun _ => rfl) p0_path).symm⟩⟩, ⟨⟨_, rfl, ⟨rfl, SubL.rfl⟩⟩, trivial⟩⟩⟩ rfl
  · refine gF 12 rfl hd rfl ?_
    replace hd := (ne_of_beq_false hd)
    replace h := h.2 hd
    refine gR 6 rfl ?_
    exact gJ (h K hK) [0, 1, 2] [0] rfl hK ⟨⟨_, rfl, .rfl⟩, ⟨_, rfl, .rfl⟩, ⟨_, rfl, .rfl⟩, trivial⟩ ⟨⟨_, rfl, ⟨rfl, rfl, (renM _ GTarget.w (fun _ => rfl) p0_found).symm⟩⟩, ⟨⟨_, rfl, ⟨rfl, rfl, (renM _ (V.int .i64) (fun _ => rfl) p0_path).symm⟩⟩, ⟨⟨_, rfl, ⟨rfl, SubL.rfl⟩⟩, trivial⟩⟩⟩ rfl
theorem rL0_link_collector_visit (m : Nat) (p0_p : (List Tree)) (p0_module : Int) (p0_path : (List Int)) (p0_found : (List GTarget)) (p1 : Tree) (b1v1 : Bool) (q0_p : (List Tree)) (q0_module : Int) (q0_path : (List Int)) (q0_found : (List GTarget)) (h : ((b1v1 = true) → ∃ (n1_1 : Int), ∃ (n1_2 : Int), ∃ (b1_3 : Bool), S_link_lookup p0_p p0_module p1.text n1_1 n1_2 b1_3 ∧ ∃ (r1_4 : (List Int)), S_slices_Clone_b p0_path r1_4 ∧ L1_link_collector_visit m p0_p p0_module p0_path p0_found p1 n1_1 n1_2 b1_3 r1_4 q0_p q0_module q0_path q0_found) ∧ ((b1v1 = false) → L2_link_collector_visit m p1 p0_found p0_p p0_module p0_path 0 q0_p q0_module q0_path q0_found)) : L0_link_collector_visit (m + 1) p0_p p0_module p0_path p0_found p1 b1v1 q0_p q0_module q0_path q0_found := by
  intro K hK
  refine gB 17 rfl rfl rfl (fun hd => ?_) (fun hd => ?_)
  · skip
    replace h := h.1 hd
    refine gR 2 rfl ?_
    refine gDs [0] 10 18 rfl (by kernel_rfl) (by kernel_rfl) ?_
    refine gDr [(0, 2), (1, 2), (2, 2), (3, 3), (4, 2), (5, 2), (6, 2), (7, 3), (8, 0), (9, 0)] (by kernel_rfl) rfl rfl ?_
    obtain ⟨n1_1, n1_2, b1_3, hs21, h⟩ := h
    refine gDC0 10 hs21 (by kernel_rfl) rfl (by kernel_rfl) rfl rfl .rfl rfl rfl ?_
    refine gDr [(11, 1), (12, 2), (13, 2), (14, 2), (15, 1), (16, 1), (17, 1)] (by kernel_rfl) rfl rfl ?_
    refine gDe (by kernel_rfl) ?_
    refine gR 2 rfl ?_
    refine gDs [0] 11 12 rfl (by kernel_rfl) (by kernel_rfl) ?_
    refine gDr [(0, 2), (1, 2), (2, 2), (3, 3), (4, 2), (5, 2), (6, 2), (7, 3)] (by kernel_rfl) rfl rfl ?_
    obtain ⟨r1_4, hs22, h⟩ := h
    apply go_dTwoX (i := 8) (j := 10) (by kernel_rfl) rfl rfl rfl rfl
    · exact (exec_call (L' := [0]) (by kernel_rfl) rfl rfl (call_sumX (H := ⟨3, [(2, .row 38 5 (List.map GTarget.w p0_found)), (1, .row 3 1 (List.map (V.int .i64) p0_path)), (0, .var 71 [.row 4 (kidsV p0_p), .int .i64 p0_module, .sl 1, .sl 2])]⟩) hs22 [1] .rfl ⟨⟨_, rfl, ⟨rfl, rfl, (renM _ (V.int .i64) (fun _ => rfl) p0_path).symm⟩⟩, trivial⟩ rfl [0] rfl) (.inl rfl))
    · exact (exec_eff tabS_ok rfl rfl)
    · skip
      refine gHR 1 (List.map (V.int .i64) p0_path) rfl (renM _ (V.int .i64) (fun _ => rfl) p0_path) rfl ?_
      refine gDr [(9, 2), (10, 0), (11, 1)] (by kernel_rfl) rfl rfl ?_
      refine gDe (by kernel_rfl) ?_
      exact gJ (h K hK) [0, 4, 1, 2] [0] rfl hK ⟨⟨_, rfl, .rfl⟩, ⟨_, rfl, .rfl⟩, ⟨_, rfl, .rfl⟩, ⟨_, rfl, .rfl⟩, ⟨_, rfl, .rfl⟩, ⟨_, rfl, .rfl⟩, trivial⟩ ⟨⟨_, rfl, ⟨rfl, rfl, (renM _ GTarget.w (fun _ => rfl) p0_found).symm⟩⟩, ⟨⟨_, rfl, ⟨rfl, rfl, (renM _ (V.int .i64) (fun _ => rfl) p0_path).symm⟩⟩, ⟨⟨_, rfl, ⟨rfl, SubL.rfl⟩⟩, ⟨⟨_, rfl, ⟨rfl, SubL.rfl⟩⟩, trivial⟩⟩⟩⟩ rfl
    · skip
      refine gDC 8 hs22 [1] (by kernel_rfl) rfl (by kernel_rfl) rfl rfl .rfl ⟨⟨_, rfl, ⟨rfl, rfl, (renM _ (V.int .i64) (fun _ => rfl) p0_path).symm⟩⟩, trivial⟩ (by kernel_rfl) rfl ?_
      rintro _ _ ⟨rfl, rfl⟩
      refine gHR 1 (List.map (V.int .i64) p0_path) rfl (renM _ (V.int .i64) (fun _ => rfl) p0_path) rfl ?_
      refine gDr [(9, 0), (11, 1)] (by kernel_rfl) rfl rfl ?_
      refine gDe (by kernel_rfl) ?_
      exact gJ (h K hK) [0, 3, 1, 2] [0] rfl hK ⟨⟨_, rfl, .rfl⟩, ⟨_, rfl, .rfl⟩, ⟨_, rfl, .rfl⟩, ⟨_, rfl, .rfl⟩, ⟨_, rfl, .rfl⟩, ⟨_, rfl, .rfl⟩, trivial⟩ ⟨⟨_, rfl, ⟨rfl, rfl, (renM _ GTarget.w (fun _ => rfl) p0_found).symm⟩⟩, ⟨⟨_, rfl, ⟨rfl, rfl, (renM _ (V.int .i64) (fun _ => rfl) p0_path).symm⟩⟩, ⟨⟨_, rfl, ⟨rfl, SubL.rfl⟩⟩, ⟨⟨_, rfl, ⟨rfl, SubL.rfl⟩⟩, trivial⟩⟩⟩⟩ rfl
  · skip
    replace h := h.2 hd
    refine gR 8 rfl ?_
    refine gV 60 (.int .i64 ((p1.kids.length : Nat) : Int)) rfl (lenI (lenK _)) rfl ?_
    refine gLB 59 rfl (lenK _) fun hl23 => ?_
    refine gR 4 rfl ?_
    refine go_loop m ?_
    exact gJ (h K _ hK (by omega)) [0, 1, 2] [0] rfl hK ⟨⟨_, rfl, .rfl⟩, ⟨_, rfl, .rfl⟩, ⟨_, rfl, .rfl⟩, ⟨_, rfl, .rfl⟩, trivial⟩ ⟨⟨_, rfl, ⟨rfl, rfl, (renM _ GTarget.w (fun _ => rfl) p0_found).symm⟩⟩, ⟨⟨_, rfl, ⟨rfl, rfl, (renM _ (V.int .i64) (fun _ => rfl) p0_path).symm⟩⟩, ⟨⟨_, rfl, ⟨rfl, SubL.rfl⟩⟩, trivial⟩⟩⟩ rfl
theorem rL1_link_collector_visit (m : Nat) (p0_p : (List Tree)) (p0_module : Int) (p0_path : (List Int)) (p0_found : (List GTarget)) (p1 : Tree) (n1_1 : Int) (n1_2 : Int) (b1_3 : Bool) (r1_4 : (List Int)) (q0_p : (List Tree)) (q0_module : Int) (q0_path : (List Int)) (q0_found : (List GTarget)) (h : (p0_found ++ [(GTarget.mk (GPlace.mk p0_module r1_4) n1_1 n1_2 !b1_3)]).length ≤ 1000000000 ∧ L2_link_collector_visit m p1 (p0_found ++ [(GTarget.mk (GPlace.mk p0_module r1_4) n1_1 n1_2 !b1_3)]) p0_p p0_module p0_path 0 q0_p q0_module q0_path q0_found) : L1_link_collector_visit (m + 1) p0_p p0_module p0_path p0_found p1 n1_1 n1_2 b1_3 r1_4 q0_p q0_module q0_path q0_found := by
  intro K hK
  refine gR 1 rfl ?_
  refine gDs [0, 1] 15 16 rfl (by kernel_rfl) (by kernel_rfl) ?_
  refine gDr [(0, 2), (1, 2), (2, 2), (3, 2), (4, 3), (5, 3), (6, 2), (7, 2), (8, 0), (9, 0), (10, 0), (11, 0)] (by kernel_rfl) rfl rfl ?_
  obtain ⟨hb, h⟩ := h
  refine gDd1 12 (.repl 3 (.row 38 5 (List.map GTarget.w (p0_found ++ [(GTarget.mk (GPlace.mk p0_module r1_4) n1_1 n1_2 !b1_3)])))) rfl (by kernel_rfl) (dAp' tabS_ok rfl rfl rfl rfl rfl (apM GTarget.w p0_found (GTarget.mk (GPlace.mk p0_module r1_4) n1_1 n1_2 !b1_3)) (by rw [lenM]; exact hb)) (okR rfl) rfl (by kernel_rfl) rfl rfl ?_
  refine gDr [(13, 0), (14, 0), (15, 1)] (by kernel_rfl) rfl rfl ?_
  refine gDe (by kernel_rfl) ?_
  refine gR 6 rfl ?_
  refine gV 60 (.int .i64 ((p1.kids.length : Nat) : Int)) rfl (lenI (lenK _)) rfl ?_
  refine gLB 59 rfl (lenK _) fun hl24 => ?_
  refine gR 4 rfl ?_
  refine go_loop m ?_
  exact gJ (h K _ hK (by omega)) [0, 2, 5] [0] rfl hK ⟨⟨_, rfl, .rfl⟩, ⟨_, rfl, .rfl⟩, ⟨_, rfl, .rfl⟩, ⟨_, rfl, .rfl⟩, trivial⟩ ⟨⟨_, rfl, ⟨rfl, rfl, (renM _ GTarget.w (fun _ => rfl) (p0_found ++ [(GTarget.mk (GPlace.mk p0_module r1_4) n1_1 n1_2 !b1_3)])).symm⟩⟩, ⟨⟨_, rfl, ⟨rfl, rfl, (renM _ (V.int .i64) (fun _ => rfl) p0_path).symm⟩⟩, ⟨⟨_, rfl, ⟨rfl, SubL.rfl⟩⟩, trivial⟩⟩⟩ rfl
theorem rL2_link_collector_visit (m : Nat) (p1 : Tree) (l3v1 : (List GTarget)) (l3v2 : (List Tree)) (z3v3 : Int) (l3v4 : (List Int)) (i3v5 : Nat) (q0_p : (List Tree)) (q0_module : Int) (q0_path : (List Int)) (q0_found : (List GTarget)) (h : ((i3v5 < p1.kids.length) → ∃ (t3_1 : Tree), p1.kids[i3v5]? = some t3_1 ∧ (l3v4 ++ [((i3v5 : Nat) : Int)]).length ≤ 1000000000 ∧ ∃ (r3_2 : (List Tree)), ∃ (n3_3 : Int), ∃ (r3_4 : (List Int)), ∃ (r3_5 : (List GTarget)), S_link_collector_visit l3v2 z3v3 (l3v4 ++ [((i3v5 : Nat) : Int)]) l3v1 t3_1 r3_2 n3_3 r3_4 r3_5 ∧ ∃ (k3_6 : Nat), (((r3_4.length : Nat) : Int) - 1) = ((k3_6 : Nat) : Int) ∧ k3_6 ≤ r3_4.length ∧ i3v5 + 1 ≤ 9223372036854775807 ∧ L2_link_collector_visit m p1 r3_5 r3_2 n3_3 (r3_4.take k3_6) (i3v5 + 1) q0_p q0_module q0_path q0_found) ∧ ((¬ i3v5 < p1.kids.length) → l3v2 = q0_p ∧ z3v3 = q0_module ∧ l3v4 = q0_path ∧ l3v1 = q0_found)) : L2_link_collector_visit (m + 1) p1 l3v1 l3v2 z3v3 l3v4 i3v5 q0_p q0_module q0_path q0_found := by
  intro K j1 hK hj1
  obtain ⟨j1, rfl⟩ : ∃ j, j1 = j + 1 := ⟨j1 - 1, by omega⟩
  refine gR 6 rfl ?_
  refine gB 62 rfl rfl rfl (fun hd => ?_) (fun hd => ?_)
  · replace hd := (natT hd)
    replace h := h.1 hd
    refine gR 8 rfl ?_
    obtain ⟨t3_1, hxt3_1, h⟩ := h
    refine gY (yIR' (kidsV_get hxt3_1) tabS_ok rfl rfl rfl rfl) rfl rfl ?_
    refine gR 15 rfl ?_
    obtain ⟨hb, h⟩ := h
    refine gDo (.repl 1 (.row 3 1 (List.map (V.int .i64) (l3v4 ++ [((i3v5 : Nat) : Int)])))) (dAp' tabS_ok rfl rfl rfl rfl rfl (apM (V.int .i64) l3v4 ((i3v5 : Nat) : Int)) (by rw [lenM]; exact hb)) (okR rfl) rfl rfl rfl ?_
    refine gR 9 rfl ?_
    obtain ⟨r3_2, n3_3, r3_4, r3_5, hs25, h⟩ := h
    refine gC hs25 [0, 5, 2] (by kernel_rfl) rfl rfl .rfl ⟨⟨_, rfl, ⟨rfl, rfl, (renM _ GTarget.w (fun _ => rfl) l3v1).symm⟩⟩, ⟨⟨_, rfl, ⟨rfl, rfl, (renM _ (V.int .i64) (fun _ => rfl) (l3v4 ++ [((i3v5 : Nat) : Int)])).symm⟩⟩, ⟨⟨_, rfl, ⟨rfl, SubL.rfl⟩⟩, trivial⟩⟩⟩ rfl ?_
    rintro _ _ ⟨rfl, rfl⟩
    refine gHR 7 (List.map (V.int .i64) r3_4) rfl (renM _ (V.int .i64) (fun _ => rfl) r3_4) rfl ?_
    refine gHR 8 (List.map GTarget.w r3_5) rfl (renM _ GTarget.w (fun _ => rfl) r3_5) rfl ?_
    refine gR 2 rfl ?_
    refine gDs [0] 14 15 rfl (by kernel_rfl) (by kernel_rfl) ?_
    refine gDr [(0, 2), (1, 2), (2, 2), (3, 2), (4, 3), (5, 0), (6, 0), (7, 0), (8, 0), (9, 0)] (by kernel_rfl) rfl rfl ?_
    refine gV 88 (.int .i64 ((r3_4.length : Nat) : Int)) rfl (lenI (lenM (V.int .i64) _)) rfl ?_
    refine gLO 7 rfl (lenM (V.int .i64) _) fun hl29 => ?_
    refine gDr [(10, 0)] (by kernel_rfl) rfl rfl ?_
    refine gV 89 (.int .i64 (((r3_4.length : Nat) : Int) - 1)) rfl (wrapI (by have := hl29; omega) rfl) rfl ?_
    obtain ⟨k3_6, ek3_6, h⟩ := h
    refine gV 89 (.int .i64 ((k3_6 : Nat) : Int)) rfl (lenI' ek3_6) rfl ?_
    obtain ⟨hb, h⟩ := h
    refine gDd1 11 (.repl 7 (.row 3 1 (List.map (V.int .i64) (r3_4.take k3_6)))) rfl (by kernel_rfl) (dTr tabS_ok rfl rfl rfl rfl (by rw [lenM]; exact hb) (takeM _ _ _)) (okR rfl) rfl (by kernel_rfl) rfl rfl ?_
    refine gDr [(12, 0), (13, 0), (14, 1)] (by kernel_rfl) rfl rfl ?_
    refine gDe (by kernel_rfl) ?_
    refine gR 3 rfl ?_
    obtain ⟨hb, h⟩ := h
    refine gR 1 rfl ?_
    refine gV 93 (.int .i64 ((i3v5 + 1 : Nat) : Int)) rfl (wrapI (by omega) (by omega)) rfl ?_
    refine gR 2 rfl ?_
    refine go_xloop ?_
    exact gJ (h K _ hK (by omega)) [0, 9, 8] [0] rfl hK ⟨⟨_, rfl, .rfl⟩, ⟨_, rfl, .rfl⟩, ⟨_, rfl, .rfl⟩, ⟨_, rfl, .rfl⟩, trivial⟩ ⟨⟨_, rfl, ⟨rfl, rfl, (renM _ GTarget.w (fun _ => rfl) r3_5).symm⟩⟩, ⟨⟨_, rfl, ⟨rfl, rfl, (renM _ (V.int .i64) (fun _ => rfl) (r3_4.take k3_6)).symm⟩⟩, ⟨⟨_, rfl, ⟨rfl, SubL.rfl⟩⟩, trivial⟩⟩⟩ rfl
  · replace hd := (natF hd)
    replace h := h.2 hd
    refine gR 3 rfl ?_
    refine go_xloopE ?_
    refine gR 1 rfl ?_
    obtain ⟨rfl, rfl, rfl, rfl⟩ := h
    refine go_sub (F' := (mkF 94 0 [])) (H' := ⟨3, [(2, .row 38 5 (List.map GTarget.w l3v1)), (1, .row 3 1 (List.map (V.int .i64) l3v4)), (0, .var 71 [.row 4 (kidsV l3v2), .int .i64 z3v3, .sl 1, .sl 2])]⟩) [0, 1, 2] [0] rfl hK trivial ⟨⟨_, rfl, ⟨rfl, rfl, (renM _ GTarget.w (fun _ => rfl) l3v1).symm⟩⟩, ⟨⟨_, rfl, ⟨rfl, rfl, (renM _ (V.int .i64) (fun _ => rfl) l3v4).symm⟩⟩, ⟨⟨_, rfl, ⟨rfl, SubL.rfl⟩⟩, trivial⟩⟩⟩ rfl ?_
    exact go_endD [] tabS_ok (rs := []) rfl rfl ⟨rfl, rfl⟩
def L0_slices_IndexFunc (m : Nat) (p0 : (List Tree)) (p1_c0 : (List UInt8)) (i1v1 : Nat) (r0 : Int) : Prop := ∀ (K : Ctx) (j1 : Nat), PinB K [] → m ≤ j1 → Go Tryz.prog K (bodyPost Tryz.prog Tryz.f104 (SP K (fun u _ => u = .int .i64 r0))) (.code (cL (cK (cB (cA (cB (bodyC Tryz.f104))))))) [.loop (cL (cK (cB (cA (cB (bodyC Tryz.f104)))))) j1, .blk 0, .seq (cB (cB (bodyC Tryz.f104)))] 19 (mkF 19 0 [(0, .row 4 (kidsV p0)), (1, .clo 105 [.box [.str p1_c0] 0]), (7, .int .i64 ((p0.length : Nat) : Int)), (8, .int .i64 ((i1v1 : Nat) : Int))]) ⟨0, []⟩
theorem rS_slices_IndexFunc (m : Nat) (p0 : (List Tree)) (p1_c0 : (List UInt8)) (r0 : Int) (h : L0_slices_IndexFunc m p0 p1_c0 0 r0) : S_slices_IndexFunc p0 p1_c0 r0 := by
  refine ⟨rfl, rfl, ?_⟩
  refine sum_enter 19 [] Tryz.func104 rfl rfl rfl (pv_of rfl) fun K hK => ?_
  refine gR 10 rfl ?_
  refine gV 7 (.int .i64 ((p0.length : Nat) : Int)) rfl (lenI (lenK _)) rfl ?_
  refine gLB 6 rfl (lenK _) fun hl5 => ?_
  refine gR 4 rfl ?_
  refine go_loop m ?_
  exact gJ (h K _ hK (by omega)) [] [] rfl hK ⟨⟨_, rfl, .rfl⟩, ⟨_, rfl, .rfl⟩, ⟨_, rfl, .rfl⟩, ⟨_, rfl, .rfl⟩, trivial⟩ trivial rfl
theorem rL0_slices_IndexFunc (m : Nat) (p0 : (List Tree)) (p1_c0 : (List UInt8)) (i1v1 : Nat) (r0 : Int) (h : ((i1v1 < p0.length) → ∃ (t1_1 : Tree), p0[i1v1]? = some t1_1 ∧ ∃ (b1_2 : Bool), S_link_named_1 t1_1 p1_c0 b1_2 ∧ ((b1_2 = true) → ((i1v1 : Nat) : Int) = r0) ∧ ((b1_2 = false) → i1v1 + 1 ≤ 9223372036854775807 ∧ L0_slices_IndexFunc m p0 p1_c0 (i1v1 + 1) r0)) ∧ ((¬ i1v1 < p0.length) → (-1) = r0)) : L0_slices_IndexFunc (m + 1) p0 p1_c0 i1v1 r0 := by
  intro K j1 hK hj1
  obtain ⟨j1, rfl⟩ : ∃ j, j1 = j + 1 := ⟨j1 - 1, by omega⟩
  refine gR 6 rfl ?_
  refine gB 9 rfl rfl rfl (fun hd => ?_) (fun hd => ?_)
  · replace hd := (natT hd)
    replace h := h.1 hd
    refine gR 16 rfl ?_
    obtain ⟨t1_1, hxt1_1, h⟩ := h
    refine gY (yIR' (kidsV_get hxt1_1) tabS_ok rfl rfl rfl rfl) rfl rfl ?_
    refine gR 1 rfl ?_
    obtain ⟨b1_2, hs6, h⟩ := h
    refine gC0v hs6 (by kernel_rfl) rfl rfl rfl .rfl rfl ?_
    refine gR 2 rfl ?_
    refine gB 16 rfl rfl rfl (fun hd => ?_) (fun hd => ?_)
    · skip
      replace h := h.1 hd
      refine gR 10 rfl ?_
      refine go_xloopR ?_
      refine gR 2 rfl ?_
      subst h
      refine go_sub (F' := (mkF 19 0 [(4, .int .i64 ((i1v1 : Nat) : Int))])) (H' := ⟨0, []⟩) [] [] rfl hK ⟨⟨_, rfl, .rfl⟩, trivial⟩ trivial rfl ?_
      exact go_end tabS_ok (rs := [.tmp 4]) rfl rfl rfl
    · skip
      replace h := h.2 hd
      refine gR 5 rfl ?_
      obtain ⟨hb, h⟩ := h
      refine gR 1 rfl ?_
      refine gV 18 (.int .i64 ((i1v1 + 1 : Nat) : Int)) rfl (wrapI (by omega) (by omega)) rfl ?_
      refine gR 2 rfl ?_
      refine go_xloop ?_
      exact gJ (h K _ hK (by omega)) [] [] rfl hK ⟨⟨_, rfl, .rfl⟩, ⟨_, rfl, .rfl⟩, ⟨_, rfl, .rfl⟩, ⟨_, rfl, .rfl⟩, trivial⟩ trivial rfl
  · replace hd := (natF hd)
    replace h := h.2 hd
    refine gR 3 rfl ?_
    refine go_xloopE ?_
    refine gR 8 rfl ?_
    subst h
    refine go_sub (F' := (mkF 19 0 [(4, .int .i64 (-1))])) (H' := ⟨0, []⟩) [] [] rfl hK ⟨⟨_, rfl, .rfl⟩, trivial⟩ trivial rfl ?_
    exact go_end tabS_ok (rs := [.tmp 4]) rfl rfl rfl
theorem rS_strings_Cut_dot (m : Nat) (p0 : (List UInt8)) (r0 : (List UInt8)) (r1 : (List UInt8)) (r2 : Bool) (h : ∃ (s0_1 : (List UInt8)), ∃ (s0_2 : (List UInt8)), ∃ (b0_3 : Bool), S_internal_stringslite_Cut_dot p0 s0_1 s0_2 b0_3 ∧ s0_1 = r0 ∧ s0_2 = r1 ∧ b0_3 = r2) : S_strings_Cut_dot p0 r0 r1 r2 := by
  refine ⟨rfl, rfl, ?_⟩
  refine sum_enter 13 [] Tryz.func73 rfl rfl rfl (pv_of rfl) fun K hK => ?_
  refine gR 11 rfl ?_
  obtain ⟨s0_1, s0_2, b0_3, hs2, h⟩ := h
  refine gC0 hs2 (by kernel_rfl) rfl rfl .rfl rfl ?_
  refine gR 9 rfl ?_
  obtain ⟨rfl, rfl, rfl⟩ := h
  refine go_sub (F' := (mkF 13 0 [(4, .str s0_1), (5, .str s0_2), (6, .bool b0_3)])) (H' := ⟨0, []⟩) [] [] rfl hK ⟨⟨_, rfl, .rfl⟩, ⟨_, rfl, .rfl⟩, ⟨_, rfl, .rfl⟩, trivial⟩ trivial rfl ?_
  exact go_end tabS_ok (rs := [.tmp 4, .tmp 5, .tmp 6]) rfl rfl rfl
theorem rS_internal_stringslite_Cut_dot (m : Nat) (p0 : (List UInt8)) (r0 : (List UInt8)) (r1 : (List UInt8)) (r2 : Bool) (h : ∃ (n0_1 : Int), S_internal_stringslite_Index_dot p0 n0_1 ∧ ((0 ≤ n0_1) → ∃ (k0_2 : Nat), n0_1 = ((k0_2 : Nat) : Int) ∧ k0_2 ≤ p0.length ∧ InI (n0_1 + 1) ∧ ∃ (k0_3 : Nat), (n0_1 + 1) = ((k0_3 : Nat) : Int) ∧ k0_3 ≤ p0.length ∧ (p0.take k0_2) = r0 ∧ (p0.drop k0_3) = r1 ∧ true = r2) ∧ ((¬ 0 ≤ n0_1) → p0 = r0 ∧ [] = r1 ∧ false = r2)) : S_internal_stringslite_Cut_dot p0 r0 r1 r2 := by
  refine ⟨rfl, rfl, ?_⟩
  refine sum_enter 23 [] Tryz.func103 rfl rfl rfl (pv_of rfl) fun K hK => ?_
  refine gR 12 rfl ?_
  obtain ⟨n0_1, hs2, h⟩ := h
  refine gC0 hs2 (by kernel_rfl) rfl rfl .rfl rfl ?_
  refine gR 9 rfl ?_
  refine gB 12 rfl rfl rfl (fun hd => ?_) (fun hd => ?_)
  · replace hd := (of_decide_eq_true hd)
    replace h := h.1 hd
    refine gR 2 rfl ?_
    refine gDs [] 12 12 rfl (by kernel_rfl) (by kernel_rfl) ?_
    refine gDr [(0, 2), (1, 2)] (by kernel_rfl) rfl rfl ?_
    obtain ⟨k0_2, ek0_2, h⟩ := h
    refine gV 14 (.int .i64 ((k0_2 : Nat) : Int)) rfl (lenI' ek0_2) rfl ?_
    obtain ⟨hb', h⟩ := h
    refine gYd 2 rfl (by kernel_rfl) (ySS tabS_ok rfl rfl bnd0 (bnd1 rfl) (Nat.zero_le _) hb' (take_all _ _)) rfl rfl ?_
    refine gDr [(3, 2), (4, 2), (5, 2), (6, 2)] (by kernel_rfl) rfl rfl ?_
    obtain ⟨hb, h⟩ := h
    refine gDr [(7, 2)] (by kernel_rfl) rfl rfl ?_
    refine gV 20 (.int .i64 (n0_1 + 1)) rfl (wrapI hb rfl) rfl ?_
    obtain ⟨k0_3, ek0_3, h⟩ := h
    refine gV 20 (.int .i64 ((k0_3 : Nat) : Int)) rfl (lenI' ek0_3) rfl ?_
    obtain ⟨hb, h⟩ := h
    refine gYd 8 rfl (by kernel_rfl) (ySS tabS_ok rfl rfl (bnd1 rfl) bnd0 hb (Nat.le_refl _) (drop_all _ _)) rfl rfl ?_
    refine gDr [(9, 0), (10, 0), (11, 0)] (by kernel_rfl) rfl rfl ?_
    refine gDe (by kernel_rfl) ?_
    refine gR 3 rfl ?_
    obtain ⟨rfl, rfl, rfl⟩ := h
    refine go_sub (F' := (mkF 23 0 [(4, .str (p0.take k0_2)), (5, .str (p0.drop k0_3)), (6, .bool true)])) (H' := ⟨0, []⟩) [] [] rfl hK ⟨⟨_, rfl, .rfl⟩, ⟨_, rfl, .rfl⟩, ⟨_, rfl, .rfl⟩, trivial⟩ trivial rfl ?_
    exact go_end tabS_ok (rs := [.tmp 4, .tmp 5, .tmp 6]) rfl rfl rfl
  · replace hd := (of_decide_eq_false hd)
    replace h := h.2 hd
    refine gR 12 rfl ?_
    obtain ⟨rfl, rfl, rfl⟩ := h
    refine go_sub (F' := (mkF 23 0 [(4, .str p0), (5, .str []), (6, .bool false)])) (H' := ⟨0, []⟩) [] [] rfl hK ⟨⟨_, rfl, .rfl⟩, ⟨_, rfl, .rfl⟩, ⟨_, rfl, .rfl⟩, trivial⟩ trivial rfl ?_
    exact go_end tabS_ok (rs := [.tmp 4, .tmp 5, .tmp 6]) rfl rfl rfl
def L0_internal_stringslite_Index_dot (m : Nat) (p0 : (List UInt8)) (r0 : Int) : Prop := ∀ (K : Ctx), PinB K [] → Go Tryz.prog K (bodyPost Tryz.prog Tryz.f138 (SP K (fun u _ => u = .int .i64 r0))) (.code (cE (cB (cK (cA (cB (cB (bodyC Tryz.f138)))))))) [.blk 0, .seq (cB (cB (cB (bodyC Tryz.f138))))] 143 (mkF 143 0 [(0, .str p0), (1, .str [46]), (5, .int .i64 1)]) ⟨0, []⟩
theorem rS_internal_stringslite_Index_dot (m : Nat) (p0 : (List UInt8)) (r0 : Int) (h : (([46] = p0) → 0 = r0) ∧ (([46] ≠ p0) → L0_internal_stringslite_Index_dot m p0 r0)) : S_internal_stringslite_Index_dot p0 r0 := by
  refine ⟨rfl, rfl, ?_⟩
  refine sum_enter 143 [] Tryz.func138 rfl rfl rfl (pv_of rfl) fun K hK => ?_
  refine gR 26 rfl ?_
  refine gB 16 rfl rfl rfl (fun hd => ?_) (fun hd => ?_)
  · refine gT 23 rfl hd rfl ?_
    replace hd := (eq_of_beq hd)
    replace h := h.1 hd
    refine gR 9 rfl ?_
    subst h
    refine go_sub (F' := (mkF 143 0 [(4, .int .i64 0)])) (H' := ⟨0, []⟩) [] [] rfl hK ⟨⟨_, rfl, .rfl⟩, trivial⟩ trivial rfl ?_
    exact go_end tabS_ok (rs := [.tmp 4]) rfl rfl rfl
  · refine gF 23 rfl hd rfl ?_
    replace hd := (ne_of_beq_false hd)
    replace h := h.2 hd
    refine gR 1 rfl ?_
    exact gJ (h K hK) [] [] rfl hK ⟨⟨_, rfl, .rfl⟩, ⟨_, rfl, .rfl⟩, ⟨_, rfl, .rfl⟩, trivial⟩ trivial rfl
theorem rL0_internal_stringslite_Index_dot (m : Nat) (p0 : (List UInt8)) (r0 : Int) (h : ∃ (n1_1 : Int), S_internal_stringslite_IndexByte p0 46 n1_1 ∧ n1_1 = r0) : L0_internal_stringslite_Index_dot (m + 1) p0 r0 := by
  intro K hK
  refine gR 13 rfl ?_
  obtain ⟨n1_1, hs3, h⟩ := h
  refine gC0 hs3 (by kernel_rfl) rfl rfl .rfl rfl ?_
  refine gR 6 rfl ?_
  subst h
  refine go_sub (F' := (mkF 143 0 [(4, .int .i64 n1_1)])) (H' := ⟨0, []⟩) [] [] rfl hK ⟨⟨_, rfl, .rfl⟩, trivial⟩ trivial rfl ?_
  exact go_end tabS_ok (rs := [.tmp 4]) rfl rfl rfl
end Go.Proofs.YteglbnopdedadaaGreat
namespace Go.Proofs.YteglbnopdedadaaGreat
open Go.RowKit
set_option maxRecDepth 100000
set_option maxHeartbeats 1000000 in
theorem ibLiteV (s : ByteArray) (c : Int) (w : World) : Calls Tryz.prog 144 #[.string s, .int .u8 c] w fun e w' => e = .returned (.int .i64 (Lib.indexByte s.data.toList c.toNat.toUInt8)) ∧ w = w' := by
  go_enter Tryz.func144, Tryz.ntmps144
  go_wp2
  rw [run_callFunc_extern Tryz.func155 (by kernel_rfl) (by kernel_rfl) (by kernel_rfl) (e := Extern.BytealgIndexByte.indexByte) (by kernel_rfl), Lib.run_indexByteString]
  simp only [Result.andThen]
  rw [Oper.upon_value]
  go_wp2
  go_ret
  exact ⟨rfl, rfl⟩
theorem indexByteV (s : ByteArray) (c : Int) (w : World) : Calls Tryz.prog 115 #[.string s, .int .u8 c] w fun e w' => e = .returned (.int .i64 (Lib.indexByte s.data.toList c.toNat.toUInt8)) ∧ w = w' := by
  go_enter Tryz.func115, Tryz.ntmps115
  go_wp2_with (go_at_call 144; refine (ibLiteV _ _ _).mono ?_; rintro e w' ⟨rfl, rfl⟩)
  go_ret
  exact ⟨rfl, rfl⟩
end Go.Proofs.YteglbnopdedadaaGreat
namespace Go.Proofs.YteglbnopdedadaaGreat
open Go.RowKit Lx Sx
set_option maxHeartbeats 1000000
def namedK (s : List UInt8) : List Tree → Nat → Int
  | [], _ => -1
  | t :: r, i => if t.text = s then (i : Int) else namedK s r (i + 1)
theorem namedK_range (s : List UInt8) : ∀ (l : List Tree) (i : Nat), namedK s l i = -1 ∨ ∃ k t, namedK s l i = ((i + k : Nat) : Int) ∧ l[k]? = some t ∧ t.text = s ∧ ∀ j u, j < k → l[j]? = some u → u.text ≠ s
  | [], i => .inl rfl
  | t :: r, i => by
    simp only [namedK]
    split
    · rename_i h
      exact .inr ⟨0, t, rfl, rfl, h, fun j u hj _ => by omega⟩
    · rename_i h
      rcases namedK_range s r (i + 1) with h1 | ⟨k, u, h1, h2, h3, h4⟩
      · exact .inl h1
      · refine .inr ⟨k + 1, u, by rw [h1]; congr 1; omega, by simpa using h2, h3, fun j x hj hx => ?_⟩
        cases j with
        | zero => simp at hx; subst hx; exact h
        | succ j => exact h4 j x (by omega) (by simpa using hx)
theorem c_named1 (t : Tree) (s : List UInt8) : S_link_named_1 t s (t.text == s) := rS_link_named_1 0 _ _ _ rfl
theorem c_IndexFunc (l : List Tree) (s : List UInt8) (hl : l.length ≤ 1000000000) : S_slices_IndexFunc l s (namedK s l 0) := by
  have loop : ∀ m i, l.length - i ≤ m → L0_slices_IndexFunc (m + 1) l s i (namedK s (l.drop i) i) := fun m => by
    induction m with
    | zero =>
      intro i hi
      refine rL0_slices_IndexFunc 0 _ _ _ _ ⟨fun h => by omega, fun h => ?_⟩
      rw [List.drop_of_length_le (by omega), namedK]
    | succ m ihm =>
      intro i hi
      refine rL0_slices_IndexFunc (m + 1) _ _ _ _ ⟨fun h => ?_, fun h => ?_⟩
      · obtain ⟨u, hu, _⟩ | h' := get_or l i
        · rw [drop_get hu, namedK]
          refine ⟨u, hu, _, c_named1 u s, fun h1 => ?_, fun h1 => ⟨by omega, ?_⟩⟩
          · rw [if_pos (by simpa using h1)]
          · rw [if_neg (by simpa using h1)]; exact ihm (i + 1) (by omega)
        · exact absurd h h'
      · rw [List.drop_of_length_le (by omega), namedK]
  exact rS_slices_IndexFunc _ _ _ _ (loop l.length 0 (by omega))
theorem c_named (l : List Tree) (s : List UInt8) (hl : l.length ≤ 1000000000) : S_link_named l s (namedK s l 0) := rS_link_named 0 _ _ _ ⟨_, c_IndexFunc l s hl, rfl⟩
def dotK : List UInt8 → Nat → Int
  | [], _ => -1
  | c :: r, i => if c = 46 then (i : Int) else dotK r (i + 1)
theorem dotK_range : ∀ (l : List UInt8) (i : Nat), dotK l i = -1 ∨ ∃ k, dotK l i = ((i + k : Nat) : Int) ∧ k < l.length
  | [], i => .inl rfl
  | c :: r, i => by
    simp only [dotK]
    split
    · exact .inr ⟨0, rfl, by simp⟩
    · rcases dotK_range r (i + 1) with h1 | ⟨k, h1, h2⟩
      · exact .inl h1
      · exact .inr ⟨k + 1, by rw [h1]; congr 1; omega, by simp; omega⟩
theorem ib_ge (c : UInt8) : ∀ (l : List UInt8), -1 ≤ Lib.indexByte l c
  | [] => by simp [Lib.indexByte]
  | b :: r => by
    have := ib_ge c r
    simp only [Lib.indexByte]
    split
    · omega
    · split <;> omega
theorem indexByte_dot : ∀ (l : List UInt8) (i : Nat), dotK l i = if Lib.indexByte l 46 = -1 then -1 else Lib.indexByte l 46 + (i : Int)
  | [], i => by simp [dotK, Lib.indexByte]
  | c :: r, i => by
    have ih := indexByte_dot r (i + 1)
    have := ib_ge 46 r
    simp only [dotK, Lib.indexByte, ih]
    by_cases h : c = 46
    · simp [h]
    · have h' : (c == 46) = false := by simpa using h
      simp only [if_neg h, h']
      by_cases h2 : Lib.indexByte r 46 = -1
      · simp [h2]
      · have h3 : (Lib.indexByte r 46 == -1) = false := by simpa using h2
        simp only [if_neg h2, h3, Bool.false_eq_true, if_false]
        rw [if_neg (by omega)]; omega
theorem c_IndexByte (l : List UInt8) : S_internal_stringslite_IndexByte l 46 (dotK l 0) := sum0_calls rfl rfl fun S w ρ xs hx => by
  simp only [LRel] at hx
  obtain ⟨x, ys, rfl, h1, y, zs, rfl, h2, rfl⟩ := hx
  simp only [VRel] at h1 h2; subst h1 h2
  refine (ibLiteV _ _ w).mono fun e w' ⟨h1, h2⟩ => ⟨_, h1, ?_, h2 ▸ Chg.refl _ _⟩
  simp only [VRel]
  have e : dotK l 0 = Lib.indexByte l 46 := by
    rw [indexByte_dot]; split
    · rename_i h; rw [h]
    · simp
  rw [e]; rfl
theorem c_Index (l : List UInt8) : S_internal_stringslite_Index_dot l (dotK l 0) := by
  refine rS_internal_stringslite_Index_dot 1 _ _ ⟨fun h => ?_, fun h => rL0_internal_stringslite_Index_dot 0 _ _ ?_⟩
  · subst h; rfl
  · exact ⟨_, c_IndexByte l, rfl⟩
theorem c_Cut0 (l : List UInt8) (hl : l.length ≤ 1000000000) : S_strings_Cut_dot l (if 0 ≤ dotK l 0 then l.take (dotK l 0).toNat else l) (if 0 ≤ dotK l 0 then l.drop ((dotK l 0).toNat + 1) else []) (decide (0 ≤ dotK l 0)) := by
  refine rS_strings_Cut_dot 0 _ _ _ _ ⟨_, _, _, ?_, rfl, rfl, rfl⟩
  refine rS_internal_stringslite_Cut_dot 0 _ _ _ _ ⟨_, c_Index l, fun h => ?_, fun h => ?_⟩
  · rcases dotK_range l 0 with h1 | ⟨k, h1, h2⟩
    · rw [h1] at h; omega
    · rw [h1]
      exact ⟨k, by simp, by omega, by omega, k + 1, by simp, by omega, by simp, by simp, by simp⟩
  · simp [h]
def inK (p : List Tree) (m : Int) (w : List UInt8) : Int × Int × Bool := if m < 0 then (0, 0, false) else match p[m.toNat]? with
  | none => (0, 0, false)
  | some t => if namedK w t.kids 0 < 0 then (0, 0, false) else (m, namedK w t.kids 0, true)
def lookK (p : List Tree) (m : Int) (w : List UInt8) : Int × Int × Bool := if 0 ≤ dotK w 0 then inK p (namedK (w.take (dotK w 0).toNat) p 0) (w.drop ((dotK w 0).toNat + 1)) else inK p m w
theorem c_lookL {p : List Tree} {m : Int} {w : List UInt8} (hm : m < p.length) (hp : kbulk p ≤ 1000000000) : L0_link_lookup 1 p m w (inK p m w).1 (inK p m w).2.1 (inK p m w).2.2 := by
  refine rL0_link_lookup 0 _ _ _ _ _ _ ⟨fun h => by simp [inK, h], fun h => ?_⟩
  obtain ⟨t, ht, _⟩ | h' := get_or p m.toNat
  · have := kbulk_get ht
    have := kids_len t
    refine ⟨m.toNat, by omega, t, ht, _, c_named _ _ (by omega), fun h1 => ?_, fun h1 => ?_⟩
    · simp [inK, h, ht, h1]
    · simp [inK, h, ht, h1]
  · omega
theorem c_lookup {p : List Tree} {m : Int} {w : List UInt8} (h0 : 0 ≤ m) (hm : m < p.length) (hp : kbulk p ≤ 1000000000) (hw : w.length ≤ 1000000000) : S_link_lookup p m w (lookK p m w).1 (lookK p m w).2.1 (lookK p m w).2.2 := by
  have hpl := kbulk_len p
  refine rS_link_lookup 1 _ _ _ _ _ _ ⟨fun h => by omega, fun h => ⟨fun h => by omega, fun h => ⟨_, _, _, c_Cut0 w hw, fun h1 => ?_, fun h1 => ?_⟩⟩⟩
  · have h1 : 0 ≤ dotK w 0 := by simpa using h1
    simp only [if_pos h1, lookK]
    refine ⟨_, c_named _ _ (by omega), ?_⟩
    refine c_lookL ?_ hp
    rcases namedK_range (w.take (dotK w 0).toNat) p 0 with h2 | ⟨k, t, h2, h3, _⟩
    · rw [h2]; omega
    · have := (List.getElem?_eq_some_iff.1 h3).1
      rw [h2]; omega
  · have h1 : ¬ 0 ≤ dotK w 0 := by simpa using h1
    simp only [lookK, if_neg h1]
    exact c_lookL hm hp
end Go.Proofs.YteglbnopdedadaaGreat
namespace Go.Proofs.YteglbnopdedadaaGreat
open Go.RowKit Lx Sx
set_option maxHeartbeats 1000000
mutual
def nodK : Tree → List Int → List (List Int × Tree)
  | .node k s ls ks, q => (q, .node k s ls ks) :: nodKs ks q 0
def nodKs : List Tree → List Int → Nat → List (List Int × Tree)
  | [], _, _ => []
  | t :: r, q, i => nodK t (q ++ [(i : Int)]) ++ nodKs r q (i + 1)
end
theorem nodK_eq (t : Tree) (q : List Int) : nodK t q = (q, t) :: nodKs t.kids q 0 := by cases t; simp only [nodK]; rfl
mutual
theorem nodK_len : ∀ (t : Tree) (q : List Int), (nodK t q).length ≤ tbulk t
  | .node k s ls ks, q => by have := nodKs_len ks q 0; simp only [nodK, tbulk, List.length_cons]; omega
theorem nodKs_len : ∀ (l : List Tree) (q : List Int) (i : Nat), (nodKs l q i).length ≤ kbulk l
  | [], _, _ => by simp [nodKs, kbulk]
  | t :: r, q, i => by have := nodK_len t (q ++ [(i : Int)]); have := nodKs_len r q (i + 1); simp only [nodKs, kbulk, List.length_append]; omega
end
def atK : Tree → List Int → Option Tree
  | t, [] => some t
  | t, i :: r => if i < 0 then none else match t.kids[i.toNat]? with
    | none => none
    | some u => atK u r
theorem atK_app : ∀ (t : Tree) (q r : List Int), atK t (q ++ r) = (atK t q).bind fun u => atK u r
  | t, [], r => rfl
  | t, i :: q, r => by
    simp only [List.cons_append, atK]
    split
    · rfl
    · split
      · rfl
      · rename_i u hu; exact atK_app u q r
theorem atK_one {t u : Tree} {i : Nat} (h : t.kids[i]? = some u) : atK t [(i : Int)] = some u := by
  simp [atK, h, show ¬ ((i : Int) < 0) by omega]
mutual
theorem nodK_at (root : Tree) : ∀ (t : Tree) (q : List Int), atK root q = some t → ∀ x ∈ nodK t q, atK root x.1 = some x.2
  | .node k s ls ks, q, h, x, hx => by
    simp only [nodK, List.mem_cons] at hx
    rcases hx with rfl | hx
    · exact h
    · exact nodKs_at root (.node k s ls ks) q h ks 0 rfl x hx
theorem nodKs_at (root t : Tree) (q : List Int) (h : atK root q = some t) : ∀ (l : List Tree) (i : Nat), t.kids.drop i = l → ∀ x ∈ nodKs l q i, atK root x.1 = some x.2
  | [], _, _, x, hx => by simp [nodKs] at hx
  | u :: r, i, hd, x, hx => by
    simp only [nodKs, List.mem_append] at hx
    have hu : t.kids[i]? = some u := by
      have := congrArg (·[0]?) hd
      simpa using this
    rcases hx with hx | hx
    · exact nodK_at root u (q ++ [(i : Int)]) (by rw [atK_app, h]; exact atK_one hu) x hx
    · exact nodKs_at root t q h r (i + 1) (by rw [← List.tail_drop, hd]; rfl) x hx
end
mutual
theorem nodK_bnd : ∀ (t : Tree) (q : List Int), ∀ x ∈ nodK t q, x.1.length + tbulk x.2 ≤ q.length + tbulk t
  | .node k s ls ks, q, x, hx => by
    simp only [nodK, List.mem_cons] at hx
    rcases hx with rfl | hx
    · exact Nat.le_refl _
    · have := nodKs_bnd ks q 0 x hx; simp only [tbulk]; omega
theorem nodKs_bnd : ∀ (l : List Tree) (q : List Int) (i : Nat), ∀ x ∈ nodKs l q i, x.1.length + tbulk x.2 ≤ q.length + kbulk l + 1
  | [], _, _, x, hx => by simp [nodKs] at hx
  | t :: r, q, i, x, hx => by
    simp only [nodKs, List.mem_append] at hx
    rcases hx with hx | hx
    · have := nodK_bnd t (q ++ [(i : Int)]) x hx; simp only [kbulk, List.length_append, List.length_singleton] at *; omega
    · have := nodKs_bnd r q (i + 1) x hx; simp only [kbulk]; omega
end
def useK (u : Tree) : Bool := u.kind == 16 || u.kind == 9
def tgK (p : List Tree) (m : Int) (q : List Int) (u : Tree) : GTarget := ⟨⟨m, q⟩, (lookK p m u.text).1, (lookK p m u.text).2.1, !(lookK p m u.text).2.2⟩
def tgsK (p : List Tree) (m : Int) : List (List Int × Tree) → List GTarget
  | [] => []
  | x :: r => (if useK x.2 then [tgK p m x.1 x.2] else []) ++ tgsK p m r
theorem tgsK_app (p : List Tree) (m : Int) : ∀ a b, tgsK p m (a ++ b) = tgsK p m a ++ tgsK p m b
  | [], b => rfl
  | x :: r, b => by simp only [List.cons_append, tgsK, tgsK_app p m r b, List.append_assoc]
theorem tgsK_len (p : List Tree) (m : Int) : ∀ a, (tgsK p m a).length ≤ a.length
  | [] => Nat.le_refl _
  | x :: r => by have := tgsK_len p m r; simp only [tgsK, List.length_append, List.length_cons]; split <;> simp <;> omega
theorem c_Cloneb (l : List Int) (hl : l.length ≤ 1000000000) : S_slices_Clone_b l l := rS_slices_Clone_b 0 _ _ fun b hb => ⟨fun h => (List.length_eq_zero_iff.1 (hb h)).symm, fun _ => ⟨hl, rfl⟩⟩
theorem c_visit {p : List Tree} {M : Int} (h0 : 0 ≤ M) (hM : M < p.length) (hp : kbulk p ≤ 1000000000) : ∀ (t : Tree) (q : List Int) (fd : List GTarget), q.length + tbulk t ≤ 1000000000 → fd.length + tbulk t ≤ 1000000000 → S_link_collector_visit p M q fd t p M q (fd ++ tgsK p M (nodK t q)) := tree_ind fun t ih q fd hq hf => by
  have hk := kids_len t
  have ht := text_len t
  have hb := tbulk_eq t
  have loop : ∀ k i fd, t.kids.length - i ≤ k → fd.length + kbulk (t.kids.drop i) ≤ 1000000000 → L2_link_collector_visit (k + 1) t fd p M q i p M q (fd ++ tgsK p M (nodKs (t.kids.drop i) q i)) := fun k => by
    induction k with
    | zero =>
      intro i fd hi hf
      refine rL2_link_collector_visit 0 _ _ _ _ _ _ _ _ _ _ ⟨fun h => by omega, fun h => ⟨rfl, rfl, rfl, ?_⟩⟩
      rw [List.drop_of_length_le (by omega)]; simp [nodKs, tgsK]
    | succ k ihk =>
      intro i fd hi hf
      refine rL2_link_collector_visit (k + 1) _ _ _ _ _ _ _ _ _ _ ⟨fun h => ?_, fun h => ⟨rfl, rfl, rfl, ?_⟩⟩
      · obtain ⟨u, hu, _⟩ | h' := get_or t.kids i
        · have hd := drop_get hu
          rw [hd, kbulk] at hf
          have hbu := tbulk_kid hu
          have hl := nodK_len u (q ++ [(i : Int)])
          have hl2 := tgsK_len p M (nodK u (q ++ [(i : Int)]))
          refine ⟨u, hu, by simp; omega, _, _, _, _, ih i u hu (q ++ [(i : Int)]) fd (by simp; omega) (by omega), q.length, by simp, by simp, by omega, ?_⟩
          have := ihk (i + 1) (fd ++ tgsK p M (nodK u (q ++ [(i : Int)]))) (by omega) (by simp; omega)
          rw [hd, nodKs, tgsK_app, ← List.append_assoc]
          simpa using this
        · exact absurd h h'
      · rw [List.drop_of_length_le (by omega)]; simp [nodKs, tgsK]
  have key : ∀ b, b = useK t → L0_link_collector_visit (t.kids.length + 3) p M q fd t b p M q (fd ++ tgsK p M (nodK t q)) := fun b hbb => by
    rw [nodK_eq, tgsK]
    refine rL0_link_collector_visit (t.kids.length + 2) _ _ _ _ _ _ _ _ _ _ ⟨fun h => ?_, fun h => ?_⟩
    · rw [if_pos (by rw [← hbb]; exact h)]
      refine ⟨_, _, _, c_lookup h0 hM hp (by omega), _, c_Cloneb q (by omega), rL1_link_collector_visit (t.kids.length + 1) _ _ _ _ _ _ _ _ _ _ _ _ _ ⟨by simp; omega, ?_⟩⟩
      have := loop t.kids.length 0 (fd ++ [tgK p M q t]) (by omega) (by simp; omega)
      rw [← List.append_assoc]
      exact this
    · rw [if_neg (by rw [← hbb, h]; simp)]
      have := loop (t.kids.length + 1) 0 fd (by omega) (by simp; omega)
      simpa using this
  refine rS_link_collector_visit (t.kids.length + 3) _ _ _ _ _ _ _ _ _ ⟨fun h => key _ (by simp [useK, h]), fun h => key _ (by simp [useK, h])⟩
def progK : List Tree → Bool
  | [] => true
  | t :: r => t.kind == 1 && shapeK t && progK r
theorem c_program (p : List Tree) (hp : kbulk p ≤ 1000000000) : S_link_program p (progK p) := by
  have hl := kbulk_len p
  have loop : ∀ m i, p.length - i ≤ m → L0_link_program (m + 1) p i (progK (p.drop i)) := fun m => by
    induction m with
    | zero =>
      intro i hi
      refine rL0_link_program 0 _ _ _ ⟨fun h => by omega, fun h => ?_⟩
      rw [List.drop_of_length_le (by omega), progK]
    | succ m ihm =>
      intro i hi
      refine rL0_link_program (m + 1) _ _ _ ⟨fun h => ?_, fun h => ?_⟩
      · obtain ⟨u, hu, _⟩ | h' := get_or p i
        · rw [drop_get hu, progK]
          have := kbulk_get hu
          refine ⟨u, hu, fun h1 => by simp [h1], fun h1 => ⟨_, c_Shaped u (by omega), fun h2 => by simp [h1, h2], fun h2 => ⟨by omega, ?_⟩⟩⟩
          simp only [h1, h2, beq_self_eq_true, Bool.true_and]
          exact ihm (i + 1) (by omega)
        · exact absurd h h'
      · rw [List.drop_of_length_le (by omega), progK]
  exact rS_link_program _ _ _ (loop p.length 0 (by omega))
def targK (p : List Tree) : Nat → List Tree → List GTarget
  | _, [] => []
  | i, t :: r => tgsK p i (nodK t []) ++ targK p (i + 1) r
theorem targK_len (p : List Tree) : ∀ (i : Nat) (l : List Tree), (targK p i l).length ≤ kbulk l
  | _, [] => Nat.le_refl _
  | i, t :: r => by
    have := targK_len p (i + 1) r
    have := tgsK_len p i (nodK t [])
    have := nodK_len t []
    simp only [targK, kbulk, List.length_append]; omega
def targetsK (p : List Tree) : List GTarget := if progK p then targK p 0 p else []
theorem c_Targets (p : List Tree) (hp : kbulk p ≤ 100000000) : S_link_Targets p (targetsK p) := by
  have hl := kbulk_len p
  have loop : ∀ m i z fd, p.length - i ≤ m → fd.length + kbulk (p.drop i) ≤ 1000000000 → L0_link_Targets (m + 1) p p z [] fd i (fd ++ targK p i (p.drop i)) := fun m => by
    induction m with
    | zero =>
      intro i z fd hi hf
      refine rL0_link_Targets 0 _ _ _ _ _ _ _ ⟨fun h => by omega, fun h => ?_⟩
      rw [List.drop_of_length_le (by omega)]; simp [targK]
    | succ m ihm =>
      intro i z fd hi hf
      refine rL0_link_Targets (m + 1) _ _ _ _ _ _ _ ⟨fun h => ?_, fun h => ?_⟩
      · obtain ⟨u, hu, _⟩ | h' := get_or p i
        · have := kbulk_get hu
          have hd := drop_get hu
          rw [hd, kbulk] at hf
          have := tgsK_len p i (nodK u [])
          have := nodK_len u []
          refine ⟨u, hu, _, _, _, _, c_visit (p := p) (M := (i : Int)) (by omega) (by omega) (by omega) u [] fd (by simp; omega) (by omega), by omega, ?_⟩
          rw [hd, targK, ← List.append_assoc]
          exact ihm (i + 1) _ _ (by omega) (by simp; omega)
        · exact absurd h h'
      · rw [List.drop_of_length_le (by omega)]; simp [targK]
  refine rS_link_Targets (p.length + 1) _ _ ⟨_, c_program p (by omega), fun h => by simp [targetsK, h], fun h => ?_⟩
  have := loop p.length 0 0 [] (by omega) (by simp; omega)
  simpa [targetsK, h] using this
theorem c_At (t : Tree) (q : List Int) (hq : q.length ≤ 1000000000) : S_semvcsref03_At t q ((atK t q).getD (.node 0 [] [] [])) (atK t q).isSome := by
  have loop : ∀ m i (u : Tree), q.length - i ≤ m → L0_semvcsref03_At (m + 1) q u i ((atK u (q.drop i)).getD (.node 0 [] [] [])) (atK u (q.drop i)).isSome := fun m => by
    induction m with
    | zero =>
      intro i u hi
      refine rL0_semvcsref03_At 0 _ _ _ _ _ ⟨fun h => by omega, fun h => ?_⟩
      rw [List.drop_of_length_le (by omega)]; exact ⟨rfl, rfl⟩
    | succ m ihm =>
      intro i u hi
      refine rL0_semvcsref03_At (m + 1) _ _ _ _ _ ⟨fun h => ?_, fun h => ?_⟩
      · obtain ⟨x, hx, _⟩ | h' := get_or q i
        · rw [drop_get hx, atK]
          refine ⟨x, hx, fun h1 => by simp [h1], fun h1 => ⟨x, hx, fun h2 => ?_, fun h2 => ?_⟩⟩
          · have : u.kids[x.toNat]? = none := List.getElem?_eq_none (by omega)
            simp [h1, this]
          · obtain ⟨y, hy, _⟩ | h3 := get_or u.kids x.toNat
            · refine ⟨x, hx, x.toNat, by omega, y, hy, ?_⟩
              simp only [if_neg h1, hy]
              exact ihm (i + 1) y (by omega)
            · omega
        · exact absurd h h'
      · rw [List.drop_of_length_le (by omega)]; exact ⟨rfl, rfl⟩
  have := loop q.length 0 t (by omega)
  exact rS_semvcsref03_At _ _ _ _ _ (by simpa using this)
end Go.Proofs.YteglbnopdedadaaGreat
namespace Go.Proofs.YteglbnopdedadaaGreat
open Go.RowKit Lx Sx
set_option maxRecDepth 100000
set_option maxHeartbeats 4000000
def S_syntax_Parse (p0 : (List UInt8)) (r0 : Tree) (r1 : Int) (r2 : Int) : Prop := Sum0 Tryz.prog 36 [.str p0] (.tup [.agg (treeC r0), .int .i64 r1, .int .i64 r2])
def S_semvcslaw06_LinkFirst (p0 : (List Int)) (r0 : Bool) : Prop := Sum0 Tryz.prog 5 [.row 1 (List.map (V.int .i64) p0)] (.bool r0)
def S_semvcslaw06_awake (r0 : Bool) : Prop := Sum0 Tryz.prog 12 [] (.bool r0)
def L0_semvcslaw06_LinkFirst (m : Nat) (r0_3 : (List Tree)) (r0_4 : (List GTarget)) (i1v1 : Nat) (r0 : Bool) : Prop := ∀ (K : Ctx) (j1 : Nat), PinB K [] → m ≤ j1 → Go Tryz.prog K (bodyPost Tryz.prog Tryz.f5 (SP K (fun u _ => u = .bool r0))) (.code (cL (cK (cB (cA (cB (cB (cB (cB (bodyC Tryz.f5)))))))))) [.loop (cL (cK (cB (cA (cB (cB (cB (cB (bodyC Tryz.f5))))))))) j1, .blk 0, .seq (cB (cB (cB (cB (cB (bodyC Tryz.f5))))))] 184 (mkF 184 0 [(3, .row 4 (kidsV r0_3)), (4, .row 5 (List.map GTarget.w r0_4)), (5, .int .i64 ((i1v1 : Nat) : Int))]) ⟨0, []⟩
def L1_semvcslaw06_LinkFirst (m : Nat) (r0_3 : (List Tree)) (r0_4 : (List GTarget)) (t1_13 : Tree) (i2v1 : Nat) (r0 : Bool) : Prop := ∀ (K : Ctx) (j1 : Nat), PinB K [] → m ≤ j1 → Go Tryz.prog K (bodyPost Tryz.prog Tryz.f5 (SP K (fun u _ => u = .bool r0))) (.ex .normal) [.seq (cB (cB (cB (cK (cA (cB (cL (cK (cB (cA (cB (cB (cB (cB (bodyC Tryz.f5))))))))))))))), .blk 1, .seq (cB (cB (cL (cK (cB (cA (cB (cB (cB (cB (bodyC Tryz.f5))))))))))), .loop (cL (cK (cB (cA (cB (cB (cB (cB (bodyC Tryz.f5))))))))) j1, .blk 0, .seq (cB (cB (cB (cB (cB (bodyC Tryz.f5))))))] 184 (mkF 184 0 [(3, .row 4 (kidsV r0_3)), (4, .row 5 (List.map GTarget.w r0_4)), (5, .int .i64 ((i2v1 : Nat) : Int)), (6, .ptr 0 0)]) ⟨1, [(0, .var 32 (treeC t1_13))]⟩
def L2_semvcslaw06_LinkFirst (m : Nat) (r0_3 : (List Tree)) (r0_4 : (List GTarget)) (t2_6 : Tree) (i3v1 : Nat) (i3v2 : Nat) (r0 : Bool) : Prop := ∀ (K : Ctx) (j1 : Nat) (j2 : Nat), PinB K [] → m ≤ j1 → m ≤ j2 → Go Tryz.prog K (bodyPost Tryz.prog Tryz.f5 (SP K (fun u _ => u = .bool r0))) (.code (cL (cK (cB (cB (cB (cB (cB (cB (cB (cK (cA (cB (cL (cK (cB (cA (cB (cB (cB (cB (bodyC Tryz.f5)))))))))))))))))))))) [.loop (cL (cK (cB (cB (cB (cB (cB (cB (cB (cK (cA (cB (cL (cK (cB (cA (cB (cB (cB (cB (bodyC Tryz.f5))))))))))))))))))))) j1, .blk 2, .blk 1, .seq (cB (cB (cL (cK (cB (cA (cB (cB (cB (cB (bodyC Tryz.f5))))))))))), .loop (cL (cK (cB (cA (cB (cB (cB (cB (bodyC Tryz.f5))))))))) j2, .blk 0, .seq (cB (cB (cB (cB (cB (bodyC Tryz.f5))))))] 184 (mkF 184 0 [(3, .row 4 (kidsV r0_3)), (4, .row 5 (List.map GTarget.w r0_4)), (5, .int .i64 ((i3v2 : Nat) : Int)), (8, .ptr 0 0), (10, .int .i64 ((i3v1 : Nat) : Int))]) ⟨1, [(0, .var 32 (treeC t2_6))]⟩
theorem rS_semvcslaw06_LinkFirst (m : Nat) (p0 : (List Int)) (r0 : Bool) (h : ∃ (b0_1 : Bool), S_semvcsmake_Light p0 b0_1 ∧ ((b0_1 = false) → ∃ (b0_2 : Bool), S_semvcslaw06_awake b0_2 ∧ b0_2 = r0) ∧ ((b0_1 = true) → ∃ (r0_3 : (List Tree)), S_semvcsmake_Program p0 r0_3 ∧ ∃ (r0_4 : (List GTarget)), S_link_Targets r0_3 r0_4 ∧ L0_semvcslaw06_LinkFirst m r0_3 r0_4 0 r0)) : S_semvcslaw06_LinkFirst p0 r0 := by
  refine ⟨rfl, rfl, ?_⟩
  refine sum_enter 184 [] Tryz.func5 rfl rfl rfl (pv_of rfl) fun K hK => ?_
  refine gR 9 rfl ?_
  obtain ⟨b0_1, hs46, h⟩ := h
  refine gC0 hs46 (by kernel_rfl) rfl rfl .rfl rfl ?_
  refine gR 3 rfl ?_
  refine gB 13 rfl rfl rfl (fun hd => ?_) (fun hd => ?_)
  · replace hd := (not_t hd)
    replace h := h.1 hd
    refine gR 3 rfl ?_
    obtain ⟨b0_2, hs47, h⟩ := h
    refine gC0 hs47 (by kernel_rfl) rfl rfl .rfl rfl ?_
    refine gR 5 rfl ?_
    subst h
    refine go_sub (F' := (mkF 184 0 [(2, .bool b0_2)])) (H' := ⟨0, []⟩) [] [] rfl hK ⟨⟨_, rfl, .rfl⟩, trivial⟩ trivial rfl ?_
    exact go_end tabS_ok (rs := [.tmp 2]) rfl rfl rfl
  · replace hd := (not_f hd)
    replace h := h.2 hd
    refine gR 6 rfl ?_
    obtain ⟨r0_3, hs48, h⟩ := h
    refine gC0 hs48 (by kernel_rfl) rfl rfl .rfl rfl ?_
    refine gR 6 rfl ?_
    obtain ⟨r0_4, hs49, h⟩ := h
    refine gC0 hs49 (by kernel_rfl) rfl rfl .rfl rfl ?_
    refine gR 10 rfl ?_
    refine go_loop m ?_
    exact gJ (h K _ hK (by omega)) [] [] rfl hK ⟨⟨_, rfl, .rfl⟩, ⟨_, rfl, .rfl⟩, ⟨_, rfl, .rfl⟩, trivial⟩ trivial rfl
theorem rL0_semvcslaw06_LinkFirst (m : Nat) (r0_3 : (List Tree)) (r0_4 : (List GTarget)) (i1v1 : Nat) (r0 : Bool) (h : ((i1v1 < r0_4.length) → ∃ (x1_1 : GTarget), r0_4[i1v1]? = some x1_1 ∧ ((x1_1.Free = true) → L0_semvcslaw06_LinkFirst m r0_3 r0_4 (i1v1 + 1) r0) ∧ ((x1_1.Free = false) → ∃ (x1_2 : GTarget), r0_4[i1v1]? = some x1_2 ∧ ((x1_2.Module < 0) → false = r0) ∧ ((¬ x1_2.Module < 0) → ∃ (x1_3 : GTarget), r0_4[i1v1]? = some x1_3 ∧ ((((r0_3.length : Nat) : Int) ≤ x1_3.Module) → false = r0) ∧ ((¬ ((r0_3.length : Nat) : Int) ≤ x1_3.Module) → ∃ (x1_4 : GTarget), r0_4[i1v1]? = some x1_4 ∧ ((x1_4.Def < 0) → false = r0) ∧ ((¬ x1_4.Def < 0) → ∃ (x1_5 : GTarget), r0_4[i1v1]? = some x1_5 ∧ ∃ (x1_6 : GTarget), r0_4[i1v1]? = some x1_6 ∧ ∃ (k1_7 : Nat), x1_6.Module = ((k1_7 : Nat) : Int) ∧ ∃ (t1_8 : Tree), r0_3[k1_7]? = some t1_8 ∧ ((((t1_8.kids.length : Nat) : Int) ≤ x1_5.Def) → false = r0) ∧ ((¬ ((t1_8.kids.length : Nat) : Int) ≤ x1_5.Def) → ∃ (x1_9 : GTarget), r0_4[i1v1]? = some x1_9 ∧ ∃ (k1_10 : Nat), x1_9.Use.Module = ((k1_10 : Nat) : Int) ∧ ∃ (t1_11 : Tree), r0_3[k1_10]? = some t1_11 ∧ ∃ (x1_12 : GTarget), r0_4[i1v1]? = some x1_12 ∧ ∃ (t1_13 : Tree), ∃ (b1_14 : Bool), S_semvcsref03_At t1_11 x1_12.Use.Path t1_13 b1_14 ∧ L1_semvcslaw06_LinkFirst m r0_3 r0_4 t1_13 i1v1 r0)))))) ∧ ((¬ i1v1 < r0_4.length) → ∃ (b1_15 : Bool), S_semvcslaw06_awake b1_15 ∧ b1_15 = r0)) : L0_semvcslaw06_LinkFirst (m + 1) r0_3 r0_4 i1v1 r0 := by
  intro K j1 hK hj1
  obtain ⟨j1, rfl⟩ : ∃ j, j1 = j + 1 := ⟨j1 - 1, by omega⟩
  refine gR 6 rfl ?_
  refine gV 21 (.int .i64 ((r0_4.length : Nat) : Int)) rfl (lenI (lenM GTarget.w _)) rfl ?_
  refine gLB 20 rfl (lenM GTarget.w _) fun hl50 => ?_
  refine gR 3 rfl ?_
  refine gB 22 rfl rfl rfl (fun hd => ?_) (fun hd => ?_)
  · replace hd := (natT hd)
    replace h := h.1 hd
    refine gR 10 rfl ?_
    obtain ⟨x1_1, hxx1_1, h⟩ := h
    refine gY (yIR' (mapget (f := GTarget.w) hxx1_1) tabS_ok rfl rfl rfl rfl) rfl rfl ?_
    refine gR 4 rfl ?_
    refine gB 29 rfl rfl rfl (fun hd => ?_) (fun hd => ?_)
    · skip
      replace h := h.1 hd
      refine gR 8 rfl ?_
      refine gV 24 (.int .i64 ((i1v1 + 1 : Nat) : Int)) rfl (wrapI (by have := hl50; omega) (by omega)) rfl ?_
      refine gR 2 rfl ?_
      refine go_xloop ?_
      exact gJ (h K _ hK (by omega)) [] [] rfl hK ⟨⟨_, rfl, .rfl⟩, ⟨_, rfl, .rfl⟩, ⟨_, rfl, .rfl⟩, trivial⟩ trivial rfl
    · skip
      replace h := h.2 hd
      refine gR 5 rfl ?_
      refine gDs [] 42 42 rfl (by kernel_rfl) (by kernel_rfl) ?_
      refine gDr [(0, 2), (1, 0)] (by kernel_rfl) rfl rfl ?_
      obtain ⟨x1_2, hxx1_2, h⟩ := h
      refine gYd1 2 rfl (by kernel_rfl) (yIR' (mapget (f := GTarget.w) hxx1_2) tabS_ok rfl rfl rfl rfl) rfl rfl ?_
      refine gDr [(3, 0), (4, 0), (5, 0), (6, 0)] (by kernel_rfl) rfl rfl ?_
      refine gB 36 rfl rfl rfl (fun hd => ?_) (fun hd => ?_)
      · refine gT 35 rfl hd rfl ?_
        replace hd := (of_decide_eq_true hd)
        replace h := h.1 hd
        refine gDr [(7, 2), (8, 2), (9, 2), (10, 2), (11, 2), (12, 0), (13, 0), (14, 0), (15, 0), (16, 0), (17, 2), (18, 0), (19, 0), (20, 0), (21, 0), (22, 0), (23, 0), (24, 0), (25, 2), (26, 2), (27, 2), (28, 2), (29, 2), (30, 2), (31, 2), (32, 0), (33, 0), (34, 0), (35, 0), (36, 0), (37, 0), (38, 0), (39, 0), (40, 0), (41, 0)] (by kernel_rfl) rfl rfl ?_
        refine gDe (by kernel_rfl) ?_
        refine gR 2 rfl ?_
        refine go_sub (F' := (mkF 184 0 [])) (H' := ⟨0, []⟩) [] [] rfl hK trivial trivial rfl ?_
        refine gR 9 rfl ?_
        refine go_xloopR ?_
        refine gR 2 rfl ?_
        subst h
        refine go_sub (F' := (mkF 184 0 [(2, .bool false)])) (H' := ⟨0, []⟩) [] [] rfl hK ⟨⟨_, rfl, .rfl⟩, trivial⟩ trivial rfl ?_
        exact go_end tabS_ok (rs := [.tmp 2]) rfl rfl rfl
      · refine gF 35 rfl hd rfl ?_
        replace hd := (of_decide_eq_false hd)
        replace h := h.2 hd
        refine gDr [(7, 2), (8, 2)] (by kernel_rfl) rfl rfl ?_
        obtain ⟨x1_3, hxx1_3, h⟩ := h
        refine gYd 9 rfl (by kernel_rfl) (yIR' (mapget (f := GTarget.w) hxx1_3) tabS_ok rfl rfl rfl rfl) rfl rfl ?_
        refine gDr [(10, 2), (11, 2), (12, 0), (13, 0)] (by kernel_rfl) rfl rfl ?_
        refine gV 43 (.int .i64 ((r0_3.length : Nat) : Int)) rfl (lenI (lenK _)) rfl ?_
        refine gLB 42 rfl (lenK _) fun hl57 => ?_
        refine gDr [(14, 0), (15, 0), (16, 0)] (by kernel_rfl) rfl rfl ?_
        refine gB 46 rfl rfl rfl (fun hd => ?_) (fun hd => ?_)
        · refine gT 45 rfl hd rfl ?_
          replace hd := (of_decide_eq_true hd)
          replace h := h.1 hd
          refine gDr [(17, 2), (18, 0), (19, 0), (20, 0), (21, 0), (22, 0), (23, 0), (24, 0), (25, 2), (26, 2), (27, 2), (28, 2), (29, 2), (30, 2), (31, 2), (32, 0), (33, 0), (34, 0), (35, 0), (36, 0), (37, 0), (38, 0), (39, 0), (40, 0), (41, 0)] (by kernel_rfl) rfl rfl ?_
          refine gDe (by kernel_rfl) ?_
          refine gR 2 rfl ?_
          refine go_sub (F' := (mkF 184 0 [])) (H' := ⟨0, []⟩) [] [] rfl hK trivial trivial rfl ?_
          refine gR 9 rfl ?_
          refine go_xloopR ?_
          refine gR 2 rfl ?_
          subst h
          refine go_sub (F' := (mkF 184 0 [(2, .bool false)])) (H' := ⟨0, []⟩) [] [] rfl hK ⟨⟨_, rfl, .rfl⟩, trivial⟩ trivial rfl ?_
          exact go_end tabS_ok (rs := [.tmp 2]) rfl rfl rfl
        · refine gF 45 rfl hd rfl ?_
          replace hd := (of_decide_eq_false hd)
          replace h := h.2 hd
          refine gDr [(17, 2), (18, 0)] (by kernel_rfl) rfl rfl ?_
          obtain ⟨x1_4, hxx1_4, h⟩ := h
          refine gYd1 19 rfl (by kernel_rfl) (yIR' (mapget (f := GTarget.w) hxx1_4) tabS_ok rfl rfl rfl rfl) rfl rfl ?_
          refine gDr [(20, 0), (21, 0), (22, 0), (23, 0), (24, 0)] (by kernel_rfl) rfl rfl ?_
          refine gB 54 rfl rfl rfl (fun hd => ?_) (fun hd => ?_)
          · refine gT 53 rfl hd rfl ?_
            replace hd := (of_decide_eq_true hd)
            replace h := h.1 hd
            refine gDr [(25, 2), (26, 2), (27, 2), (28, 2), (29, 2), (30, 2), (31, 2), (32, 0), (33, 0), (34, 0), (35, 0), (36, 0), (37, 0), (38, 0), (39, 0), (40, 0), (41, 0)] (by kernel_rfl) rfl rfl ?_
            refine gDe (by kernel_rfl) ?_
            refine gR 2 rfl ?_
            refine go_sub (F' := (mkF 184 0 [])) (H' := ⟨0, []⟩) [] [] rfl hK trivial trivial rfl ?_
            refine gR 9 rfl ?_
            refine go_xloopR ?_
            refine gR 2 rfl ?_
            subst h
            refine go_sub (F' := (mkF 184 0 [(2, .bool false)])) (H' := ⟨0, []⟩) [] [] rfl hK ⟨⟨_, rfl, .rfl⟩, trivial⟩ trivial rfl ?_
            exact go_end tabS_ok (rs := [.tmp 2]) rfl rfl rfl
          · refine gF 53 rfl hd rfl ?_
            replace hd := (of_decide_eq_false hd)
            replace h := h.2 hd
            refine gDr [(25, 2), (26, 2)] (by kernel_rfl) rfl rfl ?_
            obtain ⟨x1_5, hxx1_5, h⟩ := h
            refine gYd 27 rfl (by kernel_rfl) (yIR' (mapget (f := GTarget.w) hxx1_5) tabS_ok rfl rfl rfl rfl) rfl rfl ?_
            refine gDr [(28, 2), (29, 2), (30, 2), (31, 2), (32, 0)] (by kernel_rfl) rfl rfl ?_
            obtain ⟨x1_6, hxx1_6, h⟩ := h
            refine gYd1 33 rfl (by kernel_rfl) (yIR' (mapget (f := GTarget.w) hxx1_6) tabS_ok rfl rfl rfl rfl) rfl rfl ?_
            refine gDr [(34, 0), (35, 0)] (by kernel_rfl) rfl rfl ?_
            obtain ⟨k1_7, ek1_7, h⟩ := h
            refine gV 65 (.int .i64 ((k1_7 : Nat) : Int)) rfl (lenI' ek1_7) rfl ?_
            obtain ⟨t1_8, hxt1_8, h⟩ := h
            refine gYd1 36 rfl (by kernel_rfl) (yIR' (kidsV_get hxt1_8) tabS_ok rfl rfl rfl rfl) rfl rfl ?_
            refine gDr [(37, 0), (38, 0), (39, 0)] (by kernel_rfl) rfl rfl ?_
            refine gV 69 (.int .i64 ((t1_8.kids.length : Nat) : Int)) rfl (lenI (lenK _)) rfl ?_
            refine gLB 68 rfl (lenK _) fun hl58 => ?_
            refine gDr [(40, 0), (41, 0)] (by kernel_rfl) rfl rfl ?_
            refine gDe (by kernel_rfl) ?_
            refine gR 1 rfl ?_
            refine gB 71 rfl rfl rfl (fun hd => ?_) (fun hd => ?_)
            · replace hd := (of_decide_eq_true hd)
              replace h := h.1 hd
              refine gR 1 rfl ?_
              refine go_sub (F' := (mkF 184 0 [])) (H' := ⟨0, []⟩) [] [] rfl hK trivial trivial rfl ?_
              refine gR 9 rfl ?_
              refine go_xloopR ?_
              refine gR 2 rfl ?_
              subst h
              refine go_sub (F' := (mkF 184 0 [(2, .bool false)])) (H' := ⟨0, []⟩) [] [] rfl hK ⟨⟨_, rfl, .rfl⟩, trivial⟩ trivial rfl ?_
              exact go_end tabS_ok (rs := [.tmp 2]) rfl rfl rfl
            · replace hd := (of_decide_eq_false hd)
              replace h := h.2 hd
              refine gR 3 rfl ?_
              refine go_sub (F' := (mkF 184 0 [(3, .row 4 (kidsV r0_3)), (4, .row 5 (List.map GTarget.w r0_4)), (5, .int .i64 ((i1v1 : Nat) : Int))])) (H' := ⟨0, []⟩) [] [] rfl hK ⟨⟨_, rfl, .rfl⟩, ⟨_, rfl, .rfl⟩, ⟨_, rfl, .rfl⟩, trivial⟩ trivial rfl ?_
              refine gR 1 rfl ?_
              refine gDs [] 20 22 rfl (by kernel_rfl) (by kernel_rfl) ?_
              refine gDr [(0, 2), (1, 2), (2, 2)] (by kernel_rfl) rfl rfl ?_
              obtain ⟨x1_9, hxx1_9, h⟩ := h
              refine gYd 3 rfl (by kernel_rfl) (yIR' (mapget (f := GTarget.w) hxx1_9) tabS_ok rfl rfl rfl rfl) rfl rfl ?_
              refine gDr [(4, 2), (5, 2), (6, 2)] (by kernel_rfl) rfl rfl ?_
              obtain ⟨k1_10, ek1_10, h⟩ := h
              refine gV 79 (.int .i64 ((k1_10 : Nat) : Int)) rfl (lenI' ek1_10) rfl ?_
              obtain ⟨t1_11, hxt1_11, h⟩ := h
              refine gYd 7 rfl (by kernel_rfl) (yIR' (kidsV_get hxt1_11) tabS_ok rfl rfl rfl rfl) rfl rfl ?_
              refine gDr [(8, 2), (9, 2), (10, 2)] (by kernel_rfl) rfl rfl ?_
              obtain ⟨x1_12, hxx1_12, h⟩ := h
              refine gYd 11 rfl (by kernel_rfl) (yIR' (mapget (f := GTarget.w) hxx1_12) tabS_ok rfl rfl rfl rfl) rfl rfl ?_
              refine gDr [(12, 2), (13, 2), (14, 2)] (by kernel_rfl) rfl rfl ?_
              obtain ⟨t1_13, b1_14, hs59, h⟩ := h
              apply go_dTwoX (i := 15) (j := 19) (by kernel_rfl) rfl rfl rfl rfl
              · exact (exec_call (L' := []) (by kernel_rfl) rfl rfl (call0 hs59 .rfl [] rfl) (.inl rfl))
              · exact (exec_eff tabS_ok rfl rfl)
              · skip
                refine gDr [(16, 2), (17, 2), (18, 2), (19, 0), (20, 1), (21, 1)] (by kernel_rfl) rfl rfl ?_
                refine gDe (by kernel_rfl) ?_
                exact gJ (h K _ hK (by omega)) [0] [] rfl hK ⟨⟨_, rfl, .rfl⟩, ⟨_, rfl, .rfl⟩, ⟨_, rfl, .rfl⟩, ⟨_, rfl, .rfl⟩, trivial⟩ ⟨⟨_, rfl, ⟨rfl, SubL.rfl⟩⟩, trivial⟩ rfl
              · skip
                refine gDC0 15 hs59 (by kernel_rfl) rfl (by kernel_rfl) rfl rfl .rfl rfl rfl ?_
                refine gDr [(16, 0), (17, 2), (18, 2), (20, 1), (21, 1)] (by kernel_rfl) rfl rfl ?_
                refine gDe (by kernel_rfl) ?_
                exact gJ (h K _ hK (by omega)) [0] [] rfl hK ⟨⟨_, rfl, .rfl⟩, ⟨_, rfl, .rfl⟩, ⟨_, rfl, .rfl⟩, ⟨_, rfl, .rfl⟩, trivial⟩ ⟨⟨_, rfl, ⟨rfl, SubL.rfl⟩⟩, trivial⟩ rfl
  · replace hd := (natF hd)
    replace h := h.2 hd
    refine gR 3 rfl ?_
    refine go_xloopE ?_
    refine gR 4 rfl ?_
    obtain ⟨b1_15, hs60, h⟩ := h
    refine gC0 hs60 (by kernel_rfl) rfl rfl .rfl rfl ?_
    refine gR 4 rfl ?_
    subst h
    refine go_sub (F' := (mkF 184 0 [(2, .bool b1_15)])) (H' := ⟨0, []⟩) [] [] rfl hK ⟨⟨_, rfl, .rfl⟩, trivial⟩ trivial rfl ?_
    exact go_end tabS_ok (rs := [.tmp 2]) rfl rfl rfl
theorem rL1_semvcslaw06_LinkFirst (m : Nat) (r0_3 : (List Tree)) (r0_4 : (List GTarget)) (t1_13 : Tree) (i2v1 : Nat) (r0 : Bool) (h : ∃ (x2_1 : GTarget), r0_4[i2v1]? = some x2_1 ∧ ∃ (k2_2 : Nat), x2_1.Module = ((k2_2 : Nat) : Int) ∧ ∃ (t2_3 : Tree), r0_3[k2_2]? = some t2_3 ∧ ∃ (x2_4 : GTarget), r0_4[i2v1]? = some x2_4 ∧ ∃ (k2_5 : Nat), x2_4.Def = ((k2_5 : Nat) : Int) ∧ ∃ (t2_6 : Tree), t2_3.kids[k2_5]? = some t2_6 ∧ ((t1_13.text ≠ t2_6.text) → ∃ (x2_7 : GTarget), r0_4[i2v1]? = some x2_7 ∧ ∃ (k2_8 : Nat), x2_7.Module = ((k2_8 : Nat) : Int) ∧ ∃ (t2_9 : Tree), r0_3[k2_8]? = some t2_9 ∧ t2_9.text.length + [46].length ≤ 9223372036854775807 ∧ (t2_9.text ++ [46]).length + t2_6.text.length ≤ 9223372036854775807 ∧ ((t1_13.text ≠ ((t2_9.text ++ [46]) ++ t2_6.text)) → false = r0) ∧ ((t1_13.text = ((t2_9.text ++ [46]) ++ t2_6.text)) → (((t1_13.kind == 16) ≠ (t2_6.kind == 2)) → false = r0) ∧ (((t1_13.kind == 16) = (t2_6.kind == 2)) → L2_semvcslaw06_LinkFirst m r0_3 r0_4 t2_6 0 i2v1 r0))) ∧ ((t1_13.text = t2_6.text) → ∃ (x2_10 : GTarget), r0_4[i2v1]? = some x2_10 ∧ ∃ (x2_11 : GTarget), r0_4[i2v1]? = some x2_11 ∧ ((x2_10.Module ≠ x2_11.Use.Module) → false = r0) ∧ ((x2_10.Module = x2_11.Use.Module) → (((t1_13.kind == 16) ≠ (t2_6.kind == 2)) → false = r0) ∧ (((t1_13.kind == 16) = (t2_6.kind == 2)) → L2_semvcslaw06_LinkFirst m r0_3 r0_4 t2_6 0 i2v1 r0)))) : L1_semvcslaw06_LinkFirst (m + 1) r0_3 r0_4 t1_13 i2v1 r0 := by
  intro K j1 hK hj1
  obtain ⟨j1, rfl⟩ : ∃ j, j1 = j + 1 := ⟨j1 - 1, by omega⟩
  refine gR 2 rfl ?_
  refine gDs [] 17 18 rfl (by kernel_rfl) (by kernel_rfl) ?_
  refine gDr [(0, 2), (1, 2), (2, 2)] (by kernel_rfl) rfl rfl ?_
  obtain ⟨x2_1, hxx2_1, h⟩ := h
  refine gYd 3 rfl (by kernel_rfl) (yIR' (mapget (f := GTarget.w) hxx2_1) tabS_ok rfl rfl rfl rfl) rfl rfl ?_
  refine gDr [(4, 2), (5, 2)] (by kernel_rfl) rfl rfl ?_
  obtain ⟨k2_2, ek2_2, h⟩ := h
  refine gV 96 (.int .i64 ((k2_2 : Nat) : Int)) rfl (lenI' ek2_2) rfl ?_
  obtain ⟨t2_3, hxt2_3, h⟩ := h
  refine gYd 6 rfl (by kernel_rfl) (yIR' (kidsV_get hxt2_3) tabS_ok rfl rfl rfl rfl) rfl rfl ?_
  refine gDr [(7, 2), (8, 2), (9, 2), (10, 2)] (by kernel_rfl) rfl rfl ?_
  obtain ⟨x2_4, hxx2_4, h⟩ := h
  refine gYd 11 rfl (by kernel_rfl) (yIR' (mapget (f := GTarget.w) hxx2_4) tabS_ok rfl rfl rfl rfl) rfl rfl ?_
  refine gDr [(12, 2), (13, 2)] (by kernel_rfl) rfl rfl ?_
  obtain ⟨k2_5, ek2_5, h⟩ := h
  refine gV 104 (.int .i64 ((k2_5 : Nat) : Int)) rfl (lenI' ek2_5) rfl ?_
  obtain ⟨t2_6, hxt2_6, h⟩ := h
  refine gYd 14 rfl (by kernel_rfl) (yIR' (kidsV_get hxt2_6) tabS_ok rfl rfl rfl rfl) rfl rfl ?_
  refine gDr [(15, 2), (16, 0), (17, 1)] (by kernel_rfl) rfl rfl ?_
  refine gDe (by kernel_rfl) ?_
  refine gR 13 rfl ?_
  refine gDs [0, 1] 46 46 rfl (by kernel_rfl) (by kernel_rfl) ?_
  refine gDr [(0, 0), (1, 0)] (by kernel_rfl) rfl rfl ?_
  refine gB 113 rfl rfl rfl (fun hd => ?_) (fun hd => ?_)
  · refine gT 9 rfl hd rfl ?_
    refine gT 111 rfl hd rfl ?_
    refine gT 112 rfl hd rfl ?_
    replace hd := (xneT hd)
    replace h := h.1 hd
    refine gDr [(2, 2), (3, 3), (4, 2), (5, 2), (6, 2)] (by kernel_rfl) rfl rfl ?_
    obtain ⟨x2_7, hxx2_7, h⟩ := h
    refine gYd 7 rfl (by kernel_rfl) (yIR' (mapget (f := GTarget.w) hxx2_7) tabS_ok rfl rfl rfl rfl) rfl rfl ?_
    refine gDr [(8, 2), (9, 2)] (by kernel_rfl) rfl rfl ?_
    obtain ⟨k2_8, ek2_8, h⟩ := h
    refine gV 121 (.int .i64 ((k2_8 : Nat) : Int)) rfl (lenI' ek2_8) rfl ?_
    obtain ⟨t2_9, hxt2_9, h⟩ := h
    refine gYd 10 rfl (by kernel_rfl) (yIR' (kidsV_get hxt2_9) tabS_ok rfl rfl rfl rfl) rfl rfl ?_
    refine gDr [(11, 2), (12, 2)] (by kernel_rfl) rfl rfl ?_
    obtain ⟨hb, h⟩ := h
    refine gYd 13 rfl (by kernel_rfl) (yCat rfl rfl hb) rfl rfl ?_
    refine gDr [(14, 0), (15, 0)] (by kernel_rfl) rfl rfl ?_
    obtain ⟨hb, h⟩ := h
    refine gYd1 16 rfl (by kernel_rfl) (yCat rfl rfl hb) rfl rfl ?_
    refine gDr [(17, 0), (18, 0), (19, 0)] (by kernel_rfl) rfl rfl ?_
    refine gB 131 rfl rfl rfl (fun hd => ?_) (fun hd => ?_)
    · refine gT 130 rfl hd rfl ?_
      replace hd := (xneT hd)
      replace h := h.1 hd
      refine gDr [(20, 0), (21, 0), (22, 0), (23, 2), (24, 2), (25, 2), (26, 2), (27, 2), (28, 2), (29, 0), (30, 0), (31, 0), (32, 0), (33, 0), (34, 0), (35, 0), (36, 0), (37, 0), (38, 2), (39, 2), (40, 2), (41, 0), (42, 0), (43, 0), (44, 0), (45, 0)] (by kernel_rfl) rfl rfl ?_
      refine gDe (by kernel_rfl) ?_
      refine gR 2 rfl ?_
      refine go_sub (F' := (mkF 184 0 [])) (H' := ⟨0, []⟩) [] [] rfl hK trivial trivial rfl ?_
      refine gR 9 rfl ?_
      refine go_xloopR ?_
      refine gR 2 rfl ?_
      subst h
      refine go_sub (F' := (mkF 184 0 [(2, .bool false)])) (H' := ⟨0, []⟩) [] [] rfl hK ⟨⟨_, rfl, .rfl⟩, trivial⟩ trivial rfl ?_
      exact go_end tabS_ok (rs := [.tmp 2]) rfl rfl rfl
    · refine gF 130 rfl hd rfl ?_
      replace hd := (bneFE hd)
      replace h := h.2 hd
      refine gDr [(20, 0), (21, 0), (22, 0), (23, 2), (24, 2), (25, 2), (26, 2), (27, 2), (28, 2), (29, 0), (30, 0), (31, 0), (32, 0), (33, 0), (34, 0), (35, 0), (36, 0), (37, 0), (38, 2), (39, 3), (40, 2), (41, 0), (42, 0), (43, 0), (44, 0), (45, 0)] (by kernel_rfl) rfl rfl ?_
      refine gDe (by kernel_rfl) ?_
      refine gR 1 rfl ?_
      refine gB 157 rfl rfl rfl (fun hd => ?_) (fun hd => ?_)
      · replace hd := (xneT hd)
        replace h := h.1 hd
        refine gR 1 rfl ?_
        refine go_sub (F' := (mkF 184 0 [])) (H' := ⟨0, []⟩) [] [] rfl hK trivial trivial rfl ?_
        refine gR 9 rfl ?_
        refine go_xloopR ?_
        refine gR 2 rfl ?_
        subst h
        refine go_sub (F' := (mkF 184 0 [(2, .bool false)])) (H' := ⟨0, []⟩) [] [] rfl hK ⟨⟨_, rfl, .rfl⟩, trivial⟩ trivial rfl ?_
        exact go_end tabS_ok (rs := [.tmp 2]) rfl rfl rfl
      · replace hd := (bneFE hd)
        replace h := h.2 hd
        refine gR 3 rfl ?_
        refine go_sub (F' := (mkF 184 0 [(3, .row 4 (kidsV r0_3)), (4, .row 5 (List.map GTarget.w r0_4)), (5, .int .i64 ((i2v1 : Nat) : Int)), (8, .ptr 0 0)])) (H' := ⟨1, [(0, .var 32 (treeC t2_6))]⟩) [1] [] rfl hK ⟨⟨_, rfl, .rfl⟩, ⟨_, rfl, .rfl⟩, ⟨_, rfl, .rfl⟩, ⟨_, rfl, .rfl⟩, trivial⟩ ⟨⟨_, rfl, ⟨rfl, SubL.rfl⟩⟩, trivial⟩ rfl ?_
        refine gR 6 rfl ?_
        refine go_loop m ?_
        exact gJ (h K _ _ hK (by omega) (by omega)) [0] [] rfl hK ⟨⟨_, rfl, .rfl⟩, ⟨_, rfl, .rfl⟩, ⟨_, rfl, .rfl⟩, ⟨_, rfl, .rfl⟩, ⟨_, rfl, .rfl⟩, trivial⟩ ⟨⟨_, rfl, ⟨rfl, SubL.rfl⟩⟩, trivial⟩ rfl
  · refine gF 9 rfl hd rfl ?_
    refine gF 111 rfl hd rfl ?_
    refine gF 112 rfl hd rfl ?_
    replace hd := (bneFE hd)
    replace h := h.2 hd
    refine gDr [(2, 2), (3, 2), (4, 2), (5, 2), (6, 2), (7, 2), (8, 2), (9, 2), (10, 2), (11, 2), (12, 2), (13, 2), (14, 0), (15, 0), (16, 0), (17, 0), (18, 0), (19, 0), (20, 0), (21, 0), (22, 0), (23, 2), (24, 2)] (by kernel_rfl) rfl rfl ?_
    obtain ⟨x2_10, hxx2_10, h⟩ := h
    refine gYd 25 rfl (by kernel_rfl) (yIR' (mapget (f := GTarget.w) hxx2_10) tabS_ok rfl rfl rfl rfl) rfl rfl ?_
    refine gDr [(26, 2), (27, 2), (28, 2), (29, 0)] (by kernel_rfl) rfl rfl ?_
    obtain ⟨x2_11, hxx2_11, h⟩ := h
    refine gYd1 30 rfl (by kernel_rfl) (yIR' (mapget (f := GTarget.w) hxx2_11) tabS_ok rfl rfl rfl rfl) rfl rfl ?_
    refine gDr [(31, 0), (32, 0), (33, 0), (34, 0), (35, 0), (36, 0), (37, 0)] (by kernel_rfl) rfl rfl ?_
    refine gB 149 rfl rfl rfl (fun hd => ?_) (fun hd => ?_)
    · refine gT 148 rfl hd rfl ?_
      replace hd := (xneT hd)
      replace h := h.1 hd
      refine gDr [(38, 2), (39, 2), (40, 2), (41, 0), (42, 0), (43, 0), (44, 0), (45, 0)] (by kernel_rfl) rfl rfl ?_
      refine gDe (by kernel_rfl) ?_
      refine gR 2 rfl ?_
      refine go_sub (F' := (mkF 184 0 [])) (H' := ⟨0, []⟩) [] [] rfl hK trivial trivial rfl ?_
      refine gR 9 rfl ?_
      refine go_xloopR ?_
      refine gR 2 rfl ?_
      subst h
      refine go_sub (F' := (mkF 184 0 [(2, .bool false)])) (H' := ⟨0, []⟩) [] [] rfl hK ⟨⟨_, rfl, .rfl⟩, trivial⟩ trivial rfl ?_
      exact go_end tabS_ok (rs := [.tmp 2]) rfl rfl rfl
    · refine gF 148 rfl hd rfl ?_
      replace hd := (bneFE hd)
      replace h := h.2 hd
      refine gDr [(38, 2), (39, 3), (40, 2), (41, 0), (42, 0), (43, 0), (44, 0), (45, 0)] (by kernel_rfl) rfl rfl ?_
      refine gDe (by kernel_rfl) ?_
      refine gR 1 rfl ?_
      refine gB 157 rfl rfl rfl (fun hd => ?_) (fun hd => ?_)
      · replace hd := (xneT hd)
        replace h := h.1 hd
        refine gR 1 rfl ?_
        refine go_sub (F' := (mkF 184 0 [])) (H' := ⟨0, []⟩) [] [] rfl hK trivial trivial rfl ?_
        refine gR 9 rfl ?_
        refine go_xloopR ?_
        refine gR 2 rfl ?_
        subst h
        refine go_sub (F' := (mkF 184 0 [(2, .bool false)])) (H' := ⟨0, []⟩) [] [] rfl hK ⟨⟨_, rfl, .rfl⟩, trivial⟩ trivial rfl ?_
        exact go_end tabS_ok (rs := [.tmp 2]) rfl rfl rfl
      · replace hd := (bneFE hd)
        replace h := h.2 hd
        refine gR 3 rfl ?_
        refine go_sub (F' := (mkF 184 0 [(3, .row 4 (kidsV r0_3)), (4, .row 5 (List.map GTarget.w r0_4)), (5, .int .i64 ((i2v1 : Nat) : Int)), (8, .ptr 0 0)])) (H' := ⟨1, [(0, .var 32 (treeC t2_6))]⟩) [1] [] rfl hK ⟨⟨_, rfl, .rfl⟩, ⟨_, rfl, .rfl⟩, ⟨_, rfl, .rfl⟩, ⟨_, rfl, .rfl⟩, trivial⟩ ⟨⟨_, rfl, ⟨rfl, SubL.rfl⟩⟩, trivial⟩ rfl ?_
        refine gR 6 rfl ?_
        refine go_loop m ?_
        exact gJ (h K _ _ hK (by omega) (by omega)) [0] [] rfl hK ⟨⟨_, rfl, .rfl⟩, ⟨_, rfl, .rfl⟩, ⟨_, rfl, .rfl⟩, ⟨_, rfl, .rfl⟩, ⟨_, rfl, .rfl⟩, trivial⟩ ⟨⟨_, rfl, ⟨rfl, SubL.rfl⟩⟩, trivial⟩ rfl
theorem rL2_semvcslaw06_LinkFirst (m : Nat) (r0_3 : (List Tree)) (r0_4 : (List GTarget)) (t2_6 : Tree) (i3v1 : Nat) (i3v2 : Nat) (r0 : Bool) (h : ∃ (x3_1 : GTarget), r0_4[i3v2]? = some x3_1 ∧ ((((i3v1 : Nat) : Int) < x3_1.Def) → ∃ (x3_2 : GTarget), r0_4[i3v2]? = some x3_2 ∧ ∃ (k3_3 : Nat), x3_2.Module = ((k3_3 : Nat) : Int) ∧ ∃ (t3_4 : Tree), r0_3[k3_3]? = some t3_4 ∧ ∃ (t3_5 : Tree), t3_4.kids[i3v1]? = some t3_5 ∧ ((t3_5.text = t2_6.text) → false = r0) ∧ ((t3_5.text ≠ t2_6.text) → i3v1 + 1 ≤ 9223372036854775807 ∧ L2_semvcslaw06_LinkFirst m r0_3 r0_4 t2_6 (i3v1 + 1) i3v2 r0)) ∧ ((¬ ((i3v1 : Nat) : Int) < x3_1.Def) → i3v2 + 1 ≤ 9223372036854775807 ∧ L0_semvcslaw06_LinkFirst m r0_3 r0_4 (i3v2 + 1) r0)) : L2_semvcslaw06_LinkFirst (m + 1) r0_3 r0_4 t2_6 i3v1 i3v2 r0 := by
  intro K j1 j2 hK hj1 hj2
  obtain ⟨j1, rfl⟩ : ∃ j, j1 = j + 1 := ⟨j1 - 1, by omega⟩
  obtain ⟨j2, rfl⟩ : ∃ j, j2 = j + 1 := ⟨j2 - 1, by omega⟩
  refine gR 6 rfl ?_
  obtain ⟨x3_1, hxx3_1, h⟩ := h
  refine gY (yIR' (mapget (f := GTarget.w) hxx3_1) tabS_ok rfl rfl rfl rfl) rfl rfl ?_
  refine gR 5 rfl ?_
  refine gB 164 rfl rfl rfl (fun hd => ?_) (fun hd => ?_)
  · replace hd := (of_decide_eq_true hd)
    replace h := h.1 hd
    refine gR 6 rfl ?_
    refine gDs [0] 15 16 rfl (by kernel_rfl) (by kernel_rfl) ?_
    refine gDr [(0, 2), (1, 2), (2, 2)] (by kernel_rfl) rfl rfl ?_
    obtain ⟨x3_2, hxx3_2, h⟩ := h
    refine gYd 3 rfl (by kernel_rfl) (yIR' (mapget (f := GTarget.w) hxx3_2) tabS_ok rfl rfl rfl rfl) rfl rfl ?_
    refine gDr [(4, 2), (5, 2)] (by kernel_rfl) rfl rfl ?_
    obtain ⟨k3_3, ek3_3, h⟩ := h
    refine gV 172 (.int .i64 ((k3_3 : Nat) : Int)) rfl (lenI' ek3_3) rfl ?_
    obtain ⟨t3_4, hxt3_4, h⟩ := h
    refine gYd 6 rfl (by kernel_rfl) (yIR' (kidsV_get hxt3_4) tabS_ok rfl rfl rfl rfl) rfl rfl ?_
    refine gDr [(7, 2), (8, 2), (9, 2)] (by kernel_rfl) rfl rfl ?_
    obtain ⟨t3_5, hxt3_5, h⟩ := h
    refine gYd 10 rfl (by kernel_rfl) (yIR' (kidsV_get hxt3_5) tabS_ok rfl rfl rfl rfl) rfl rfl ?_
    refine gDr [(11, 2), (12, 2), (13, 0), (14, 0), (15, 1)] (by kernel_rfl) rfl rfl ?_
    refine gDe (by kernel_rfl) ?_
    refine gR 1 rfl ?_
    refine gB 182 rfl rfl rfl (fun hd => ?_) (fun hd => ?_)
    · replace hd := (eq_of_beq hd)
      replace h := h.1 hd
      refine gR 9 rfl ?_
      refine go_xloopR ?_
      refine gR 3 rfl ?_
      refine go_xloopR ?_
      refine gR 2 rfl ?_
      subst h
      refine go_sub (F' := (mkF 184 0 [(2, .bool false)])) (H' := ⟨0, []⟩) [] [] rfl hK ⟨⟨_, rfl, .rfl⟩, trivial⟩ trivial rfl ?_
      exact go_end tabS_ok (rs := [.tmp 2]) rfl rfl rfl
    · replace hd := (ne_of_beq_false hd)
      replace h := h.2 hd
      refine gR 6 rfl ?_
      obtain ⟨hb, h⟩ := h
      refine gR 1 rfl ?_
      refine gV 166 (.int .i64 ((i3v1 + 1 : Nat) : Int)) rfl (wrapI (by omega) (by omega)) rfl ?_
      refine gR 2 rfl ?_
      refine go_xloop ?_
      exact gJ (h K _ _ hK (by omega) (by omega)) [0] [] rfl hK ⟨⟨_, rfl, .rfl⟩, ⟨_, rfl, .rfl⟩, ⟨_, rfl, .rfl⟩, ⟨_, rfl, .rfl⟩, ⟨_, rfl, .rfl⟩, trivial⟩ ⟨⟨_, rfl, ⟨rfl, SubL.rfl⟩⟩, trivial⟩ rfl
  · replace hd := (of_decide_eq_false hd)
    replace h := h.2 hd
    refine gR 3 rfl ?_
    refine go_xloopE ?_
    refine gR 5 rfl ?_
    obtain ⟨hb, h⟩ := h
    refine gR 1 rfl ?_
    refine gV 24 (.int .i64 ((i3v2 + 1 : Nat) : Int)) rfl (wrapI (by omega) (by omega)) rfl ?_
    refine gR 2 rfl ?_
    refine go_xloop ?_
    exact gJ (h K _ hK (by omega)) [] [] rfl hK ⟨⟨_, rfl, .rfl⟩, ⟨_, rfl, .rfl⟩, ⟨_, rfl, .rfl⟩, trivial⟩ trivial rfl
theorem rS_semvcslaw06_awake (m : Nat) (r0 : Bool) (h : ∃ (t0_1 : Tree), ∃ (n0_2 : Int), ∃ (n0_3 : Int), S_syntax_Parse [109, 111, 100, 117, 108, 101, 32, 65, 32, 100, 101, 102, 32, 102, 40, 41, 58, 32, 73, 110, 116, 32, 61, 32, 66, 46, 103, 40, 102, 40, 41, 41] t0_1 n0_2 n0_3 ∧ ∃ (t0_4 : Tree), ∃ (n0_5 : Int), ∃ (n0_6 : Int), S_syntax_Parse [109, 111, 100, 117, 108, 101, 32, 66, 32, 100, 101, 102, 32, 103, 40, 120, 58, 32, 73, 110, 116, 41, 58, 32, 73, 110, 116, 32, 61, 32, 102, 40, 41] t0_4 n0_5 n0_6 ∧ ∃ (r0_7 : (List GTarget)), S_link_Targets [t0_1, t0_4] r0_7 ∧ ((n0_3 = 0) → ((n0_6 = 0) → ((((r0_7.length : Nat) : Int) = 3) → ∃ (x0_8 : GTarget), r0_7[0]? = some x0_8 ∧ ((x0_8.Free = false) → ∃ (x0_9 : GTarget), r0_7[0]? = some x0_9 ∧ ((x0_9.Module = 1) → ∃ (x0_10 : GTarget), r0_7[2]? = some x0_10 ∧ ((x0_10.Free = true) → ∃ (r0_11 : (List GPlace)), S_link_Uses [t0_1, t0_4] 0 0 r0_11 ∧ (((r0_11.length : Nat) : Int) == 1) = r0) ∧ ((x0_10.Free = false) → false = r0)) ∧ ((x0_9.Module ≠ 1) → false = r0)) ∧ ((x0_8.Free = true) → false = r0)) ∧ ((((r0_7.length : Nat) : Int) ≠ 3) → false = r0)) ∧ ((n0_6 ≠ 0) → false = r0)) ∧ ((n0_3 ≠ 0) → false = r0)) : S_semvcslaw06_awake r0 := by
  refine ⟨rfl, rfl, ?_⟩
  refine sum_enter 61 [] Tryz.func12 rfl rfl rfl (pv_of rfl) fun K hK => ?_
  refine gR 7 rfl ?_
  obtain ⟨t0_1, n0_2, n0_3, hs7, h⟩ := h
  refine gC0 hs7 (by kernel_rfl) rfl rfl .rfl rfl ?_
  refine gR 12 rfl ?_
  obtain ⟨t0_4, n0_5, n0_6, hs8, h⟩ := h
  refine gC0 hs8 (by kernel_rfl) rfl rfl .rfl rfl ?_
  refine gR 15 rfl ?_
  refine gHR 2 (kidsV [t0_1, t0_4]) rfl (litK [t0_1, t0_4]) rfl ?_
  refine gFR 2 rfl (pureK _) rfl rfl ?_
  obtain ⟨r0_7, hs9, h⟩ := h
  refine gC0 hs9 (by kernel_rfl) rfl rfl .rfl rfl ?_
  refine gR 8 rfl ?_
  refine gB 24 rfl rfl rfl (fun hd => ?_) (fun hd => ?_)
  · refine gT 23 rfl hd rfl ?_
    replace hd := (eq_of_beq hd)
    replace h := h.1 hd
    refine gR 4 rfl ?_
    refine gB 28 rfl rfl rfl (fun hd => ?_) (fun hd => ?_)
    · refine gT 27 rfl hd rfl ?_
      replace hd := (eq_of_beq hd)
      replace h := h.1 hd
      refine gR 2 rfl ?_
      refine gV 30 (.int .i64 ((r0_7.length : Nat) : Int)) rfl (lenI (lenM GTarget.w _)) rfl ?_
      refine gLB 29 rfl (lenM GTarget.w _) fun hl10 => ?_
      refine gR 3 rfl ?_
      refine gB 33 rfl rfl rfl (fun hd => ?_) (fun hd => ?_)
      · refine gT 32 rfl hd rfl ?_
        replace hd := (eq_of_beq hd)
        replace h := h.1 hd
        refine gR 1 rfl ?_
        obtain ⟨x0_8, hxx0_8, h⟩ := h
        refine gY (yIR' (mapget (f := GTarget.w) hxx0_8) tabS_ok rfl rfl rfl rfl) rfl rfl ?_
        refine gR 5 rfl ?_
        refine gB 40 rfl rfl rfl (fun hd => ?_) (fun hd => ?_)
        · refine gT 39 rfl hd rfl ?_
          replace hd := (not_t hd)
          replace h := h.1 hd
          refine gR 1 rfl ?_
          obtain ⟨x0_9, hxx0_9, h⟩ := h
          refine gY (yIR' (mapget (f := GTarget.w) hxx0_9) tabS_ok rfl rfl rfl rfl) rfl rfl ?_
          refine gR 5 rfl ?_
          refine gB 47 rfl rfl rfl (fun hd => ?_) (fun hd => ?_)
          · refine gT 46 rfl hd rfl ?_
            replace hd := (eq_of_beq hd)
            replace h := h.1 hd
            refine gR 1 rfl ?_
            obtain ⟨x0_10, hxx0_10, h⟩ := h
            refine gY (yIR' (mapget (f := GTarget.w) hxx0_10) tabS_ok rfl rfl rfl rfl) rfl rfl ?_
            refine gR 4 rfl ?_
            refine gB 53 rfl rfl rfl (fun hd => ?_) (fun hd => ?_)
            · refine gT 52 rfl hd rfl ?_
              skip
              replace h := h.1 hd
              refine gR 3 rfl ?_
              refine gHR 3 (kidsV [t0_1, t0_4]) rfl (litK [t0_1, t0_4]) rfl ?_
              refine gFR 3 rfl (pureK _) rfl rfl ?_
              obtain ⟨r0_11, hs11, h⟩ := h
              refine gC0 hs11 (by kernel_rfl) rfl rfl .rfl rfl ?_
              refine gR 1 rfl ?_
              refine gV 58 (.int .i64 ((r0_11.length : Nat) : Int)) rfl (lenI (lenM GPlace.w _)) rfl ?_
              refine gLB 57 rfl (lenM GPlace.w _) fun hl12 => ?_
              refine gR 6 rfl ?_
              subst h
              refine go_sub (F' := (mkF 61 0 [(0, .bool (((r0_11.length : Nat) : Int) == 1))])) (H' := ⟨0, []⟩) [] [] rfl hK ⟨⟨_, rfl, .rfl⟩, trivial⟩ trivial rfl ?_
              exact go_end tabS_ok (rs := [.tmp 0]) rfl rfl rfl
            · refine gF 52 rfl hd rfl ?_
              skip
              replace h := h.2 hd
              refine gR 11 rfl ?_
              subst h
              refine go_sub (F' := (mkF 61 0 [(0, .bool false)])) (H' := ⟨0, []⟩) [] [] rfl hK ⟨⟨_, rfl, .rfl⟩, trivial⟩ trivial rfl ?_
              exact go_end tabS_ok (rs := [.tmp 0]) rfl rfl rfl
          · refine gF 46 rfl hd rfl ?_
            replace hd := (ne_of_beq_false hd)
            replace h := h.2 hd
            refine gR 17 rfl ?_
            subst h
            refine go_sub (F' := (mkF 61 0 [(0, .bool false)])) (H' := ⟨0, []⟩) [] [] rfl hK ⟨⟨_, rfl, .rfl⟩, trivial⟩ trivial rfl ?_
            exact go_end tabS_ok (rs := [.tmp 0]) rfl rfl rfl
        · refine gF 39 rfl hd rfl ?_
          replace hd := (not_f hd)
          replace h := h.2 hd
          refine gR 24 rfl ?_
          subst h
          refine go_sub (F' := (mkF 61 0 [(0, .bool false)])) (H' := ⟨0, []⟩) [] [] rfl hK ⟨⟨_, rfl, .rfl⟩, trivial⟩ trivial rfl ?_
          exact go_end tabS_ok (rs := [.tmp 0]) rfl rfl rfl
      · refine gF 32 rfl hd rfl ?_
        replace hd := (ne_of_beq_false hd)
        replace h := h.2 hd
        refine gR 31 rfl ?_
        subst h
        refine go_sub (F' := (mkF 61 0 [(0, .bool false)])) (H' := ⟨0, []⟩) [] [] rfl hK ⟨⟨_, rfl, .rfl⟩, trivial⟩ trivial rfl ?_
        exact go_end tabS_ok (rs := [.tmp 0]) rfl rfl rfl
    · refine gF 27 rfl hd rfl ?_
      replace hd := (ne_of_beq_false hd)
      replace h := h.2 hd
      refine gR 36 rfl ?_
      subst h
      refine go_sub (F' := (mkF 61 0 [(0, .bool false)])) (H' := ⟨0, []⟩) [] [] rfl hK ⟨⟨_, rfl, .rfl⟩, trivial⟩ trivial rfl ?_
      exact go_end tabS_ok (rs := [.tmp 0]) rfl rfl rfl
  · refine gF 23 rfl hd rfl ?_
    replace hd := (ne_of_beq_false hd)
    replace h := h.2 hd
    refine gR 40 rfl ?_
    subst h
    refine go_sub (F' := (mkF 61 0 [(0, .bool false)])) (H' := ⟨0, []⟩) [] [] rfl hK ⟨⟨_, rfl, .rfl⟩, trivial⟩ trivial rfl ?_
    exact go_end tabS_ok (rs := [.tmp 0]) rfl rfl rfl
end Go.Proofs.YteglbnopdedadaaGreat
namespace Go.Proofs.YteglbnopdedadaaGreat
open Go.RowKit
def keepE' (R : List Nat) (l : List (Nat × Ob)) : List (Nat × Ob) := l.filter fun p => memN p.1 R
def ung : Ob → Ob
  | .free => .gone
  | o => o
def dropE' (nx : Nat) (R : List Nat) (l : List (Nat × Ob)) : List (Nat × Ob) := (l.filter fun p => !memN p.1 R && Nat.blt p.1 nx).map fun p => (p.1, ung p.2)
theorem keepE_eq {α : Type} {R : List Nat} : ∀ (l : List (Nat × Ob)) (c : List (Nat × Ob) → α), keepE R l c = c (keepE' R l)
  | [], c => rfl
  | (i, o) :: r, c => by
    simp only [keepE]
    cases h : memN i R
    · simp only; rw [keepE_eq r]; simp [keepE', h]
    · simp only; rw [keepE_eq r]; simp [keepE', h]
theorem dropE_eq {α : Type} {nx : Nat} {R : List Nat} : ∀ (l : List (Nat × Ob)) (c : List (Nat × Ob) → α), dropE nx R l c = c (dropE' nx R l)
  | [], c => rfl
  | (i, o) :: r, c => by
    simp only [dropE]
    cases h : (!memN i R && Nat.blt i nx)
    · simp only; rw [dropE_eq r]; simp only [dropE', List.filter_cons, h]; rfl
    · cases o <;> (simp only; rw [dropE_eq r]; simp only [dropE', List.filter_cons, h]; rfl)
theorem look_keep {R : List Nat} {i : Nat} : ∀ {l : List (Nat × Ob)}, lookE (keepE' R l) i = lookE l i ∨ (memN i R = false ∧ lookE (keepE' R l) i = .gone)
  | [] => .inl rfl
  | (j, o) :: r => by
    by_cases hj : j = i
    · subst hj
      cases h : memN j R
      · right
        refine ⟨rfl, ?_⟩
        have ih := look_keep (R := R) (i := j) (l := r)
        simp only [keepE', List.filter_cons, h] at ih ⊢
        simp only [Bool.false_eq_true, if_false]
        clear ih
        have key : ∀ (l : List (Nat × Ob)), lookE (l.filter fun p => memN p.1 R) j = .gone := by
          intro l
          induction l with
          | nil => rfl
          | cons q t ih =>
            obtain ⟨k, o'⟩ := q
            simp only [List.filter_cons]
            split
            · rename_i hk
              have : k ≠ j := fun e => by subst e; simp [h] at hk
              simp only [lookE, nbF this]; exact ih
            · exact ih
        exact key r
      · left
        simp only [keepE', List.filter_cons, h, if_true, lookE, nbT]
    · have ih := look_keep (R := R) (i := i) (l := r)
      simp only [keepE', List.filter_cons]
      split
      · simp only [lookE, nbF hj]; exact ih
      · simp only [lookE, nbF hj]; exact ih
theorem look_keep_out {R : List Nat} {i : Nat} (h : memN i R = false) (l : List (Nat × Ob)) : lookE (keepE' R l) i = .gone := by
  induction l with
  | nil => rfl
  | cons q t ih =>
    obtain ⟨k, o'⟩ := q
    simp only [keepE', List.filter_cons]
    split
    · rename_i hk
      have : k ≠ i := fun e => by subst e; simp [h] at hk
      simp only [lookE, nbF this]; exact ih
    · exact ih
theorem look_drop {nx : Nat} {R : List Nat} {i : Nat} (l : List (Nat × Ob)) : lookE (dropE' nx R l) i = if (!memN i R && Nat.blt i nx) = true then ung (lookE l i) else .gone := by
  induction l with
  | nil => simp [dropE', lookE, ung]
  | cons q t ih =>
    obtain ⟨k, o⟩ := q
    by_cases hk : k = i
    · subst hk
      cases h : (!memN k R && Nat.blt k nx)
      · rw [h] at ih
        simp only [dropE', List.filter_cons, h, Bool.false_eq_true, if_false] at ih ⊢
        exact ih
      · simp only [dropE', List.filter_cons, h, if_true, List.map_cons, lookE, nbT]
    · have e : lookE ((k, o) :: t) i = lookE t i := by simp only [lookE, nbF hk]
      rw [e, ← ih]
      simp only [dropE', List.filter_cons]
      split
      · simp only [List.map_cons, lookE, nbF hk]
      · rfl
section
variable {P : Program} {T : Tab} {K : Ctx} {Q : Exit → Act → World → Prop} {s : List EI} {n : Nat} {F : Fm} {H : Hp}
theorem frz1_ok (lo : Nat) (H : Hp) (v : V) : ∃ v' H', (∀ (α : Type) (c : V → Hp → α), frz1 lo H v c = c v' H') ∧ H'.nx = H.nx ∧ (∀ K S w ρ x, HRel S w ρ H.get → Inv K S w ρ H.get → VRel S w ρ v x → ∃ S', HRel S' w ρ H'.get ∧ Inv K S' w ρ H'.get ∧ Up S S' w w ρ ρ ∧ VRel S' w ρ v' x) := by
  have triv : ∃ v' H', (∀ (α : Type) (c : V → Hp → α), c v H = c v' H') ∧ H'.nx = H.nx ∧ (∀ K S w ρ x, HRel S w ρ H.get → Inv K S w ρ H.get → VRel S w ρ v x → ∃ S', HRel S' w ρ H'.get ∧ Inv K S' w ρ H'.get ∧ Up S S' w w ρ ρ ∧ VRel S' w ρ v' x) := ⟨v, H, fun _ _ => rfl, rfl, fun K S w ρ x h1 h2 h3 => ⟨S, h1, h2, Up.refl, h3⟩⟩
  cases v with
  | sl id =>
    simp only [frz1]
    split
    · split
      · rename_i e sz els ho
        split
        · rename_i hpu
          refine ⟨.row sz els, ⟨H.nx, delE' id H.es⟩, fun α c => by rw [delE_eq], rfl, fun K S w ρ x hr hi hx => ?_⟩
          have hg : (⟨H.nx, delE' id H.es⟩ : Hp).get = updH H.get id .gone := by
            funext i
            unfold Hp.get
            by_cases hii : i = id
            · subst hii
              rw [updH_same]
              simp only []
              have hlt : Nat.blt i H.nx = true := by
                unfold Hp.get at ho
                split at ho
                · assumption
                · cases ho
              rw [hlt]
              simp only [look_del, if_true]
            · rw [updH_ne _ _ hii]
              simp only [look_del, if_neg hii]
          refine ⟨_, by rw [hg]; exact (freeze_up hr).1, by rw [hg]; exact hi.frz hr id, (freeze_up hr).2, freeze_row hr ho hpu hx⟩
        · exact triv
      · exact triv
    · exact triv
  | _ => exact triv
theorem frzL_ok (lo : Nat) : ∀ (vs : List V) (H : Hp), ∃ vs' H', (∀ (α : Type) (c : List V → Hp → α), frzL lo H vs c = c vs' H') ∧ H'.nx = H.nx ∧ (∀ K S w ρ xs, HRel S w ρ H.get → Inv K S w ρ H.get → LRel S w ρ vs xs → ∃ S', HRel S' w ρ H'.get ∧ Inv K S' w ρ H'.get ∧ Up S S' w w ρ ρ ∧ LRel S' w ρ vs' xs)
  | [], H => ⟨[], H, fun _ _ => rfl, rfl, fun K S w ρ x h1 h2 h3 => ⟨S, h1, h2, Up.refl, h3⟩⟩
  | v :: r, H => by
    obtain ⟨v', H1, e1, n1, k1⟩ := frz1_ok lo H v
    obtain ⟨r', H2, e2, n2, k2⟩ := frzL_ok lo r H1
    refine ⟨v' :: r', H2, fun α c => by simp only [frzL, e1, e2], n2.trans n1, fun K S w ρ xs hr hi hx => ?_⟩
    simp only [LRel] at hx
    obtain ⟨x, ys, rfl, h1, h2⟩ := hx
    obtain ⟨S1, a1, a2, a3, a4⟩ := k1 K S w ρ x hr hi h1
    obtain ⟨S2, b1, b2, b3, b4⟩ := k2 K S1 w ρ ys a1 a2 (h2.up a3)
    exact ⟨S2, b1, b2, ⟨fun b hb => b3.s b (a3.s b hb), fun _ _ _ => rfl, fun _ _ h => h⟩, x, ys, rfl, a4.up b3, b4⟩
theorem frz2_ok (lo : Nat) (H : Hp) (v : V) : ∃ v' H', (∀ (α : Type) (c : V → Hp → α), frz2 lo H v c = c v' H') ∧ H'.nx = H.nx ∧ (∀ K S w ρ x, HRel S w ρ H.get → Inv K S w ρ H.get → VRel S w ρ v x → ∃ S', HRel S' w ρ H'.get ∧ Inv K S' w ρ H'.get ∧ Up S S' w w ρ ρ ∧ VRel S' w ρ v' x) := by
  have h0 := frz1_ok lo H v
  cases v
  case agg cs =>
    obtain ⟨vs', H', e, hn, k⟩ := frzL_ok lo cs H
    refine ⟨.agg vs', H', fun α c => by simp only [frz2, e], hn, fun K S w ρ x hr hi hx => ?_⟩
    simp only [VRel] at hx
    obtain ⟨xs, rfl, h1⟩ := hx
    obtain ⟨S', a1, a2, a3, a4⟩ := k K S w ρ xs hr hi h1
    exact ⟨S', a1, a2, a3, by simp only [VRel]; exact ⟨xs, rfl, a4⟩⟩
  all_goals exact h0
theorem frzM_ok (lo : Nat) : ∀ (vs : List V) (H : Hp), ∃ vs' H', (∀ (α : Type) (c : List V → Hp → α), frzM lo H vs c = c vs' H') ∧ H'.nx = H.nx ∧ (∀ K S w ρ xs, HRel S w ρ H.get → Inv K S w ρ H.get → LRel S w ρ vs xs → ∃ S', HRel S' w ρ H'.get ∧ Inv K S' w ρ H'.get ∧ Up S S' w w ρ ρ ∧ LRel S' w ρ vs' xs)
  | [], H => ⟨[], H, fun _ _ => rfl, rfl, fun K S w ρ x h1 h2 h3 => ⟨S, h1, h2, Up.refl, h3⟩⟩
  | v :: r, H => by
    obtain ⟨v', H1, e1, n1, k1⟩ := frz2_ok lo H v
    obtain ⟨r', H2, e2, n2, k2⟩ := frzM_ok lo r H1
    refine ⟨v' :: r', H2, fun α c => by simp only [frzM, e1, e2], n2.trans n1, fun K S w ρ xs hr hi hx => ?_⟩
    simp only [LRel] at hx
    obtain ⟨x, ys, rfl, h1, h2⟩ := hx
    obtain ⟨S1, a1, a2, a3, a4⟩ := k1 K S w ρ x hr hi h1
    obtain ⟨S2, b1, b2, b3, b4⟩ := k2 K S1 w ρ ys a1 a2 (h2.up a3)
    exact ⟨S2, b1, b2, ⟨fun b hb => b3.s b (a3.s b hb), fun _ _ _ => rfl, fun _ _ h => h⟩, x, ys, rfl, a4.up b3, b4⟩
variable {all : Array Oper} {rest : List Oper} {o : Oper} {u : V} {H' : Hp}
theorem go_opX {ok : Bool} (hw : wantA F all o.guard = some true) (hx : ExecR P K o [] ok n F H u H') (k : Go P K Q (.ops all rest) s n (F.seto o.dst (some u)) H') : Go P K Q (.ops all (o :: rest)) s n F H := fun S w ρ a hr hi hF => by
  show wpList P all (stkE P Q s) (o :: rest) a w
  unfold wpList
  rw [if_pos (wantA_ok hF hw)]
  exact .inl (hx S w ρ a hr hi hF _ _ fun x S' w' ρ' hr' hi' hu _ _ hv => k S' w' ρ' _ hr' hi' (frel_val (hF.up hu) o.dst hv))
variable {L : List Nat} {m left i : Nat} {listed : Array Bool}
theorem go_d1X (hrd : Region.ready .any all listed = [i]) (hi : all[i]? = some o) (hw : wantA F all o.guard = some true) (hx : ExecR P K o L ((listed.setIfInBounds i true).getD m false) n F H u H') (k : Go P K Q (.drw all L m left (listed.setIfInBounds i true)) s n (F.seto o.dst (some u)) H') : Go P K Q (.drw all L m (left + 1) listed) s n F H := fun S w ρ a hr hiv hF hs => by
  refine wpB_one (S := S) hrd ?_
  unfold wpOp
  simp only [hi]
  rw [if_pos (wantA_ok hF hw)]
  exact .inl (hx S w ρ a hr hiv hF _ _ fun x S' w' ρ' hr' hi' hu hA hL hv => wpB_on hu hA hL (k S' w' ρ' _ hr' hi' (frel_val (hF.up hu) o.dst hv) hs))
def RsOk (P : Program) (K : Ctx) (Q : Exit → Act → World → Prop) (n : Nat) : Rs → Prop
  | .ok e F H => ∀ S w ρ a, HRel S w ρ H.get → Inv K S w ρ H.get → FRel S w ρ a n F → Q (match e with | true => .ret | false => .normal) a w
  | .pt p s F H => Go P K Q p s n F H
  | .er _ _ => False
variable {ih : EP → List EI → Fm → Hp → Rs}
theorem ret_inv {S : Nat → Prop} {w : World} {ρ : Nat → Option Value} {x : Value} : ∀ {rs : List V}, VRel S w ρ (retA rs) x → ∃ ys, LRel S w ρ rs ys ∧ x = retV ys
  | [], hvx => by simp only [retA, VRel] at hvx; obtain ⟨ys, rfl, h1⟩ := hvx; exact ⟨ys, h1, by simp only [LRel] at h1; subst h1; rfl⟩
  | [v], hvx => ⟨[x], ⟨x, [], rfl, hvx, rfl⟩, rfl⟩
  | v :: u :: r, hvx => by
    simp only [retA, VRel] at hvx; obtain ⟨ys, rfl, h1⟩ := hvx
    refine ⟨ys, h1, ?_⟩
    simp only [LRel] at h1
    obtain ⟨_, _, rfl, _, _, _, rfl, _⟩ := h1
    rfl
theorem callX_ok (hT : TabOk P T) (IH : ∀ p s F H K Q n, RsOk P K Q n (ih p s F H) → Go P K Q p s n F H) {X : Rs → Prop} (hX : ∀ n m, ¬ X (.er n m)) {keep ok : Bool} {vs : List V} {fid : FuncId} {fn : Func} {b : Code} {c : V → Hp → Rs} (hf : P.funcs[fid]? = some fn) (hb : fn.body = some b) (hl : Nat.ble vs.length fn.ntmps = true)
    (h : X (callX T ih keep vs fn b H L ok c)) : ∃ u H' L', (L' = L ∨ ok = true) ∧ CallR P K fid vs H L' (fun u' H'' => u' = u ∧ H'' = H') ∧ X (c u H') := by
  unfold callX at h
  simp only [] at h
  generalize hR : reachN H 40 (idsVs vs []) [] = R at h
  split at h
  · rename_i hok
    rw [keepE_eq] at h
    split at h
    · rename_i e F1 H1 hrun
      split at h
      · rename_i rs hres
        split at h
        · rename_i hnx
          have hnx' : H.nx ≤ H1.nx := Nat.le_of_ble_eq_true hnx
          -- the objects that the call gets
          have hin : ∀ i, (⟨H.nx, keepE' R H.es⟩ : Hp).get i = H.get i ∨ (⟨H.nx, keepE' R H.es⟩ : Hp).get i = .gone := fun i => by
            unfold Hp.get
            simp only []
            split
            · rcases look_keep (R := R) (i := i) (l := H.es) with e | ⟨_, e⟩
              · exact .inl e
              · exact .inr e
            · exact .inl rfl
          have hout : ∀ i, memN i R = false → Nat.blt i H.nx = true → (⟨H.nx, keepE' R H.es⟩ : Hp).get i = .gone := fun i hi hlt => by
            unfold Hp.get
            simp only [hlt]
            exact look_keep_out hi _
          -- the objects behind the call
          have key : ∀ (H2 : Hp) (es3 : List (Nat × Ob)), H2.nx = H1.nx → (∀ i, lookE es3 i = lookE H2.es i ∨ lookE es3 i = .gone) → ∀ i, ((⟨H2.nx, es3 ++ dropE' H.nx R H.es⟩ : Hp).get i = H2.get i ∨ (⟨H2.nx, es3 ++ dropE' H.nx R H.es⟩ : Hp).get i = .gone) ∨ ((⟨H2.nx, es3 ++ dropE' H.nx R H.es⟩ : Hp).get i = H.get i ∧ (⟨H.nx, keepE' R H.es⟩ : Hp).get i = .gone ∧ H.get i ≠ .free) := fun H2 es3 hn h3 i => by
            by_cases hlt2 : Nat.blt i H2.nx = true
            · have e0 : (⟨H2.nx, es3 ++ dropE' H.nx R H.es⟩ : Hp).get i = lookE (es3 ++ dropE' H.nx R H.es) i := by unfold Hp.get; simp only [hlt2]
              have e2 : H2.get i = lookE H2.es i := by unfold Hp.get; rw [hlt2]
              rw [e0, e2]
              rcases look_app es3 (dropE' H.nx R H.es) i with e | ⟨e', e⟩
              · rw [e]
                rcases h3 i with h3 | h3
                · exact .inl (.inl h3)
                · exact .inl (.inr h3)
              · rw [e]
                rw [look_drop]
                cases hm : (!memN i R && Nat.blt i H.nx)
                · exact .inl (.inr (by simp))
                · have hm' := hm
                  simp only [Bool.and_eq_true, Bool.not_eq_true'] at hm'
                  have eH : H.get i = lookE H.es i := by unfold Hp.get; rw [hm'.2]
                  rw [if_pos rfl]
                  cases hf : lookE H.es i
                  case free => exact .inl (.inr rfl)
                  all_goals exact .inr ⟨by rw [eH, hf]; rfl, hout i hm'.1 hm'.2, by rw [eH, hf]; simp⟩
            · have e0 : (⟨H2.nx, es3 ++ dropE' H.nx R H.es⟩ : Hp).get i = .free := by
                unfold Hp.get; simp only [Bool.not_eq_true] at hlt2; simp only [hlt2]
              have e2 : H2.get i = .free := by unfold Hp.get; simp only [Bool.not_eq_true] at hlt2; rw [hlt2]
              exact .inl (.inl (by rw [e0, e2]))
          -- what holds behind the call
          have fin : ∀ (H2 : Hp) (es3 : List (Nat × Ob)) (rs2 : List V), H2.nx = H1.nx → (∀ i, lookE es3 i = lookE H2.es i ∨ lookE es3 i = .gone) →
              (∀ K S w ρ xs, HRel S w ρ H1.get → Inv K S w ρ H1.get → LRel S w ρ rs xs → ∃ S', HRel S' w ρ H2.get ∧ Inv K S' w ρ H2.get ∧ Up S S' w w ρ ρ ∧ LRel S' w ρ rs2 xs) →
              ∃ L', (L' = L ∨ ok = true) ∧ CallR P K fid vs H L' (fun u' H'' => u' = retA rs2 ∧ H'' = ⟨H2.nx, es3 ++ dropE' H.nx R H.es⟩) := fun H2 es3 rs2 hn h3 hfz => by
            have main : ∀ L', (∀ (S : Nat → Prop) (w : World) (ρ : Nat → Option Value), HRel S w ρ H.get → L' = [] ∨ (liveL H.get L' = true ∧ ∀ id, id ∈ L' → (⟨H.nx, keepE' R H.es⟩ : Hp).get id = .gone)) → CallR P K fid vs H L' (fun u' H'' => u' = retA rs2 ∧ H'' = ⟨H2.nx, es3 ++ dropE' H.nx R H.es⟩) := fun L' hL' S w ρ xs hr hi hx => by
              have hr1 := hr.drop (h' := (⟨H.nx, keepE' R H.es⟩ : Hp).get) hin
              have hi1 : Inv ⟨w, S, fun b => ∃ id, own ρ id ((⟨H.nx, keepE' R H.es⟩ : Hp).get id) b, ρ⟩ S w ρ (⟨H.nx, keepE' R H.es⟩ : Hp).get := ⟨ChgP.refl _ _, fun _ h => h, fun _ h => .inl h, fun id b hb => .inl ⟨id, hb⟩, fun _ _ h => h⟩
              refine enter_go hf hb hl hr1 hi1 hx (IH _ _ _ _ _ _ _ ?_)
              rw [hrun]
              intro S' w' ρ' a' hr' hi' hF'
              obtain ⟨rl, hrl⟩ : ∃ l : List ResultVar, fn.results = l.toArray := ⟨fn.results.toList, by simp⟩
              rw [hrl] at hres
              refine ret_go hT (rs := rl) (by cases e <;> simp) hrl hr' hF' (by simpa using hres) fun x hvx => ?_
              have hLR := ret_inv hvx
              obtain ⟨ys, hys, rfl⟩ := hLR
              obtain ⟨S2, a1, a2, a3, a4⟩ := hfz _ S' w' ρ' ys hr' hi' hys
              obtain ⟨m1, m2, m3, m4⟩ := merge_ok (h1 := (⟨H.nx, keepE' R H.es⟩ : Hp).get) (h2 := (⟨H2.nx, es3 ++ dropE' H.nx R H.es⟩ : Hp).get) hr hi hin a1 a2 (key H2 es3 hn h3)
              refine ⟨_, S2, ρ', _, _, rfl, ⟨rfl, rfl⟩, m1, m2, m3, retA_ok a4, ?_⟩
              rcases hL' S w ρ hr with rfl | ⟨g1, g2⟩
              · intro id hid; simp at hid
              · exact m4 L' g1 g2
            rcases or_of hok with hok | hok
            · simp only [Bool.and_eq_true] at hok
              refine ⟨L, .inl rfl, main L fun S w ρ hr => .inr ⟨hok.1, fun id hid => ?_⟩⟩
              have hmem := List.all_eq_true.1 hok.2 id hid
              simp only [Bool.not_eq_true'] at hmem
              by_cases hlt : Nat.blt id H.nx = true
              · exact hout id hmem hlt
              · exfalso
                have hfree : H.get id = .free := by unfold Hp.get; simp only [Bool.not_eq_true] at hlt; rw [hlt]
                have hnl : ∀ (l : List Nat), id ∈ l → liveL H.get l = true → False := by
                  intro l
                  induction l with
                  | nil => intro h; simp at h
                  | cons j t ih =>
                    intro hm hl
                    simp only [liveL] at hl
                    rcases List.mem_cons.1 hm with e | e
                    · subst e; rw [hfree] at hl; cases hl
                    · split at hl
                      · exact ih e hl
                      · exact ih e hl
                      · cases hl
                exact hnl L hid hok.1
            · exact ⟨[], .inr hok, main [] fun _ _ _ _ => .inl rfl⟩
          split at h
          · rw [dropE_eq] at h
            obtain ⟨L', g1, g2⟩ := fin H1 H1.es rs rfl (fun i => .inl rfl) (fun K S w ρ xs h1 h2 h3 => ⟨S, h1, h2, Up.refl, h3⟩)
            exact ⟨_, _, L', g1, g2, h⟩
          · obtain ⟨rs2, H2, e1, e2, e3⟩ := frzM_ok H.nx rs H1
            rw [e1] at h
            rw [keepE_eq, dropE_eq] at h
            obtain ⟨L', g1, g2⟩ := fin H2 (keepE' _ H2.es) rs2 e2 (fun i => by
              rcases look_keep (R := reachN H2 60 (idsVs rs2 R) []) (i := i) (l := H2.es) with e | ⟨_, e⟩
              · exact .inl e
              · exact .inr e) e3
            exact ⟨_, _, L', g1, g2, h⟩
        · exact absurd h (hX _ _)
      · exact absurd h (hX _ _)
    · exact absurd h (hX _ _)
    · exact absurd h (hX _ _)
  · exact absurd h (hX _ _)
theorem exec1_ok (hT : TabOk P T) (IH : ∀ p s F H K Q n, RsOk P K Q n (ih p s F H) → Go P K Q p s n F H) {X : Rs → Prop} (hX : ∀ n m, ¬ X (.er n m)) {ok : Bool} {c : Option V → Hp → Rs} (h : X (exec1 T ih F H L ok o c)) : ∃ u H', ExecR P K o L ok n F H u H' ∧ X (c (some u) H') := by
  unfold exec1 at h
  split at h
  · rename_i v hv
    exact ⟨v, H, exec_pure hT hv, h⟩
  · rw [natK_eq] at h
    split at h
    · rename_i v ed hv
      split at h
      · rename_i hc
        rw [Hp.ap_eq] at h
        refine ⟨_, _, exec_eff hT hv hc, ?_⟩
        cases v with
        | none => exact h
        | some v => exact h
      · exact absurd h (hX _ _)
    · split at h
      · rename_i fid args tys hop
        split at h
        · rename_i vs hvs
          split at h
          · rename_i v hn
            obtain ⟨he, hnat⟩ := hT.nat _ _ _ hn
            refine ⟨v, H, exec_call (L' := L) he (by rw [hop]) hvs (fun S w ρ xs hr hi hx => ?_) (.inl rfl), h⟩
            obtain ⟨x, h1, h2⟩ := hnat S w ρ xs hx
            refine h2.mono fun e w' hR => ?_
            obtain ⟨rfl, rfl⟩ := hR
            exact ⟨x, S, ρ, v, H, rfl, ⟨rfl, rfl⟩, hr, hi, Up.refl, h1, ls_refl⟩
          · split at h
            · rename_i fn hfn
              obtain ⟨hf, he⟩ := hT.fn _ _ hfn
              split at h
              · rename_i b hb
                split at h
                · rename_i hl
                  obtain ⟨u, H', L', g1, g2, g3⟩ := callX_ok (K := K) hT IH hX hf hb hl h
                  exact ⟨u, H', exec_call he (by rw [hop]) hvs g2 g1, g3⟩
                · exact absurd h (hX _ _)
              · exact absurd h (hX _ _)
            · exact absurd h (hX _ _)
        · exact absurd h (hX _ _)
      · exact absurd h (hX _ _)
theorem isRow1_ok {l : List Nat} {j : Nat} (h : isRow1 l j = true) : l = [j] := by
  unfold isRow1 at h
  split at h
  · rw [Nat.eq_of_beq_eq_true h]
  · cases h
theorem pendX_ok (hT : TabOk P T) (IH : ∀ p s F H K Q n, RsOk P K Q n (ih p s F H) → Go P K Q p s n F H) {i : Nat} {ps : List (Nat × Operand)} {vs : List (Nat × V)} {v : V} (hp : pendB T all i vs = some (o, ps, v)) : ∀ (left : Nat) (listed : Array Bool) (F : Fm) (H : Hp), RsOk P K Q n (pendX T ih all L m i o ps v s left listed F H) → GoP P K Q all L m left listed s n F H i o ps vs v
  | left, listed, F, H, h => by
    unfold pendX at h
    split at h
    · rename_i hl
      split at h
      · rename_i x hrd
        split at h
        · rename_i hb
          have := Nat.eq_of_beq_eq_true hb
          subst this
          rw [Fm.puto_eq] at h
          exact gop_end hT hp hrd hl (IH _ _ _ _ _ _ _ h)
        · exact h.elim
      · rename_i x y hrd
        cases left with
        | zero => exact h.elim
        | succ left =>
          simp only [natK_eq] at h
          generalize hj : pickJ x y i = j at h
          unfold pickJ at hj
          split at h
          · exact h.elim
          · rename_i hji
            have hne : j ≠ i := Nat.ne_of_beq_eq_false hji
            split at h
            · rename_i oj hoj
              split at h
              · rename_i hc
                simp only [Bool.and_eq_true] at hc
                obtain ⟨⟨⟨hc1, hc2⟩, hc3⟩, hc4⟩ := hc
                split at h
                · rename_i hw
                  obtain ⟨u, H', hx, hk⟩ := exec1_ok (K := K) (n := n) hT IH (X := RsOk P K Q n) (fun _ _ h => h) h
                  rw [Fm.puto_eq] at hk
                  have ih2 := pendX_ok hT IH hp left _ _ _ hk
                  have hpair : (match Region.ready .any all listed with | [x, y] => (Nat.beq x i && Nat.beq y j) || (Nat.beq x j && Nat.beq y i) | _ => false) = true := by
                    rw [hrd]
                    simp only []
                    cases hx1 : Nat.beq x i
                    · rw [hx1] at hj
                      cases hy1 : Nat.beq y i
                      · rw [hy1] at hj; exact absurd hj.symm hne
                      · rw [hy1] at hj; simp only at hj; subst hj; simp
                    · rw [hx1] at hj; simp only at hj; subst hj; simp
                  refine gop_step hT hp hoj hpair (isRow1_ok hc1) hl (fun t ht => ?_) hc2 hc3 (Array.setIfInBounds_comm _ _ (Ne.symm hne)) (Post := fun u' H'' => u' = u ∧ H'' = H') (fun S w ρ a hr hi hF K2 hK2 => ?_) (fun u' H'' hP => by obtain ⟨rfl, rfl⟩ := hP; exact ih2)
                  · rw [ht] at hc4
                    simp only [Option.isNone_iff_eq_none] at hc4
                    exact hc4
                  · unfold wpOp
                    simp only [hoj]
                    rw [if_pos (wantA_ok hF hw)]
                    refine .inl (hx S w ρ a hr hi hF _ _ fun x S' w' ρ' hr' hi' hu hA hL hv => hK2 x S' w' ρ' u H' ⟨rfl, rfl⟩ hr' hi' hu hA (hL.imp id fun h => ?_) hv)
                    simpa only [Bool.and_eq_true] using h
                · exact h.elim
              · exact h.elim
            · exact h.elim
      · exact h.elim
    · exact h.elim
theorem twoD_ok (hT : TabOk P T) (IH : ∀ p s F H K Q n, RsOk P K Q n (ih p s F H) → Go P K Q p s n F H) {i j : Nat} {left : Nat} {listed : Array Bool} (hrd : Region.ready .any all listed = [i, j]) (h : RsOk P K Q n (twoD T ih all L m left i j listed s F H)) : Go P K Q (.drw all L m (left + 1) listed) s n F H := by
  unfold twoD at h
  split at h
  · rename_i oi hoi
    split at h
    · rename_i oj hoj
      split at h
      · rename_i hwi
        split at h
        · rename_i hwj
          obtain ⟨ui, Hi, xi, hk⟩ := exec1_ok (K := K) (n := n) hT IH (X := RsOk P K Q n) (fun _ _ h => h) h
          rw [Fm.puto_eq] at hk
          split at hk
          · rename_i F1 H1 e1
            obtain ⟨uj, Hj, xj, hk2⟩ := exec1_ok (K := K) (n := n) hT IH (X := RsOk P K Q n) (fun _ _ h => h) hk
            rw [Fm.puto_eq] at hk2
            split at hk2
            · rename_i F2 H2 e2
              split at hk2
              · rename_i hal
                have c : Go P K Q (.ex .normal) s n F1 H1 := IH _ _ _ _ _ _ _ hk2
                intro S w ρ a hr hi hF
                have hpin : ∀ id x, K.pin id = some x → id < H.nx := fun id x hx => Decidable.byContradiction fun hn => by
                  have h1 := hi.pin id x hx
                  have h2 := hr.ob id
                  have h3 : H.get id = .free := by
                    unfold Hp.get
                    have : Nat.blt id H.nx = false := by
                      cases hb : Nat.blt id H.nx
                      · rfl
                      · exact absurd (by simpa [Nat.blt_eq] using hb) hn
                    simp only [this]
                  rw [h3] at h2
                  have h4 : ρ id = none := h2
                  rw [h4] at h1; cases h1
                have g1 : Go P K (stkE P Q s) (.drw all L m left (listed.setIfInBounds i true)) [] n (F.seto oi.dst (some ui)) Hi := IH _ _ _ _ _ _ _ (by rw [e1]; exact fun S w ρ a hr hi hF => c S w ρ a hr hi hF)
                have g2 : Go P K (stkE P Q s) (.drw all L m left (listed.setIfInBounds j true)) [] n (F.seto oj.dst (some uj)) Hj := IH _ _ _ _ _ _ _ (by rw [e2]; exact fun S w ρ a hr hi hF => go_alike hal hpin c S w ρ a hr hi hF)
                exact go_dTwoX (by rw [hrd]; simp) hoi hoj hwi hwj xi xj g1 g2 S w ρ a hr hi hF
              · exact hk2.elim
            · exact hk2.elim
            · exact hk2.elim
          · exact hk.elim
          · exact hk.elim
        · exact h.elim
      · exact h.elim
    · exact h.elim
  · exact h.elim
theorem pendOf_ok : ∀ {R : List Nat} {i : Nat} {ps : List (Nat × Operand)} {v : V}, pendOf T F all R = some (i, o, ps, v) → ∃ vs, partsA F ps = some vs ∧ pendB T all i vs = some (o, ps, v)
  | [], _, _, _, h => by cases h
  | j :: r, i, ps, v, h => by
    unfold pendOf at h
    split at h
    · rename_i hj
      split at h
      · rename_i vs hvs
        split at h
        · rename_i o' ps' v' hpb
          simp only [Option.some.injEq, Prod.mk.injEq] at h
          obtain ⟨rfl, rfl, rfl, rfl⟩ := h
          refine ⟨vs, ?_, hpb⟩
          have := hpb
          unfold pendB at this
          rw [hj] at this
          simp only at this
          repeat' (split at this)
          all_goals first
            | (cases this; done)
            | (simp only [natK_eq, Option.some.injEq, Prod.mk.injEq] at this; obtain ⟨_, rfl, _⟩ := this; exact hvs)
        · exact pendOf_ok h
      · exact pendOf_ok h
    · exact pendOf_ok h
theorem step_ok (hT : TabOk P T) (hm : P.follows .mixedOrders = true) (IH : ∀ p s F H K Q n, RsOk P K Q n (ih p s F H) → Go P K Q p s n F H) : ∀ (p : EP) (s : List EI) (F : Fm) (H : Hp), RsOk P K Q n (step T ih p s F H) → Go P K Q p s n F H
  | .code c, s, F, H, h => by
    replace h : RsOk P K Q n (stepC T ih c s F H) := h
    unfold stepC at h
    split at h
    · exact go_seq (IH _ _ _ _ _ _ _ h)
    · exact go_block (IH _ _ _ _ _ _ _ h)
    · exact go_skip (IH _ _ _ _ _ _ _ h)
    · exact go_ret (IH _ _ _ _ _ _ _ h)
    · exact go_exit (IH _ _ _ _ _ _ _ h)
    · exact go_scope (IH _ _ _ _ _ _ _ h)
    · exact go_label (IH _ _ _ _ _ _ _ h)
    · exact go_loop 1000000 (IH _ _ _ _ _ _ _ h)
    · split at h
      · exact go_condT ‹_› (IH _ _ _ _ _ _ _ h)
      · exact go_condF ‹_› (IH _ _ _ _ _ _ _ h)
      · exact h.elim
    · exact go_region (IH _ _ _ _ _ _ _ h)
    · split at h
      · rename_i hs
        simp only [listK_eq, natK_eq] at h
        exact go_draw _ _ _ rfl hm hs (IH _ _ _ _ _ _ _ h)
      · exact h.elim
    · exact h.elim
  | .ops all rest, s, F, H, h => by
    replace h : RsOk P K Q n (stepOp T ih all rest s F H) := h
    unfold stepOp at h
    split at h
    · exact go_nil (IH _ _ _ _ _ _ _ h)
    · split at h
      · rw [Fm.puto_eq] at h
        exact go_opS ‹_› (IH _ _ _ _ _ _ _ h)
      · obtain ⟨u, H', hx, hk⟩ := exec1_ok (K := K) (n := n) hT IH (X := RsOk P K Q n) (fun _ _ h => h) h
        rw [Fm.puto_eq] at hk
        exact go_opX ‹_› hx (IH _ _ _ _ _ _ _ hk)
      · exact h.elim
  | .ex e, s, F, H, h => by
    replace h : RsOk P K Q n (stepX ih e s F H) := h
    unfold stepX at h
    split at h
    · split at h
      · exact fun S w ρ a hr hi hF => h S w ρ a hr hi hF
      · exact fun S w ρ a hr hi hF => h S w ρ a hr hi hF
      · exact h.elim
    · split at h
      · exact go_xseq (IH _ _ _ _ _ _ _ h)
      · exact go_xseqE (IH _ _ _ _ _ _ _ h)
      · exact go_xseqR (IH _ _ _ _ _ _ _ h)
      · exact h.elim
    · split at h
      · split at h
        · exact h.elim
        · exact go_xloop (IH _ _ _ _ _ _ _ h)
      · exact go_xloopE (IH _ _ _ _ _ _ _ h)
      · exact go_xloopR (IH _ _ _ _ _ _ _ h)
      · exact h.elim
    · split at h
      · exact go_xscpN (IH _ _ _ _ _ _ _ h)
      · exact go_xscpE (IH _ _ _ _ _ _ _ h)
      · exact go_xscpR (IH _ _ _ _ _ _ _ h)
      · exact h.elim
    · split at h
      · exact go_xblkN (IH _ _ _ _ _ _ _ h)
      · split at h
        · exact go_xblkT ‹_› (IH _ _ _ _ _ _ _ h)
        · exact go_xblkF ‹_› (IH _ _ _ _ _ _ _ h)
      · exact go_xblkR (IH _ _ _ _ _ _ _ h)
      · exact h.elim
  | .drw all L m left listed, s, F, H, h => by
    replace h : RsOk P K Q n (stepD T ih all L m left listed s F H) := h
    unfold stepD at h
    split at h
    · exact go_dDone ‹_› (IH _ _ _ _ _ _ _ h)
    · rename_i i R hrd
      cases left with
      | zero => exact h.elim
      | succ left =>
        simp only [] at h
        split at h
        · split at h
          · rename_i o ho
            split at h
            · rw [Fm.puto_eq] at h
              exact go_d1S hrd ho ‹_› (IH _ _ _ _ _ _ _ h)
            · obtain ⟨u, H', hx, hk⟩ := exec1_ok (K := K) (n := n) hT IH (X := RsOk P K Q n) (fun _ _ h => h) h
              rw [Fm.puto_eq] at hk
              exact go_d1X hrd ho ‹_› hx (IH _ _ _ _ _ _ _ hk)
            · exact h.elim
          · exact h.elim
        · split at h
          · split at h
            · rename_i o ho
              split at h
              · rename_i hc
                simp only [Bool.and_eq_true, Bool.not_eq_true'] at hc
                obtain ⟨⟨hc1, hc2⟩, hc3⟩ := hc
                split at h
                · rw [Fm.puto_eq] at h
                  exact go_dK hc3 ho hc2 hc1 ‹_› (IH _ _ _ _ _ _ _ h)
                · rename_i hw
                  split at h
                  · rename_i v hv
                    rw [Fm.puto_eq] at h
                    exact go_dP hT hc3 ho hc2 hc1 hw hv (IH _ _ _ _ _ _ _ h)
                  · split at h
                    · rename_i id hid
                      split at h
                      · rename_i hL
                        simp only [Bool.and_eq_true, Bool.not_eq_true'] at hL
                        obtain ⟨⟨hL1, hL2⟩, hL3⟩ := hL
                        split at h
                        · rename_i v ed hv
                          rw [Fm.puto_eq] at h
                          exact go_dL hT hc3 hL2 hL3 ho hc2 hc1 hw hid hL1 hv (IH _ _ _ _ _ _ _ h)
                        · exact h.elim
                      · exact h.elim
                    · exact h.elim
                · exact h.elim
              · exact h.elim
            · exact h.elim
          · split at h
            · rename_i i' o ps v hpo
              rw [Fm.puto_eq] at h
              obtain ⟨vs, g1, g2⟩ := pendOf_ok hpo
              exact gop_start g1 (pendX_ok hT IH g2 left listed _ _ h)
            · split at h
              · exact twoD_ok hT IH hrd h
              · exact h.elim
theorem run_ok (hT : TabOk P T) (hm : P.follows .mixedOrders = true) : ∀ (k : Nat) (p : EP) (s : List EI) (F : Fm) (H : Hp) (K : Ctx) (Q : Exit → Act → World → Prop) (n : Nat), RsOk P K Q n (run T k p s F H) → Go P K Q p s n F H
  | 0, p, s, F, H, K, Q, n, h => h
  | k + 1, p, s, F, H, K, Q, n, h => step_ok hT hm (fun p s F H K Q n h => run_ok hT hm k p s F H K Q n h) p s F H h
def runF (T : Tab) (k : Nat) (fid : FuncId) (vs : List V) (H : Hp) : Option (List V × Hp) := match T.fn fid with
  | some fn => match fn.body with
    | some b => match Nat.ble vs.length fn.ntmps with
      | true => match run T k (.code b) [] (fr0A fn.ntmps vs) H with
        | .ok _ F1 H1 => match resA T H1.get F1 fn.results.toList with
          | some rs => some (rs, H1)
          | none => none
        | _ => none
      | false => none
    | none => none
  | none => none
theorem runF_ok (hT : TabOk P T) (hm : P.follows .mixedOrders = true) {k : Nat} {fid : FuncId} {vs rs : List V} {H H1 : Hp} (h : runF T k fid vs H = some (rs, H1)) {S : Nat → Prop} {w : World} {ρ : Nat → Option Value} {xs : List Value} (hr : HRel S w ρ H.get) (hx : LRel S w ρ vs xs) : entersB P fid = true ∧
    Calls P fid xs.toArray w fun e w' => ∃ S' ρ' ys, e = .returned (retV ys) ∧ HRel S' w' ρ' H1.get ∧ Inv ⟨w, S, fun b => ∃ id, own ρ id (H.get id) b, ρ⟩ S' w' ρ' H1.get ∧ LRel S' w' ρ' rs ys := by
  unfold runF at h
  split at h
  · rename_i fn hfn
    obtain ⟨hf, he⟩ := hT.fn _ _ hfn
    split at h
    · rename_i b hb
      split at h
      · rename_i hl
        split at h
        · rename_i e F1 H1' hrun
          split at h
          · rename_i rs' hres
            simp only [Option.some.injEq, Prod.mk.injEq] at h
            obtain ⟨rfl, rfl⟩ := h
            refine ⟨he, ?_⟩
            have hi1 : Inv ⟨w, S, fun b => ∃ id, own ρ id (H.get id) b, ρ⟩ S w ρ H.get := ⟨ChgP.refl _ _, fun _ h => h, fun _ h => .inl h, fun id b hb => .inl ⟨id, hb⟩, fun _ _ h => h⟩
            refine enter_go hf hb hl hr hi1 hx (run_ok hT hm k _ _ _ _ _ _ _ ?_)
            rw [hrun]
            intro S' w' ρ' a' hr' hi' hF'
            obtain ⟨rl, hrl⟩ : ∃ l : List ResultVar, fn.results = l.toArray := ⟨fn.results.toList, by simp⟩
            rw [hrl] at hres
            refine ret_go hT (rs := rl) (by cases e <;> simp) hrl hr' hF' (by simpa using hres) fun x hvx => ?_
            have hLR := ret_inv hvx
            obtain ⟨ys, hys, rfl⟩ := hLR
            exact ⟨S', ρ', ys, rfl, hr', hi', hys⟩
          · cases h
        · cases h
      · cases h
    · cases h
  · cases h
end
end Go.Proofs.YteglbnopdedadaaGreat
namespace Go.Proofs.YteglbnopdedadaaGreat
open Go.RowKit Lx Sx
set_option maxRecDepth 100000
def strsB : List (List UInt8) → List V → Bool
  | [], [] => true
  | s :: r, .str l :: q => lEq s l && strsB r q
  | _, _ => false
def leadsB (ls : List (List UInt8)) : V → Bool
  | .nils => ls.isEmpty
  | .row sz els => Nat.beq sz 1 && strsB ls els
  | _ => false
mutual
def treeB : Tree → V → Bool
  | .node k s ls ks, v => match v with
    | .agg [.int .i64 k', .str s', l, r] => iEq k k' && lEq s s' && leadsB ls l && (match r with
      | .nils => ks.isEmpty
      | .row sz els => Nat.beq sz 4 && kidsB ks els
      | _ => false)
    | _ => false
def kidsB : List Tree → List V → Bool
  | [], vs => match vs with
    | [] => true
    | _ => false
  | t :: r, vs => match vs with
    | v :: q => treeB t v && kidsB r q
    | [] => false
end
section
variable {S : Nat → Prop} {w : World}
theorem strsB_ok {ρ : Nat → Option Value} : ∀ {ls : List (List UInt8)} {els : List V} {xs : List Value}, strsB ls els = true → CRel S w ρ 1 els xs → els.length = ls.length ∧ xs = ls.map strV
  | [], [], xs, _, hc => by simp only [CRel] at hc; subst hc; exact ⟨rfl, rfl⟩
  | s :: r, v :: q, xs, hb, hc => by
    cases v <;> simp only [strsB] at hb <;> first | (cases hb; done) | skip
    rename_i l
    simp only [Bool.and_eq_true] at hb
    have hl := hb.1
    rw [lEq_eq] at hl
    simp only [beq_iff_eq] at hl
    subst hl
    simp only [CRel] at hc
    obtain ⟨x, ys, rfl, _, h3, h4⟩ := hc
    simp only [VRel] at h3
    subst h3
    obtain ⟨h5, h6⟩ := strsB_ok hb.2 h4
    exact ⟨by simp [h5], by simp [h6, Value.cells]⟩
  | [], _ :: _, _, hb, _ => by cases hb
  | _ :: _, [], _, hb, _ => by cases hb
theorem leadsB_ok {ρ : Nat → Option Value} {ls : List (List UInt8)} {v : V} {x : Value} (hb : leadsB ls v = true) (hx : VRel S w ρ v x) : ∃ A m, x = .slice A ls.length m ∧ ls.length ≤ m ∧ m ≤ maxLen ∧ RowIn S w 1 A ls.length (ls.map strV) := by
  cases v <;> simp only [leadsB] at hb <;> first | (cases hb; done) | skip
  · simp only [List.isEmpty_iff] at hb
    subst hb
    simp only [VRel] at hx; subst hx
    exact ⟨none, 0, rfl, Nat.le_refl _, by decide, RowIn.none_⟩
  · rename_i sz els
    simp only [Bool.and_eq_true, Nat.beq_eq] at hb
    obtain ⟨rfl, hb⟩ := hb
    simp only [VRel] at hx
    obtain ⟨A, c, xs, rfl, h3, h4, h5, h6⟩ := hx
    obtain ⟨h7, rfl⟩ := strsB_ok hb h5
    rw [h7] at h3 h6 ⊢
    exact ⟨A, c, rfl, h3, h4, h6⟩
mutual
theorem treeB_ok {ρ : Nat → Option Value} : ∀ {t : Tree} {v : V} {x : Value}, treeB t v = true → VRel S w ρ v x → ∃ c, x = .agg c.toArray ∧ TreeIs S w t c
  | .node k s ls ks, v, x, hb, hx => by
    unfold treeB at hb
    split at hb
    · rename_i k' s' l r
      simp only [Bool.and_eq_true] at hb
      obtain ⟨⟨⟨hb1, hb2⟩, hb3⟩, hb4⟩ := hb
      rw [iEq_eq] at hb1
      rw [lEq_eq] at hb2
      simp only [beq_iff_eq] at hb1 hb2
      subst hb1 hb2
      simp only [VRel] at hx
      obtain ⟨xs, rfl, hl⟩ := hx
      simp only [LRel] at hl
      obtain ⟨x0, _, rfl, h0, x1, _, rfl, h1, x2, _, rfl, h2, x3, _, rfl, h3, rfl⟩ := hl
      simp only [VRel] at h0 h1
      subst h0 h1
      obtain ⟨A, m, rfl, g1, g2, g3⟩ := leadsB_ok hb3 h2
      have kk : ∃ B n, x3 = .slice B ks.length n ∧ ks.length ≤ n ∧ n ≤ maxLen ∧ ∃ cs, KidsAre S w ks cs ∧ RowIn S w 4 B ks.length cs := by
        split at hb4
        · simp only [List.isEmpty_iff] at hb4
          subst hb4
          simp only [VRel] at h3; subst h3
          exact ⟨none, 0, rfl, Nat.le_refl _, by decide, [], by simp only [KidsAre], RowIn.none_⟩
        · rename_i sz els
          simp only [Bool.and_eq_true, Nat.beq_eq] at hb4
          obtain ⟨rfl, hb4⟩ := hb4
          simp only [VRel] at h3
          obtain ⟨B, c, ys, rfl, q3, q4, q5, q6⟩ := h3
          obtain ⟨q7, q8⟩ := kidsB_ok hb4 q5
          rw [q7] at q3 q6 ⊢
          exact ⟨B, c, rfl, q3, q4, ys, q8, q6⟩
        · cases hb4
      obtain ⟨B, n, rfl, k1, k2, cs, k3, k4⟩ := kk
      exact ⟨_, rfl, tree_mk g1 g2 k1 k2 g3 k3 k4⟩
    · cases hb
theorem kidsB_ok {ρ : Nat → Option Value} : ∀ {ts : List Tree} {vs : List V} {xs : List Value}, kidsB ts vs = true → CRel S w ρ 4 vs xs → vs.length = ts.length ∧ KidsAre S w ts xs
  | [], vs, xs, hb, hc => by
    unfold kidsB at hb
    split at hb
    · simp only [CRel] at hc; subst hc; exact ⟨rfl, by simp only [KidsAre]⟩
    · cases hb
  | t :: r, vs, xs, hb, hc => by
    unfold kidsB at hb
    split at hb
    · rename_i v q
      simp only [Bool.and_eq_true] at hb
      simp only [CRel] at hc
      obtain ⟨x, ys, rfl, _, h3, h4⟩ := hc
      obtain ⟨c, rfl, hT⟩ := treeB_ok hb.1 h3
      obtain ⟨h5, h6⟩ := kidsB_ok hb.2 h4
      exact ⟨by simp [h5], by simp only [KidsAre]; exact ⟨c, ys, by simp [Value.cells], hT, h6⟩⟩
    · cases hb
end
end
def runG (T : Tab) (k : Nat) (fid : FuncId) (vs : List V) : Option (List V) := match runF T k fid vs ⟨0, []⟩ with
  | some (rs, H1) => frzM 0 H1 rs fun rs' _ => some rs'
  | none => none
theorem get0 (i : Nat) : (⟨0, []⟩ : Hp).get i = .free := by
  unfold Hp.get
  have : Nat.blt i 0 = false := by cases i <;> rfl
  simp only [this]
theorem hrel0 (w : World) : HRel (fun _ => False) w (fun _ => none) (⟨0, []⟩ : Hp).get :=
  ⟨fun i => by rw [get0]; rfl, fun i b hb => by rw [get0] at hb; exact hb.elim, fun i j b hb _ => by rw [get0] at hb; exact hb.elim, fun _ h => h.elim⟩
theorem runG_ok {P : Program} {T : Tab} (hT : TabOk P T) (hm : P.follows .mixedOrders = true) {k : Nat} {fid : FuncId} {vs rs : List V} (h : runG T k fid vs = some rs) {w : World} {xs : List Value} (hx : LRel (fun _ => False) w (fun _ => none) vs xs) :
    Calls P fid xs.toArray w fun e w' => ∃ S' ρ' ys, e = .returned (retV ys) ∧ (∀ b, S' b → w.heap.size ≤ b) ∧ Chg [] w w' ∧ LRel S' w' ρ' rs ys := by
  unfold runG at h
  split at h
  · rename_i rs1 H1 hrun
    obtain ⟨rs2, H2, e1, _, e3⟩ := frzM_ok 0 rs1 H1
    rw [e1] at h
    injection h with h; subst h
    have hr0 := hrel0 w
    refine (runF_ok hT hm hrun hr0 hx).2.mono fun e w' hR => ?_
    obtain ⟨S', ρ', ys, rfl, hr, hi, hl⟩ := hR
    obtain ⟨S2, a1, a2, a3, a4⟩ := e3 _ S' w' ρ' ys hr hi hl
    have hno : ∀ b, ¬ ∃ id, own (fun _ => none) id ((⟨0, []⟩ : Hp).get id) b := fun b ⟨id, hb⟩ => by rw [get0] at hb; exact hb
    refine ⟨S2, ρ', ys, rfl, fun b hb => ?_, ⟨hi.chg.os, hi.chg.tape, hi.chg.output, hi.chg.size, fun b hb _ => hi.chg.block b hb (hno b)⟩, a4⟩
    rcases a2.s1 b hb with h | h | h
    · exact h.elim
    · exact absurd h (hno b)
    · exact h
  · cases h
def natP (fid : FuncId) (vs : List V) : Option V := match Nat.beq fid 115 with
  | true => match vs with
    | [.str s, .int .u8 (.ofNat c)] => intK (Lib.indexByte s c.toUInt8) fun n => some (.int .i64 n)
    | _ => none
  | false => none
noncomputable def tabP : Tab := ⟨true, lookT tyL, lookT fnL, natP, fun f => Nat.beq f 60⟩
theorem tabP_ok : TabOk Tryz.prog tabP := by
  refine ⟨tyL_ok, fnL_ok, fun i vs v hv => ?_⟩
  replace hv : natP i vs = some v := hv
  unfold natP at hv
  split at hv
  · rename_i hb
    have := Nat.eq_of_beq_eq_true hb
    subst this
    split at hv
    · rename_i s c
      rw [intK_eq] at hv
      injection hv with hv; subst hv
      refine ⟨by kernel_rfl, fun S w ρ xs hx => ?_⟩
      simp only [LRel] at hx
      obtain ⟨x0, _, rfl, h0, x1, _, rfl, h1, rfl⟩ := hx
      simp only [VRel] at h0 h1
      subst h0 h1
      exact ⟨_, by simp only [VRel]; rfl, indexByteV _ _ _⟩
    · cases hv
  · cases hv
def parsedB (t : Tree) : Option (List V) → Bool
  | some [v, .int .i64 a, .int .i64 e] => treeB t v && iEq a 0 && iEq e 0
  | _ => false
theorem parse_run {k : Nat} {l : List UInt8} {t : Tree} (h : parsedB t (runG tabP k 36 [.str l]) = true) {w : World} : Calls Tryz.prog 36 [strV l].toArray w fun e w' => ∃ c0 c1 c2 c3, e = .returned (.tuple #[.agg #[c0, c1, c2, c3], .int .i64 0, .int .i64 0]) ∧ TreeIs (fun b => w.heap.size ≤ b) w' t [c0, c1, c2, c3] ∧ Chg [] w w' := by
  unfold parsedB at h
  split at h
  · rename_i v a e hr
    simp only [Bool.and_eq_true, iEq_eq, beq_iff_eq] at h
    obtain ⟨⟨h1, rfl⟩, rfl⟩ := h
    refine (runG_ok tabP_ok (by kernel_rfl) hr (xs := [strV l]) ⟨_, [], rfl, by simp only [VRel], rfl⟩).mono fun e w' hR => ?_
    obtain ⟨S', ρ', ys, rfl, g1, g2, g3⟩ := hR
    simp only [LRel] at g3
    obtain ⟨x0, _, rfl, h0, x1, _, rfl, h2, x2, _, rfl, h3, rfl⟩ := g3
    simp only [VRel] at h2 h3
    subst h2 h3
    obtain ⟨c, rfl, hT⟩ := treeB_ok h1 h0
    have h4 := hT.four
    match c, h4, hT with
    | [c0, c1, c2, c3], _, hT => exact ⟨c0, c1, c2, c3, rfl, hT.keep g1 (fun _ _ _ => rfl), g2⟩
  · cases h
end Go.Proofs.YteglbnopdedadaaGreat
namespace Go.Proofs.YteglbnopdedadaaGreat
open Go.RowKit Lx Sx
section
variable {S : Nat → Prop} {w : World} {ρ : Nat → Option Value}
theorem strs_rel : ∀ ls : List (List UInt8), CRel S w ρ 1 (ls.map .str) (ls.map strV)
  | [] => by simp [CRel]
  | s :: r => by
    simp only [List.map_cons, CRel]
    exact ⟨strV s, r.map strV, by simp [Value.cells, strV], ⟨rfl, rfl⟩, by unfold VRel; rfl, strs_rel r⟩
theorem ints_rel : ∀ ls : List Int, CRel S w ρ 1 (ls.map (V.int .i64)) (ls.map fun z => .int .i64 z)
  | [] => by simp [CRel]
  | s :: r => by
    simp only [List.map_cons, CRel]
    exact ⟨.int .i64 s, _, by simp [Value.cells], ⟨rfl, rfl⟩, by unfold VRel; rfl, ints_rel r⟩
mutual
theorem TreeIs.vrel : ∀ {ρ : Nat → Option Value} {t : Tree} {c : List Value}, TreeIs S w t c → LRel S w ρ (treeC t) c
  | ρ, .node k s ls ks, c, h => by
    simp only [TreeIs] at h
    obtain ⟨A, m, B, n, rfl, h1, h2, h3, h4, h5, cs, h6, h7⟩ := h
    simp only [treeC, Tree.kind, Tree.text, Tree.leads, Tree.kids, LRel, VRel]
    exact ⟨_, _, rfl, rfl, _, _, rfl, rfl, _, _, rfl, ⟨A, m, _, by simp, by simpa using h1, h2, strs_rel ls, by simpa using h5⟩, _, _, rfl, ⟨B, n, cs, by simp [kidsV_len], by simpa [kidsV_len] using h3, h4, KidsAre.crel h6, by simpa [kidsV_len] using h7⟩, rfl⟩
theorem KidsAre.crel : ∀ {ρ : Nat → Option Value} {ts : List Tree} {cs : List Value}, KidsAre S w ts cs → CRel S w ρ 4 (kidsV ts) cs
  | ρ, [], cs, h => by simp only [KidsAre] at h; simp only [kidsV, CRel]; exact h
  | ρ, t :: r, cs, h => by
    simp only [KidsAre] at h
    obtain ⟨c, d, rfl, h1, h2⟩ := h
    simp only [kidsV, CRel, treeV_eq]
    exact ⟨.agg c.toArray, d, by simp [Value.cells], ⟨by simp [Value.cells, h1.four], by simpa [Value.cells] using h1.one⟩, by simp only [VRel]; exact ⟨c, rfl, h1.vrel⟩, KidsAre.crel h2⟩
end
end
theorem c_Parse {k : Nat} {l : List UInt8} {t : Tree} (h : parsedB t (runG tabP k 36 [.str l]) = true) : Sum0 Tryz.prog 36 [.str l] (.tup [.agg (treeC t), .int .i64 0, .int .i64 0]) := by
  refine ⟨rfl, rfl, fun S w ρ xs hr hx => ?_⟩
  simp only [LRel, VRel] at hx
  obtain ⟨x, ys, rfl, rfl, rfl⟩ := hx
  refine (parse_run h (w := w)).mono ?_
  rintro e w' ⟨c0, c1, c2, c3, rfl, hT, hc⟩
  have hT' := hT.bound
  have g := hr.chg0 hc
  refine ⟨_, fun b => S b ∨ (w.heap.size ≤ b ∧ b < w'.heap.size), ρ, _, ⟨0, []⟩, rfl, rfl, ⟨fun i => ?_, fun i b hb => ?_, fun i j b hb _ => ?_, fun b hb => hb.elim (g.slt b) (·.2)⟩, ⟨ChgP.of0 hc, fun _ h => .inl h, fun b hb => hb.elim .inl fun h => .inr (.inr h.1), fun id b hb => .inl ⟨id, hb⟩, fun id x h => ?_⟩, ?_⟩
  · have := g.ob i; rw [get0] at this ⊢; exact this
  · rw [get0] at hb; exact hb.elim
  · rw [get0] at hb; exact hb.elim
  · simp only [pinV] at h
    split at h
    · exact h
    · cases h
  · have hk := TreeIs.vrel (ρ := ρ) (TreeIs.keep (S' := fun b => S b ∨ (w.heap.size ≤ b ∧ b < w'.heap.size)) (fun b hb => .inr hb) (fun _ _ _ => rfl) hT')
    simp only [VRel]
    exact ⟨[.agg #[c0, c1, c2, c3], .int .i64 0, .int .i64 0], rfl, .agg #[c0, c1, c2, c3], _, rfl, by simp only [VRel]; exact ⟨_, rfl, hk⟩, _, _, rfl, by simp only [VRel], _, _, rfl, by simp only [VRel], rfl⟩
theorem law_ints {fid : FuncId} {l : List Int} {b : Bool} (h : Sum0 Tryz.prog fid [.row 1 (l.map (V.int .i64))] (.bool b)) {W : World} {A : Option Addr} {cap : Nat} (hc : l.length ≤ cap) (hm : cap ≤ maxLen) (hr : RowIn Any W 1 A l.length (l.map fun z => .int .i64 z)) : Calls Tryz.prog fid #[.slice A l.length cap] W fun e W' => e = .returned (.bool b) ∧ Ext W W' := by
  have h0 := hrel0 W
  have hr' : HRel (fun b => b < W.heap.size) W (fun _ => none) (⟨0, []⟩ : Hp).get := ⟨h0.ob, fun i b hb => by rw [get0] at hb; exact hb.elim, fun i j b hb _ => by rw [get0] at hb; exact hb.elim, fun _ h => h⟩
  have hrow : RowIn (fun b => b < W.heap.size) W 1 A l.length (l.map fun z => .int .i64 z) := ⟨hr.1, fun hp => by
    obtain ⟨b, off, h1, _, h3, h4⟩ := hr.2 hp
    exact ⟨b, off, h1, h3, h3, h4⟩⟩
  refine (h.2.2 _ W _ [.slice A l.length cap] hr' ?_).mono ?_
  · simp only [LRel]
    exact ⟨_, _, rfl, by simp only [VRel]; exact ⟨A, cap, _, by simp, by simpa using hc, hm, ints_rel l, by simpa using hrow⟩, rfl⟩
  · rintro e W' ⟨x, S', ρ', v, H', rfl, rfl, h1, h2, h3⟩
    simp only [VRel] at h3
    subst h3
    have hno : ∀ b, ¬ ∃ id, own (fun _ => none) id ((⟨0, []⟩ : Hp).get id) b := fun b ⟨id, hb⟩ => by rw [get0] at hb; exact hb
    exact ⟨rfl, Chg.ext ⟨h2.chg.os, h2.chg.tape, h2.chg.output, h2.chg.size, fun b hb _ => h2.chg.block b hb (hno b)⟩⟩
end Go.Proofs.YteglbnopdedadaaGreat
namespace Go.Proofs.YteglbnopdedadaaGreat
open Go.RowKit Lx Sx
set_option maxRecDepth 100000
def usesK (M D : Int) : List GTarget → List GPlace
  | [] => []
  | x :: r => if x.Free = false ∧ x.Module = M ∧ x.Def = D then x.Use :: usesK M D r else usesK M D r
theorem targetsK_len (p : List Tree) : (targetsK p).length ≤ kbulk p := by
  unfold targetsK; split
  · exact targK_len p 0 p
  · simp
theorem c_Uses (p : List Tree) (hp : kbulk p ≤ 100000000) (M D : Int) : S_link_Uses p M D (usesK M D (targetsK p)) := by
  have ht := targetsK_len p
  obtain ⟨T, hT⟩ : ∃ T, T = targetsK p := ⟨_, rfl⟩
  rw [← hT] at ht ⊢
  have loop : ∀ m i l, T.length - i ≤ m → l.length ≤ i → L0_link_Uses (m + 1) M D T l i (l ++ usesK M D (T.drop i)) := fun m => by
    induction m with
    | zero =>
      intro i l hi hl
      refine rL0_link_Uses 0 _ _ _ _ _ _ ⟨fun h => by omega, fun h => ?_⟩
      rw [List.drop_of_length_le (by omega)]; simp [usesK]
    | succ m ihm =>
      intro i l hi hl
      refine rL0_link_Uses (m + 1) _ _ _ _ _ _ ⟨fun h => ?_, fun h => ?_⟩
      · obtain ⟨u, hu, _⟩ | h' := get_or T i
        · rw [drop_get hu, usesK]
          refine ⟨u, hu, fun h1 => ⟨fun h2 => ⟨fun h3 => ?_, fun h3 => ?_⟩, fun h2 => ?_⟩, fun h1 => ?_⟩
          · rw [if_pos ⟨h1, h2, h3⟩]
            refine ⟨by simp; omega, by omega, ?_⟩
            have := ihm (i + 1) (l ++ [u.Use]) (by omega) (by simp; omega)
            simpa using this
          · rw [if_neg (fun h => h3 h.2.2)]
            exact ⟨by omega, ihm (i + 1) l (by omega) (by omega)⟩
          · rw [if_neg (fun h => h2 h.2.1)]
            exact ⟨by omega, ihm (i + 1) l (by omega) (by omega)⟩
          · rw [if_neg (fun h => by rw [h1] at h; cases h.1)]
            exact ⟨by omega, ihm (i + 1) l (by omega) (by omega)⟩
        · exact absurd h h'
      · rw [List.drop_of_length_le (by omega)]; simp [usesK]
  exact rS_link_Uses (T.length + 1) _ _ _ _ ⟨T, hT ▸ c_Targets p hp, by simpa using loop T.length 0 [] (by omega) (by simp)⟩
theorem c_Light (l : List Int) : S_semvcsmake_Light l (decide (((l.length : Nat) : Int) ≤ 120)) := rS_semvcsmake_Light 0 _ _ rfl
def awkSA : List UInt8 := [109, 111, 100, 117, 108, 101, 32, 65, 32, 100, 101, 102, 32, 102, 40, 41, 58, 32, 73, 110, 116, 32, 61, 32, 66, 46, 103, 40, 102, 40, 41, 41]
def awkSB : List UInt8 := [109, 111, 100, 117, 108, 101, 32, 66, 32, 100, 101, 102, 32, 103, 40, 120, 58, 32, 73, 110, 116, 41, 58, 32, 73, 110, 116, 32, 61, 32, 102, 40, 41]
def awkTA : Tree := (parseT awkSA).1
def awkTB : Tree := (parseT awkSB).1
theorem awkA_run : parsedB awkTA (runG tabP 5000 36 [.str awkSA]) = true := by kernel_rfl
theorem awkB_run : parsedB awkTB (runG tabP 5000 36 [.str awkSB]) = true := by kernel_rfl
theorem awk_bulk : kbulk [awkTA, awkTB] ≤ 100000000 := by decide +kernel
theorem awk_tg : (targetsK [awkTA, awkTB]).map (fun g => (g.Free, g.Module)) = [(false, 1), (false, 0), (true, 0)] := by decide +kernel
theorem awk_us : (usesK 0 0 (targetsK [awkTA, awkTB])).length = 1 := by decide +kernel
theorem c_awake6 : S_semvcslaw06_awake true := by
  have hb := awk_bulk
  have h := awk_tg
  obtain ⟨T, hT⟩ : ∃ T, T = targetsK [awkTA, awkTB] := ⟨_, rfl⟩
  have h1 := c_Targets [awkTA, awkTB] hb
  have h2 := c_Uses [awkTA, awkTB] hb 0 0
  have h3 := awk_us
  rw [← hT] at h h1 h2 h3
  match T, h with
  | [x, y, z], h =>
    simp only [List.map_cons, List.map_nil, List.cons.injEq, Prod.mk.injEq, and_true] at h
    obtain ⟨⟨a1, a2⟩, _, a3, a4⟩ := h
    exact rS_semvcslaw06_awake 0 _ ⟨awkTA, 0, 0, c_Parse awkA_run, awkTB, 0, 0, c_Parse awkB_run, _, h1, fun _ => ⟨fun _ => ⟨fun _ => ⟨x, rfl, fun _ => ⟨x, rfl, fun _ => ⟨z, rfl, fun _ => ⟨_, h2, by rw [h3]; rfl⟩, fun h => by rw [a3] at h; cases h⟩, fun h => absurd a2 h⟩, fun h => by rw [a1] at h; cases h⟩, fun h => absurd rfl h⟩, fun h => absurd rfl h⟩, fun h => absurd rfl h⟩
end Go.Proofs.YteglbnopdedadaaGreat
namespace Go.Proofs.YteglbnopdedadaaGreat
open Go.RowKit Lx Sx
set_option maxRecDepth 100000
theorem inK_ok {p : List Tree} {M : Int} {w : List UInt8} (h : (inK p M w).2.2 = true) : ∃ (i d : Nat) (t u : Tree), M = (i : Int) ∧ (inK p M w).1 = (i : Int) ∧ (inK p M w).2.1 = (d : Int) ∧ p[i]? = some t ∧ t.kids[d]? = some u ∧ u.text = w ∧ ∀ j v, j < d → t.kids[j]? = some v → v.text ≠ w := by
  unfold inK at h ⊢
  by_cases hM : M < 0
  · rw [if_pos hM] at h; cases h
  · rw [if_neg hM] at h ⊢
    cases ht : p[M.toNat]? with
    | none => rw [ht] at h; cases h
    | some t =>
      rw [ht] at h
      simp only at h ⊢
      rcases namedK_range w t.kids 0 with e | ⟨k, u, e1, e2, e3, e4⟩
      · simp [e] at h
      · have hn : ¬ namedK w t.kids 0 < 0 := by omega
        rw [if_neg hn]
        exact ⟨M.toNat, k, t, u, by omega, by simp only []; omega, by simp only []; omega, ht, e2, e3, e4⟩
theorem tgsK_all {p : List Tree} {M : Int} : ∀ {a : List (List Int × Tree)} {x : GTarget}, x ∈ tgsK p M a → ∃ q u, (q, u) ∈ a ∧ useK u = true ∧ x = tgK p M q u
  | [], x, h => by simp [tgsK] at h
  | (q, u) :: r, x, h => by
    simp only [tgsK] at h
    split at h
    · rename_i hu
      rcases List.mem_cons.1 h with rfl | h
      · exact ⟨q, u, by simp, hu, rfl⟩
      · obtain ⟨q', u', a1, a2, a3⟩ := tgsK_all h
        exact ⟨q', u', by simp [a1], a2, a3⟩
    · obtain ⟨q', u', a1, a2, a3⟩ := tgsK_all h
      exact ⟨q', u', by simp [a1], a2, a3⟩
theorem targK_all {p : List Tree} : ∀ {i : Nat} {l : List Tree} {x : GTarget}, x ∈ targK p i l → ∃ j t q u, l[j]? = some t ∧ (q, u) ∈ nodK t [] ∧ useK u = true ∧ x = tgK p ((i + j : Nat) : Int) q u
  | i, [], x, h => by simp [targK] at h
  | i, t :: r, x, h => by
    simp only [targK, List.mem_append] at h
    rcases h with h | h
    · obtain ⟨q, u, a1, a2, a3⟩ := tgsK_all h
      exact ⟨0, t, q, u, rfl, a1, a2, a3⟩
    · obtain ⟨j, t', q, u, a0, a1, a2, a3⟩ := targK_all h
      exact ⟨j + 1, t', q, u, by simpa using a0, a1, a2, by rw [a3]; congr 2; omega⟩
end Go.Proofs.YteglbnopdedadaaGreat
namespace Go.Proofs.YteglbnopdedadaaGreat
open Go.RowKit Lx Sx
set_option maxRecDepth 100000
theorem class_tok {w : List UInt8} {k : Nat} (h : classT w = k) (hk : 0 < k ∧ k < 5) : (wordT w).2.1 = w.length ∧ (wordT w).1 = k := by
  unfold classT at h
  split at h
  · omega
  · split at h
    · rename_i hc
      have e : tokenT w = wordT w := by
        unfold tokenT at h ⊢
        simp only [] at h ⊢
        repeat' split at h
        all_goals simp_all
        all_goals omega
      rw [e] at hc h
      exact ⟨hc.2, h⟩
    · omega
theorem cls12 {w : List UInt8} {k : Nat} (h : classT w = k) (hk : k = 1 ∨ k = 2) : spanN wordB w = w.length ∧ (k = 1 ↔ lowerB (w.getD 0 0) = true) := by
  obtain ⟨h1, h2⟩ := class_tok h (by omega)
  unfold wordT at h1 h2
  split at h1
  · rename_i hc
    rw [if_pos hc] at h2
    unfold wordYesT at h2
    repeat' split at h2
    all_goals simp only at h2
    all_goals omega
  · rename_i hc
    rw [if_neg hc] at h2
    unfold wordNoT at h1 h2
    split at h2
    · simp only at h2; omega
    · rename_i a1
      rw [if_neg a1] at h1
      split at h2
      · simp only at h2; omega
      · rename_i a2
        rw [if_neg a2] at h1
        split at h2
        · rename_i a3
          rw [if_pos a3] at h1
          simp only at h1 h2
          exact ⟨h1, fun _ => a3, fun _ => h2.symm⟩
        · rename_i a3
          rw [if_neg a3] at h1
          simp only at h1 h2
          exact ⟨h1, fun h => by omega, fun h => absurd h a3⟩
theorem cls34 {w : List UInt8} {k : Nat} (h : classT w = k) (hk : k = 3 ∨ k = 4) : spanN wordB w < w.length ∧ w.getD (spanN wordB w) 0 = 46 ∧ (k = 3 ↔ lowerB (w.getD (spanN wordB w + 1) 0) = true) := by
  obtain ⟨h1, h2⟩ := class_tok h (by omega)
  unfold wordT at h1 h2
  split at h1
  · rename_i hc
    rw [if_pos hc] at h2
    have hc' := hc
    simp only [wordCond, Bool.and_eq_true, decide_eq_true_eq, beq_iff_eq] at hc'
    refine ⟨by omega, ?_, ?_⟩
    · have := hc'.1.2
      exact UInt8.toNat_inj.1 (by rw [this]; rfl)
    · unfold wordYesT at h2
      repeat' split at h2
      all_goals simp only at h2
      all_goals first
        | omega
        | (rename_i a3; exact ⟨fun _ => a3, fun _ => h2.symm⟩)
        | (rename_i a3; exact ⟨fun h => by omega, fun h => absurd h a3⟩)
  · rename_i hc
    rw [if_neg hc] at h2
    unfold wordNoT at h2
    repeat' split at h2
    all_goals simp only at h2
    all_goals omega
theorem spanN_cons (c : UInt8) (r : List UInt8) : spanN wordB (c :: r) = if wordB c = true then spanN wordB r + 1 else 0 := by
  unfold spanN; rw [List.takeWhile_cons]; split <;> simp
theorem dot_none : ∀ (w : List UInt8) (i : Nat), spanN wordB w = w.length → dotK w i = -1
  | [], i, h => rfl
  | c :: r, i, h => by
    rw [spanN_cons] at h
    split at h
    · rename_i hc
      have : c ≠ 46 := fun e => by subst e; revert hc; decide
      rw [dotK, if_neg this]
      exact dot_none r (i + 1) (by simpa using h)
    · simp at h
theorem dot_at : ∀ (w : List UInt8) (i : Nat), spanN wordB w < w.length → w.getD (spanN wordB w) 0 = 46 → dotK w i = ((i + spanN wordB w : Nat) : Int)
  | [], i, h, _ => by simp at h
  | c :: r, i, h, h2 => by
    rw [spanN_cons] at h h2 ⊢
    split at h
    · rename_i hc
      rw [if_pos hc] at h2 ⊢
      have : c ≠ 46 := fun e => by subst e; revert hc; decide
      rw [dotK, if_neg this, dot_at r (i + 1) (by simpa using h) (by simpa using h2)]
      congr 1; omega
    · rename_i hc
      rw [if_neg hc] at h2 ⊢
      have : c = 46 := by simpa using h2
      rw [dotK, if_pos this]; rfl
theorem shapeKs_at {k n : Int} : ∀ {l : List Tree} {i j : Nat} {u : Tree}, shapeKs k n i l = true → l[j]? = some u → suitK k n ((i + j : Nat) : Int) u.kind = true ∧ shapeK u = true
  | [], i, j, u, _, h => by simp at h
  | t :: r, i, 0, u, h, hj => by
    simp only [shapeKs, Bool.and_eq_true] at h
    simp only [List.getElem?_cons_zero, Option.some.injEq] at hj
    subst hj
    exact ⟨by simpa using h.1.1, h.1.2⟩
  | t :: r, i, j + 1, u, h, hj => by
    simp only [shapeKs, Bool.and_eq_true] at h
    have := shapeKs_at (i := i + 1) (j := j) h.2 (by simpa using hj)
    exact ⟨by rw [show i + (j + 1) = i + 1 + j by omega]; exact this.1, this.2⟩
theorem shape_at : ∀ (q : List Int) (t u : Tree), shapeK t = true → atK t q = some u → shapeK u = true
  | [], t, u, h, hu => by simp only [atK, Option.some.injEq] at hu; subst hu; exact h
  | i :: r, t, u, h, hu => by
    simp only [atK] at hu
    split at hu
    · cases hu
    · cases hv : t.kids[i.toNat]? with
      | none => rw [hv] at hu; cases hu
      | some v =>
        rw [hv] at hu
        rw [shapeK_eq] at h
        simp only [Bool.and_eq_true] at h
        exact shape_at r v u (shapeKs_at h.2 hv).2 hu
theorem progK_get : ∀ {p : List Tree} {i : Nat} {t : Tree}, progK p = true → p[i]? = some t → t.kind = 1 ∧ shapeK t = true
  | [], i, t, _, h => by simp at h
  | v :: r, 0, t, h, hi => by
    simp only [progK, Bool.and_eq_true, beq_iff_eq] at h
    simp only [List.getElem?_cons_zero, Option.some.injEq] at hi
    subst hi; exact h.1
  | v :: r, i + 1, t, h, hi => by
    simp only [progK, Bool.and_eq_true] at h
    exact progK_get h.2 (by simpa using hi)
end Go.Proofs.YteglbnopdedadaaGreat
