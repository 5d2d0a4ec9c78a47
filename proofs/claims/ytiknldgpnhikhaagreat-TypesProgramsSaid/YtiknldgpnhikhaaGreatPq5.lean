/- Contracts of the functions that the law reaches, part 5. -/
import Derived.Test.YtiknldgpnhikhaaGreatPq4
set_option linter.unusedVariables false
set_option linter.unusedSimpArgs false
namespace Go.Proofs.YtiknldgpnhikhaaGreat
open Go.RowKit Lx Sx
set_option maxRecDepth 100000
set_option maxHeartbeats 1000000
theorem sy (t : Tree) : ∀ n m, bH n (bH m t) = bH (n + m) t
  | 0, m => by rw [bH, Nat.zero_add]
  | n + 1, m => by rw [bH, sy t n m, show n + 1 + m = n + m + 1 by omega, bH]
theorem AI : ∀ t, tyK t → dp t (leafK t) := fun t ht => by
  have loop : ∀ t, tyK t → dY (lisK t + 1) t (leafK t) := cm fun t ih h => by
    rcases my h with ⟨h8, _, u, hu, hty⟩ | ⟨h8, hk, _⟩
    · obtain ⟨e1, e2⟩ := mx h8 hu
      have h0 : t.kids[0]? = some u := by rw [hu]; rfl
      rw [e1, e2]
      exact eZ _ _ _ ⟨fun _ => ⟨u, h0, ih 0 u h0 hty⟩, fun h => absurd h8 h⟩
    · obtain ⟨e1, e2⟩ := mB h8
      rw [e1, e2]
      exact eZ _ _ _ ⟨fun h => absurd h h8, fun _ => rfl⟩
  exact lb _ _ _ (loop t ht)
theorem Ao {u : Tree} (h8 : u.kind ≠ 8) (n : Nat) : dp (bH n u) u := by
  have loop : ∀ n, dY (n + 1) (bH n u) u := fun n => by
    induction n with
    | zero => exact eZ _ _ _ ⟨fun h => absurd h h8, fun _ => rfl⟩
    | succ n ih => exact eZ _ _ _ ⟨fun _ => ⟨bH n u, rfl, ih⟩, fun h => absurd rfl h⟩
  exact lb _ _ _ (loop n)
theorem BY {u v : Tree} (h8 : u.kind ≠ 8) : ∀ n, gU (bH n u) v (bH n v)
  | 0 => mf 0 _ _ _ ⟨fun _ => rfl, fun h => absurd h h8⟩
  | n + 1 => mf 0 _ _ _ ⟨fun h => absurd rfl h, fun _ => ⟨bH n u, rfl, _, BY h8 n, rfl⟩⟩
theorem zS (l : List (Int × Int)) (x : Int × Int) : gs l x (decide (x ∈ l)) := by
  have loop : ∀ m i, l.length - i ≤ m → gf (m + 1) l x i (decide (x ∈ l.drop i)) := fun m => by
    induction m with
    | zero =>
      intro i hi
      refine ll 0 _ _ _ _ ⟨fun h => by omega, fun h => ?_⟩
      rw [List.drop_of_length_le (by omega)]; simp
    | succ m ihm =>
      intro i hi
      refine ll (m + 1) _ _ _ _ ⟨fun h => ?_, fun h => ?_⟩
      · obtain ⟨u, hu, _⟩ | h' := aS l i
        · rw [bO hu]
          refine ⟨u, hu, fun h1 => ?_, fun h1 => ?_⟩
          · have : x = u := (Prod.ext h1.1 h1.2).symm
            simp [this]
          · have : x ≠ u := fun e => h1 (by rw [e]; exact ⟨rfl, rfl⟩)
            have e : decide (x ∈ u :: l.drop (i + 1)) = decide (x ∈ l.drop (i + 1)) := by simp [this]
            rw [e]
            exact ihm (i + 1) (by omega)
        · exact absurd h h'
      · rw [List.drop_of_length_le (by omega)]; simp
  have := loop l.length 0 (by omega)
  exact pd _ _ _ _ this
theorem xJ : ∀ t : Tree, tbulk t ≤ 1000000000 → en t (bareK t) := cm fun t ih hb => by
  have hk := dk t
  have loop : ∀ m i l, t.kids.length - i ≤ m → l.length = i → i ≤ t.kids.length → fG (m + 1) t l i (.node t.kind t.text [] (l ++ baresK (t.kids.drop i))) := fun m => by
    induction m with
    | zero =>
      intro i l hi hl hle
      refine k0 0 _ _ _ _ ⟨fun h => by omega, fun h => ?_⟩
      rw [List.drop_of_length_le (by omega), baresK, List.append_nil]
    | succ m ihm =>
      intro i l hi hl hle
      refine k0 (m + 1) _ _ _ _ ⟨fun h => ?_, fun h => ?_⟩
      · obtain ⟨u, hu, _⟩ | h' := aS t.kids i
        · have := bE hu
          rw [bO hu, baresK]
          refine ⟨u, hu, _, ih i u hu (by omega), by simp; omega, ?_⟩
          have := ihm (i + 1) (l ++ [bareK u]) (by omega) (by simp [hl]) (by omega)
          rw [List.append_assoc] at this
          exact this
        · exact absurd h h'
      · rw [List.drop_of_length_le (by omega), baresK, List.append_nil]
  have := loop t.kids.length 0 [] (by omega) rfl (by omega)
  rw [List.nil_append, List.drop_zero, ← qB] at this
  exact o9 _ _ _ this
theorem uv {p : List Tree} (hp : bG p = true) (hb : kbulk p ≤ 10000000) : ∀ (f : Nat) (seen sl : List (Int × Int)) (n : Nat) (M : Int) (u : Tree), jD p seen → kbulk p + 1 ≤ f + seen.length → (∀ k, k ∈ sl ↔ k ∈ seen) → sl.length = seen.length → tyK u → u.kind ≠ 8 → 0 ≤ M → M < p.length → u.text.length ≤ 1000000000 → ∃ m, eX m p M (bH n (.node u.kind u.text [] [])) sl (fM p f seen n M u).1 (fM p f seen n M u).2
  | 0, seen, sl, n, M, u, hs, hf, _, _, _, _, _, _, _ => by
    have := jT hs; omega
  | f + 1, seen, sl, n, M, u, hs, hf, hsl, hll, hu, h8, h0, h1, hux => by
    have hsn := jT hs
    have hleaf := Ao (u := .node u.kind u.text [] []) h8 n
    by_cases h9 : u.kind = 9
    · rw [fM, if_pos h9]
      have hfind := x9 (p := p) (w := u.text) h0 h1 (by omega) hux
      by_cases hfd : (aY p M u.text).2.2 = false
      · rw [if_pos hfd]
        exact ⟨1, ev 0 _ _ _ _ _ _ ⟨_, hleaf, fun _ => ⟨_, hleaf, _, _, _, hfind, fun _ => ⟨rfl, rfl⟩, fun h => (by rw [hfd] at h; cases h)⟩, fun h => absurd h9 h⟩⟩
      · rw [if_neg hfd]
        have hfd' : (aY p M u.text).2.2 = true := by simpa using hfd
        obtain ⟨i, d, t, a, b', g1, g2, g3, g4, g5, g6, g7⟩ := mu hp h9 hu.1 hfd'
        rw [hfd'] at hfind
        rw [g1, g2] at hfind ⊢
        have hmet := zS sl ((i : Int), (d : Int))
        by_cases hm : ((i : Int), (d : Int)) ∈ seen
        · rw [if_pos hm]
          rw [decide_eq_true ((hsl _).2 hm)] at hmet
          exact ⟨1, ev 0 _ _ _ _ _ _ ⟨_, hleaf, fun _ => ⟨_, hleaf, _, _, _, hfind, fun h => (by cases h), fun _ => ⟨_, hmet, fun _ => ⟨rfl, rfl⟩, fun h => (by cases h)⟩⟩, fun h => absurd h9 h⟩⟩
        · rw [if_neg hm]
          rw [decide_eq_false (fun h => hm ((hsl _).1 h))] at hmet
          have hal := mA g3 g4 g6
          rw [hal]
          obtain ⟨t1, t2, t3⟩ := j4 b' g7
          have hs' := ji hs g3 g4 hm
          have hil := (List.getElem?_eq_some_iff.1 g3).1
          have hbb : tbulk b' ≤ 10000000 := by
            have := dz g3
            have := bE g4
            have := bE (t := a) (i := 0) (u := b') (by rw [g6]; rfl)
            omega
          have hbare := xJ b' (by omega)
          rw [t3] at hbare
          have hin := BY (u := .node u.kind u.text [] []) (v := bH (lisK b') (.node (leafK b').kind (leafK b').text [] [])) h8 n
          rw [sy] at hin
          have hlb := (iZ b').1
          have htl := cd (leafK b')
          obtain ⟨m, hm'⟩ := uv hp hb f (((i : Int), (d : Int)) :: seen) (sl ++ [((i : Int), (d : Int))]) (n + lisK b') i (leafK b') hs' (by simp only [List.length_cons]; omega) (fun k => by simp [hsl k]; exact Or.comm) (by simp [hll]) t1 t2 (by omega) (by omega) (by omega)
          exact ⟨m + 1, ev m _ _ _ _ _ _ ⟨_, hleaf, fun _ => ⟨_, hleaf, _, _, _, hfind, fun h => (by cases h), fun _ => ⟨_, hmet, fun h => (by cases h), fun _ => ⟨by simp; omega, i, rfl, t, g3, d, rfl, a, g4, b', (by rw [g6]; rfl), _, hbare, _, hin, hm'⟩⟩⟩, fun h => absurd h9 h⟩⟩
    · rw [fM, if_neg h9]
      have hx : u.text = [] := by
        rcases my hu with ⟨h, _⟩ | ⟨_, _, h⟩
        · exact absurd h h8
        · exact h h9
      refine ⟨1, ev 0 _ _ _ _ _ _ ⟨_, hleaf, fun h => absurd h h9, fun _ => ⟨by rw [hx], rfl⟩⟩⟩
theorem ny {p : List Tree} (hb : kbulk p ≤ 10000000) (M : Int) {t : Tree} (ht : tbulk t ≤ 10000000) : cM p M t (fo p M t).1 (fo p M t).2 := by
  by_cases hG : bG p = true ∧ 0 ≤ M ∧ M < p.length ∧ ga t.kind = true ∧ shapeK t = true
  · have hty : tyK t := ⟨hG.2.2.2.2, hG.2.2.2.1⟩
    obtain ⟨t1, t2, t3⟩ := j4 t hty
    obtain ⟨b1, b2⟩ := iZ t
    have hlx := cd (leafK t)
    rw [fo, if_pos hG]
    have hbare := xJ t (by omega)
    rw [t3] at hbare
    obtain ⟨m, hm⟩ := uv hG.1 hb (kbulk p + 1) [] [] (lisK t) M (leafK t) ⟨List.nodup_nil, fun x h => by cases h⟩ (by simp) (fun k => Iff.rfl) rfl t1 t2 hG.2.1 hG.2.2.1 (by omega)
    exact j6 0 _ _ _ _ _ ⟨_, ff p (by omega), fun h => (by rw [hG.1] at h; cases h), fun _ => ⟨fun h => by omega, fun _ => ⟨fun h => by omega, fun _ => ⟨_, pC _, fun h => (by rw [hG.2.2.2.1] at h; cases h), fun _ => ⟨_, lZ t (by omega), fun h => (by rw [hG.2.2.2.2] at h; cases h), fun _ => ⟨_, _, oI m _ _ _ _ _ ⟨_, hbare, hm⟩, rfl, rfl⟩⟩⟩⟩⟩⟩
  · rw [fo, if_neg hG]
    exact j6 0 _ _ _ _ _ ⟨_, ff p (by omega), fun _ => ⟨rfl, rfl⟩, fun h1 => ⟨fun _ => ⟨rfl, rfl⟩, fun h2 => ⟨fun _ => ⟨rfl, rfl⟩, fun h3 => ⟨_, pC _, fun _ => ⟨rfl, rfl⟩, fun h4 => ⟨_, lZ t (by omega), fun _ => ⟨rfl, rfl⟩, fun h5 => absurd ⟨h1, by omega, by omega, h4, h5⟩ hG⟩⟩⟩⟩⟩
theorem ve {p : List Tree} (hp : bG p = true) (hb : kbulk p ≤ 10000000) (s1 s2 : Int) : ∀ (f : Nat) (seen sl : List (Int × Int)) (i d : Nat) (t a : Tree), jD p seen → kbulk p + 1 ≤ f + seen.length → (∀ k, k ∈ sl ↔ k ∈ seen) → sl.length = seen.length → p[i]? = some t → t.kids[d]? = some a → a.kind = 3 → ∃ m, cU m p s1 s2 i d sl (fS p (s1, s2) f seen (dB p ((i : Int), (d : Int))))
  | 0, seen, sl, i, d, t, a, hs, hf, _, _, _, _, _ => by
    have := jT hs; omega
  | f + 1, seen, sl, i, d, t, a, hs, hf, hsl, hll, g3, g4, g5 => by
    have hsn := jT hs
    obtain ⟨b, hbk, hty⟩ := oE hp g3 g4 g5
    have hal := mA g3 g4 hbk
    have hil := (List.getElem?_eq_some_iff.1 g3).1
    have hbb : tbulk b ≤ 10000000 := by
      have := dz g3
      have := bE g4
      have := bE (t := a) (i := 0) (u := b) (by rw [hbk]; rfl)
      omega
    obtain ⟨t1, t2, _⟩ := j4 b hty
    have hlb := (iZ b).1
    have htl := cd (leafK b)
    have fin : ∀ m r, fJ m p s1 s2 (leafK b) i d sl r → ∃ m, cU m p s1 s2 i d sl r := fun m r h =>
      ⟨m + 1, m5 m _ _ _ _ _ _ _ ⟨i, rfl, t, g3, d, rfl, a, g4, b, (by rw [hbk]; rfl), _, AI b hty, h⟩⟩
    rw [qi g3 g4 g5, hal]
    by_cases h9 : (leafK b).kind = 9
    · have hfind := x9 (p := p) (m := (i : Int)) (w := (leafK b).text) (by omega) (by omega) (by omega) (by omega)
      by_cases hfd : (aY p i (leafK b).text).2.2 = true
      · rw [if_pos ⟨h9, hfd⟩, fS]
        obtain ⟨i', d', t', a', b', e1, e2, e3, e4, e5, e6, e7⟩ := mu hp h9 t1.1 hfd
        rw [hfd, e1, e2] at hfind
        rw [e1, e2]
        by_cases hst : ((i' : Int), (d' : Int)) = (s1, s2)
        · rw [if_pos hst]
          exact fin 1 _ (cC 0 _ _ _ _ _ _ _ _ ⟨fun h => absurd h9 h, fun _ => ⟨_, _, _, hfind, fun h => (by cases h), fun _ => ⟨fun _ => rfl, fun h => absurd (Prod.mk.inj hst) h⟩⟩⟩)
        · rw [if_neg hst]
          have hst' : ¬ ((i' : Int) = s1 ∧ (d' : Int) = s2) := fun h => hst (by rw [h.1, h.2])
          have hmet := zS sl ((i' : Int), (d' : Int))
          by_cases hm : ((i' : Int), (d' : Int)) ∈ seen
          · rw [if_pos hm]
            rw [decide_eq_true ((hsl _).2 hm)] at hmet
            exact fin 1 _ (cC 0 _ _ _ _ _ _ _ _ ⟨fun h => absurd h9 h, fun _ => ⟨_, _, _, hfind, fun h => (by cases h), fun _ => ⟨fun h => absurd h hst', fun _ => ⟨_, hmet, fun _ => rfl, fun h => (by cases h)⟩⟩⟩⟩)
          · rw [if_neg hm]
            rw [decide_eq_false (fun h => hm ((hsl _).1 h))] at hmet
            obtain ⟨m, hm'⟩ := ve hp hb s1 s2 f (((i' : Int), (d' : Int)) :: seen) (sl ++ [((i' : Int), (d' : Int))]) i' d' t' a' (ji hs e3 e4 hm) (by simp only [List.length_cons]; omega) (fun k => by simp [hsl k]; exact Or.comm) (by simp [hll]) e3 e4 e5
            exact fin (m + 1) _ (cC m _ _ _ _ _ _ _ _ ⟨fun h => absurd h9 h, fun _ => ⟨_, _, _, hfind, fun h => (by cases h), fun _ => ⟨fun h => absurd h hst', fun _ => ⟨_, hmet, fun h => (by cases h), fun _ => ⟨by simp; omega, hm'⟩⟩⟩⟩⟩)
      · rw [if_neg (fun h => hfd h.2), fS]
        have hfd' : (aY p i (leafK b).text).2.2 = false := by simpa using hfd
        rw [hfd'] at hfind
        exact fin 1 _ (cC 0 _ _ _ _ _ _ _ _ ⟨fun h => absurd h9 h, fun _ => ⟨_, _, _, hfind, fun _ => rfl, fun h => (by cases h)⟩⟩)
    · rw [if_neg (fun h => h9 h.1), fS]
      exact fin 1 _ (cC 0 _ _ _ _ _ _ _ _ ⟨fun _ => rfl, fun h => absurd h h9⟩)
theorem qc {p : List Tree} (hb : kbulk p ≤ 10000000) (M D : Int) : ef p M D (jL p M D) := by
  have nn : (∀ t x, 0 ≤ M → 0 ≤ D → p[M.toNat]? = some t → t.kids[D.toNat]? = some x → x.kind = 3 → False) → jL p M D = false := fun h => by
    unfold jL
    split
    · rename_i hc
      have : dB p (M, D) = none := by
        unfold dB
        rw [if_pos ⟨hc.2.1, hc.2.2⟩]
        split
        · rfl
        · rename_i t ht
          split
          · rfl
          · rename_i x hx
            exact if_neg fun hcc => h t x hc.2.1 hc.2.2 ht hx hcc.1
      rw [this, fS]
    · rfl
  have hlen := fun (t : Tree) (ht : p[M.toNat]? = some t) => (List.getElem?_eq_some_iff.1 ht).1
  by_cases hp : bG p = true
  · by_cases h0 : M < 0
    · rw [nn fun _ _ h _ _ _ _ => by omega]
      exact bT 0 _ _ _ _ ⟨_, ff p (by omega), fun _ => rfl, fun _ => ⟨fun _ => rfl, fun h => absurd h0 h⟩⟩
    by_cases h1 : ((p.length : Nat) : Int) ≤ M
    · rw [nn fun t _ _ _ ht _ _ => by have := hlen t ht; omega]
      exact bT 0 _ _ _ _ ⟨_, ff p (by omega), fun _ => rfl, fun _ => ⟨fun _ => rfl, fun _ => ⟨fun _ => rfl, fun h => absurd h1 h⟩⟩⟩
    by_cases h2 : D < 0
    · rw [nn fun _ _ _ h _ _ _ => by omega]
      exact bT 0 _ _ _ _ ⟨_, ff p (by omega), fun _ => rfl, fun _ => ⟨fun _ => rfl, fun _ => ⟨fun _ => rfl, fun _ => ⟨fun _ => rfl, fun h => absurd h2 h⟩⟩⟩⟩
    obtain ⟨t, ht, _⟩ | h' := aS p M.toNat
    · by_cases h3 : ((t.kids.length : Nat) : Int) ≤ D
      · rw [nn fun t' x _ _ ht' hx _ => by
          rw [ht] at ht'; cases ht'
          have := (List.getElem?_eq_some_iff.1 hx).1
          omega]
        exact bT 0 _ _ _ _ ⟨_, ff p (by omega), fun _ => rfl, fun _ => ⟨fun _ => rfl, fun _ => ⟨fun _ => rfl, fun _ => ⟨fun _ => rfl, fun _ => ⟨M.toNat, by omega, t, ht, fun _ => rfl, fun h => absurd h3 h⟩⟩⟩⟩⟩
      · obtain ⟨a, ha, _⟩ | h' := aS t.kids D.toNat
        · have eM : ((M.toNat : Nat) : Int) = M := by omega
          have eD : ((D.toNat : Nat) : Int) = D := by omega
          by_cases hk : a.kind = 3
          · rw [jL, if_pos ⟨hp, by omega, by omega⟩]
            obtain ⟨m, hm⟩ := ve hp hb M D (kbulk p + 1) [] [] M.toNat D.toNat t a ⟨List.nodup_nil, fun x h => by cases h⟩ (by simp) (fun k => Iff.rfl) rfl ht ha hk
            rw [eM, eD] at hm
            exact bT m _ _ _ _ ⟨_, ff p (by omega), fun h => (by rw [hp] at h; cases h), fun _ => ⟨fun h => absurd h h0, fun _ => ⟨fun h => absurd h h1, fun _ => ⟨fun h => absurd h h2, fun _ => ⟨M.toNat, by omega, t, ht, fun h => absurd h h3, fun _ => ⟨M.toNat, by omega, t, ht, D.toNat, by omega, a, ha, fun h => absurd hk h, fun _ => hm⟩⟩⟩⟩⟩⟩
          · rw [nn fun t' x _ _ ht' hx hk' => by
              rw [ht] at ht'; cases ht'
              rw [ha] at hx; cases hx
              exact hk hk']
            exact bT 0 _ _ _ _ ⟨_, ff p (by omega), fun _ => rfl, fun _ => ⟨fun _ => rfl, fun _ => ⟨fun _ => rfl, fun _ => ⟨fun _ => rfl, fun _ => ⟨M.toNat, by omega, t, ht, fun _ => rfl, fun _ => ⟨M.toNat, by omega, t, ht, D.toNat, by omega, a, ha, fun _ => rfl, fun h => absurd h hk⟩⟩⟩⟩⟩⟩
        · omega
    · omega
  · have hp' : bG p = false := by simpa using hp
    rw [jL, if_neg (fun h => hp h.1)]
    exact bT 0 _ _ _ _ ⟨_, ff p (by omega), fun _ => rfl, fun h => absurd h hp⟩
end Go.Proofs.YtiknldgpnhikhaaGreat
namespace Go.Proofs.YtiknldgpnhikhaaGreat
open Go.RowKit Lx Sx
set_option maxRecDepth 100000
set_option maxHeartbeats 4000000
structure GSemvcsref02Piece where
  Lead : (List UInt8)
  Text : (List UInt8)
abbrev GSemvcsref02Piece.c (x : GSemvcsref02Piece) : List V := [.str x.Lead, .str x.Text]
abbrev GSemvcsref02Piece.w (x : GSemvcsref02Piece) : V := .agg x.c
def hV (p0 : (List UInt8)) (p1 : Bool) (r0 : Bool) : Prop := aP Tryz.prog 105 [.str p0, .bool p1] (.bool r0)
def li (p0 : (List UInt8)) (p1 : (List UInt8)) (r0 : Bool) : Prop := aP Tryz.prog 77 [.str p0, .str p1] (.bool r0)
def jX (p0 : Int) (p1 : Int) (r0 : Int) : Prop := aP Tryz.prog 41 [.int .i64 p0, .int .i64 p1] (.int .i64 r0)
def mi (p0 : (List Int)) (r0_L : (List Int)) (r0_At : Int) : Prop := eb [] Tryz.prog 20 [.row 1 (List.map (V.int .i64) p0)] ⟨0, []⟩ (fun u G => u = .ptr 0 0 ∧ G = ⟨1, [(0, .var 73 [.row 1 (List.map (V.int .i64) r0_L), .int .i64 r0_At])]⟩)
def iL (p0 : (List Int)) (r0 : Bool) : Prop := aP Tryz.prog 6 [.row 1 (List.map (V.int .i64) p0)] (.bool r0)
def be (p0_L : (List Int)) (p0_At : Int) (p1 : (List (List UInt8))) (r0 : (List UInt8)) (q0_L : (List Int)) (q0_At : Int) : Prop := eb [] Tryz.prog 71 [.ptr 0 0, .row 1 (List.map V.str p1)] ⟨1, [(0, .var 73 [.row 1 (List.map (V.int .i64) p0_L), .int .i64 p0_At])]⟩ (fun u G => u = .str r0 ∧ G = ⟨1, [(0, .var 73 [.row 1 (List.map (V.int .i64) q0_L), .int .i64 q0_At])]⟩)
def ci (p0_L : (List Int)) (p0_At : Int) (p1 : Int) (r0 : Tree) (q0_L : (List Int)) (q0_At : Int) : Prop := eb [] Tryz.prog 72 [.ptr 0 0, .int .i64 p1] ⟨1, [(0, .var 73 [.row 1 (List.map (V.int .i64) p0_L), .int .i64 p0_At])]⟩ (fun u G => u = .agg (ai r0) ∧ G = ⟨2, [(0, .var 73 [.row 1 (List.map (V.int .i64) q0_L), .int .i64 q0_At])]⟩)
def dM (p0_L : (List Int)) (p0_At : Int) (p1 : Int) (r0 : Tree) (q0_L : (List Int)) (q0_At : Int) : Prop := eb [] Tryz.prog 102 [.ptr 0 0, .int .i64 p1] ⟨1, [(0, .var 73 [.row 1 (List.map (V.int .i64) p0_L), .int .i64 p0_At])]⟩ (fun u G => u = .agg (ai r0) ∧ G = ⟨2, [(0, .var 73 [.row 1 (List.map (V.int .i64) q0_L), .int .i64 q0_At])]⟩)
def aO (p0_L : (List Int)) (p0_At : Int) (p1 : Int) (r0 : Tree) (q0_L : (List Int)) (q0_At : Int) : Prop := eb [] Tryz.prog 73 [.ptr 0 0, .int .i64 p1] ⟨1, [(0, .var 73 [.row 1 (List.map (V.int .i64) p0_L), .int .i64 p0_At])]⟩ (fun u G => u = .agg (ai r0) ∧ G = ⟨2, [(0, .var 73 [.row 1 (List.map (V.int .i64) q0_L), .int .i64 q0_At])]⟩)
def jV (p0_L : (List Int)) (p0_At : Int) (r0 : Tree) (q0_L : (List Int)) (q0_At : Int) : Prop := eb [] Tryz.prog 42 [.ptr 0 0] ⟨1, [(0, .var 73 [.row 1 (List.map (V.int .i64) p0_L), .int .i64 p0_At])]⟩ (fun u G => u = .agg (ai r0) ∧ G = ⟨2, [(0, .var 73 [.row 1 (List.map (V.int .i64) q0_L), .int .i64 q0_At])]⟩)
def fX (p0_L : (List Int)) (p0_At : Int) (p1 : Tree) (r0 : Tree) (q0_L : (List Int)) (q0_At : Int) : Prop := eb [] Tryz.prog 44 [.ptr 0 0, .agg (ai p1)] ⟨1, [(0, .var 73 [.row 1 (List.map (V.int .i64) p0_L), .int .i64 p0_At])]⟩ (fun u G => u = .agg (ai r0) ∧ G = ⟨2, [(0, .var 73 [.row 1 (List.map (V.int .i64) q0_L), .int .i64 q0_At])]⟩)
def ig (p0_L : (List Int)) (p0_At : Int) (p1 : (List UInt8)) (r0 : Tree) (q0_L : (List Int)) (q0_At : Int) : Prop := eb [] Tryz.prog 22 [.ptr 0 0, .str p1] ⟨1, [(0, .var 73 [.row 1 (List.map (V.int .i64) p0_L), .int .i64 p0_At])]⟩ (fun u G => u = .agg (ai r0) ∧ G = ⟨2, [(0, .var 73 [.row 1 (List.map (V.int .i64) q0_L), .int .i64 q0_At])]⟩)
def hI (p0 : (List Int)) (r0 : (List Tree)) : Prop := aP Tryz.prog 8 [.row 1 (List.map (V.int .i64) p0)] (.row 4 (kidsV r0))
def aF (p0_L : (List Int)) (p0_At : Int) (p1 : Int) (r0 : Int) (q0_L : (List Int)) (q0_At : Int) : Prop := eb [] Tryz.prog 21 [.ptr 0 0, .int .i64 p1] ⟨1, [(0, .var 73 [.row 1 (List.map (V.int .i64) p0_L), .int .i64 p0_At])]⟩ (fun u G => u = .int .i64 r0 ∧ G = ⟨1, [(0, .var 73 [.row 1 (List.map (V.int .i64) q0_L), .int .i64 q0_At])]⟩)
def gP (p0 : Int) (r0 : (List (List UInt8))) : Prop := eb [] Tryz.prog 103 [.int .i64 p0] ⟨0, []⟩ (fun u G => u = .sl 0 ∧ G = ⟨1, [(0, .row 9 1 (List.map V.str r0))]⟩)
def gX (p0 : Tree) (p1 : Int) (p2 : (List UInt8)) (r0 : (List UInt8)) : Prop := aP Tryz.prog 104 [.agg (ai p0), .int .i64 p1, .str p2] (.str r0)
def eC (p0 : Tree) (p1 : (List UInt8)) (r0 : Tree) : Prop := aP Tryz.prog 74 [.agg (ai p0), .str p1] (.agg (ai r0))
def gw (p0 : Tree) (r0 : Tree) : Prop := aP Tryz.prog 43 [.agg (ai p0)] (.agg (ai r0))
def d7 (p0 : Tree) (r0 : Bool) : Prop := aP Tryz.prog 23 [.agg (ai p0)] (.bool r0)
def dW (p0 : Tree) (r0 : Bool) : Prop := aP Tryz.prog 45 [.agg (ai p0)] (.bool r0)
def fw (p0 : Tree) (r0 : Bool) : Prop := aP Tryz.prog 75 [.agg (ai p0)] (.bool r0)
def eY (p0 : Tree) (r0 : Bool) : Prop := aP Tryz.prog 46 [.agg (ai p0)] (.bool r0)
def fE (p0 : Tree) (r0 : Int) : Prop := aP Tryz.prog 47 [.agg (ai p0)] (.int .i64 r0)
def ik (p0 : Tree) (r0 : (List UInt8)) : Prop := aP Tryz.prog 48 [.agg (ai p0)] (.str r0)
def k7 (p0 : Tree) (r0 : (List GSemvcsref02Piece)) : Prop := aP Tryz.prog 76 [.agg (ai p0)] (.row 2 (List.map GSemvcsref02Piece.w r0))
def ay (p0 : (List GSemvcsref02Piece)) (p1 : Tree) (r0 : (List GSemvcsref02Piece)) : Prop := eb [] Tryz.prog 106 [.sl 0, .agg (ai p1)] ⟨1, [(0, .row 103 2 (List.map GSemvcsref02Piece.w p0))]⟩ (fun u G => u = .sl 1 ∧ G = ⟨2, [(1, .row 103 2 (List.map GSemvcsref02Piece.w r0))]⟩)
def dO (p0 : (List GSemvcsref02Piece)) (p1 : Tree) (p2 : Int) (p3 : Int) (p4 : Int) (r0 : (List GSemvcsref02Piece)) : Prop := eb [] Tryz.prog 122 [.sl 0, .agg (ai p1), .int .i64 p2, .int .i64 p3, .int .i64 p4] ⟨1, [(0, .row 103 2 (List.map GSemvcsref02Piece.w p0))]⟩ (fun u G => u = .sl 1 ∧ G = ⟨2, [(1, .row 103 2 (List.map GSemvcsref02Piece.w r0))]⟩)
def aj (p0 : Tree) (p1 : Int) (r0 : (List UInt8)) : Prop := aP Tryz.prog 121 [.agg (ai p0), .int .i64 p1] (.str r0)
theorem mh (m : Nat) (p0 : Int) (p1 : Int) (r0 : Int) (h : p1 ≠ 0 ∧ (((Int.tmod p0 p1) < 0) → InI ((Int.tmod p0 p1) + p1) ∧ ((Int.tmod p0 p1) + p1) = r0) ∧ ((¬ (Int.tmod p0 p1) < 0) → (Int.tmod p0 p1) = r0)) : jX p0 p1 r0 := by
 refine ⟨rfl, rfl, ?_⟩
 refine ak 14 [] Tryz.func41 rfl rfl rfl (aA rfl) fun K hK => ?_
 refine gR 9 rfl ?_
 obtain ⟨hb, h⟩ := h
 refine gY (CH rfl rfl hb) rfl rfl ?_
 refine gR 10 rfl ?_
 refine gB 9 rfl rfl rfl (fun hd => ?_) (fun hd => ?_)
 replace hd := (of_decide_eq_true hd)
 replace h := h.1 hd
 refine gR 4 rfl ?_
 obtain ⟨hb, h⟩ := h
 refine gR 1 rfl ?_
 refine gV 12 (.int .i64 ((Int.tmod p0 p1) + p1)) rfl (ar hb rfl) rfl ?_
 refine gR 10 rfl ?_
 subst h
 refine ab (F' := (mkF 14 0 [(4, .int .i64 ((Int.tmod p0 p1) + p1))])) (H' := ⟨0, []⟩) [] [] rfl hK ⟨⟨_, rfl, .rfl⟩, trivial⟩ trivial rfl ?_
 exact ac aa (rs := [.tmp 4]) rfl rfl rfl
 replace hd := (of_decide_eq_false hd)
 replace h := h.2 hd
 refine gR 10 rfl ?_
 subst h
 refine ab (F' := (mkF 14 0 [(4, .int .i64 (Int.tmod p0 p1))])) (H' := ⟨0, []⟩) [] [] rfl hK ⟨⟨_, rfl, .rfl⟩, trivial⟩ trivial rfl ?_
 exact ac aa (rs := [.tmp 4]) rfl rfl rfl
theorem pJ (m : Nat) (p0 : (List Int)) (r0_L : (List Int)) (r0_At : Int) (h : p0.length ≤ 1000000000 ∧ p0 = r0_L ∧ 0 = r0_At) : mi p0 r0_L r0_At := by
 refine ak 8 [] Tryz.func20 rfl rfl rfl (aA rfl) fun K hK => ?_
 refine gR 9 rfl ?_
 obtain ⟨hb, h⟩ := h
 refine gDo (.repl 0 (.row 3 1 (List.map (V.int .i64) p0))) (bN aa rfl rfl rfl rfl rfl (List.nil_append _) (by rw [aV]; exact hb)) (okR rfl) rfl rfl rfl ?_
 refine gR 6 rfl ?_
 refine gFR 1 rfl (i5 _ (fun _ => rfl) _) rfl rfl ?_
 obtain ⟨rfl, rfl⟩ := h
 refine ab (F' := (mkF 8 0 [(2, .ptr 0 0)])) (H' := ⟨1, [(0, .var 73 [.row 1 (List.map (V.int .i64) p0), .int .i64 0])]⟩) [2] [] rfl hK ⟨⟨_, rfl, .rfl⟩, trivial⟩ ⟨⟨_, rfl, ⟨rfl, ah.rfl⟩⟩, trivial⟩ rfl ?_
 exact aC [] aa (rs := [.tmp 2]) rfl rfl ⟨rfl, rfl⟩
theorem o4 (m : Nat) (p0 : (List Int)) (r0 : Bool) (h : decide (((p0.length : Nat) : Int) ≤ 120) = r0) : iL p0 r0 := by
 refine ⟨rfl, rfl, ?_⟩
 refine ak 6 [] Tryz.func6 rfl rfl rfl (aA rfl) fun K hK => ?_
 refine gR 9 rfl ?_
 refine gV 4 (.int .i64 ((p0.length : Nat) : Int)) rfl (bc (aV (V.int .i64) _)) rfl ?_
 refine gLB 3 rfl (aV (V.int .i64) _) fun hl2 => ?_
 refine gR 5 rfl ?_
 subst h
 refine ab (F' := (mkF 6 0 [(2, .bool (decide (((p0.length : Nat) : Int) ≤ 120)))])) (H' := ⟨0, []⟩) [] [] rfl hK ⟨⟨_, rfl, .rfl⟩, trivial⟩ trivial rfl ?_
 exact ac aa (rs := [.tmp 2]) rfl rfl rfl
theorem pi (m : Nat) (p0_L : (List Int)) (p0_At : Int) (p1 : (List (List UInt8))) (r0 : (List UInt8)) (q0_L : (List Int)) (q0_At : Int) (h : ∃ (n0_1 : Int), ∃ (r0_2 : (List Int)), ∃ (n0_3 : Int), aF p0_L p0_At ((p1.length : Nat) : Int) n0_1 r0_2 n0_3 ∧ ∃ (k0_4 : Nat), n0_1 = ((k0_4 : Nat) : Int) ∧ ∃ (s0_5 : (List UInt8)), p1[k0_4]? = some s0_5 ∧ s0_5 = r0 ∧ r0_2 = q0_L ∧ n0_3 = q0_At) : be p0_L p0_At p1 r0 q0_L q0_At := by
 refine ak 12 [0] Tryz.func71 rfl rfl rfl (aA rfl) fun K hK => ?_
 refine gR 11 rfl ?_
 refine gV 8 (.int .i64 ((p1.length : Nat) : Int)) rfl (bc (aV V.str _)) rfl ?_
 refine gLB 7 rfl (aV V.str _) fun hl3 => ?_
 obtain ⟨n0_1, r0_2, n0_3, hs4, h⟩ := h
 refine gC hs4 [0] (by kernel_rfl) rfl rfl .rfl ⟨⟨_, rfl, ⟨rfl, ah.rfl⟩⟩, trivial⟩ rfl ?_
 rintro _ _ ⟨rfl, rfl⟩
 obtain ⟨k0_4, ek0_4, h⟩ := h
 refine gV 9 (.int .i64 ((k0_4 : Nat) : Int)) rfl (cw ek0_4) rfl ?_
 obtain ⟨s0_5, hxs0_5, h⟩ := h
 refine gY (aK (mapget (f := V.str) hxs0_5) aa rfl rfl rfl rfl) rfl rfl ?_
 refine gR 5 rfl ?_
 obtain ⟨rfl, rfl, rfl⟩ := h
 refine ab (F' := (mkF 12 0 [(4, .str s0_5)])) (H' := ⟨1, [(0, .var 73 [.row 1 (List.map (V.int .i64) r0_2), .int .i64 n0_3])]⟩) [0] [0] rfl hK ⟨⟨_, rfl, .rfl⟩, trivial⟩ ⟨⟨_, rfl, ⟨rfl, ah.rfl⟩⟩, trivial⟩ rfl ?_
 exact aC [] aa (rs := [.tmp 4]) rfl rfl ⟨rfl, rfl⟩
def eP (m : Nat) (p1 : Int) (n0_1 : Int) (r0_2 : (List Int)) (n0_3 : Int) (b1v1 : Bool) (r0 : Tree) (q0_L : (List Int)) (q0_At : Int) : Prop := ∀ (K : Ctx), au K [0] → Go Tryz.prog K (bodyPost Tryz.prog Tryz.f72 (SP K (fun u G => u = .agg (ai r0) ∧ G = ⟨2, [(0, .var 73 [.row 1 (List.map (V.int .i64) q0_L), .int .i64 q0_At])]⟩))) (.code (cB (cK (cB (cA (cB (ae Tryz.f72))))))) [.blk 0, .seq (cB (cB (ae Tryz.f72)))] 32 (mkF 32 0 [(0, .ptr 0 0), (1, .int .i64 p1), (4, .ptr 1 0), (6, .int .i64 n0_1), (7, .bool b1v1)]) ⟨2, [(1, .var 29 [.int .i64 0, .str [], .nils, .nils]), (0, .var 73 [.row 1 (List.map (V.int .i64) r0_2), .int .i64 n0_3])]⟩
theorem gv (m : Nat) (p0_L : (List Int)) (p0_At : Int) (p1 : Int) (r0 : Tree) (q0_L : (List Int)) (q0_At : Int) (h : ∃ (n0_1 : Int), ∃ (r0_2 : (List Int)), ∃ (n0_3 : Int), aF p0_L p0_At 7 n0_1 r0_2 n0_3 ∧ ((n0_1 = 0) → eP m p1 n0_1 r0_2 n0_3 true r0 q0_L q0_At) ∧ ((n0_1 ≠ 0) → eP m p1 n0_1 r0_2 n0_3 (n0_1 == 1) r0 q0_L q0_At)) : ci p0_L p0_At p1 r0 q0_L q0_At := by
 refine ak 32 [0] Tryz.func72 rfl rfl rfl (aA rfl) fun K hK => ?_
 refine gR 9 rfl ?_
 obtain ⟨n0_1, r0_2, n0_3, hs8, h⟩ := h
 refine gC hs8 [0] (by kernel_rfl) rfl rfl .rfl ⟨⟨_, rfl, ⟨rfl, ah.rfl⟩⟩, trivial⟩ rfl ?_
 rintro _ _ ⟨rfl, rfl⟩
 refine gR 10 rfl ?_
 refine gB 7 rfl rfl rfl (fun hd => ?_) (fun hd => ?_)
 refine gT 8 rfl hd rfl ?_
 replace hd := (eq_of_beq hd)
 replace h := h.1 hd
 refine gR 3 rfl ?_
 exact gJ (h K hK) [0, 1] [0] rfl hK ⟨⟨_, rfl, .rfl⟩, ⟨_, rfl, .rfl⟩, ⟨_, rfl, .rfl⟩, ⟨_, rfl, .rfl⟩, ⟨_, rfl, .rfl⟩, trivial⟩ ⟨⟨_, rfl, ⟨rfl, ah.rfl⟩⟩, ⟨⟨_, rfl, ⟨rfl, ah.rfl⟩⟩, trivial⟩⟩ rfl
 refine gF 8 rfl hd rfl ?_
 replace hd := (ne_of_beq_false hd)
 replace h := h.2 hd
 refine gR 6 rfl ?_
 exact gJ (h K hK) [0, 1] [0] rfl hK ⟨⟨_, rfl, .rfl⟩, ⟨_, rfl, .rfl⟩, ⟨_, rfl, .rfl⟩, ⟨_, rfl, .rfl⟩, ⟨_, rfl, .rfl⟩, trivial⟩ ⟨⟨_, rfl, ⟨rfl, ah.rfl⟩⟩, ⟨⟨_, rfl, ⟨rfl, ah.rfl⟩⟩, trivial⟩⟩ rfl
theorem bk (m : Nat) (p1 : Int) (n0_1 : Int) (r0_2 : (List Int)) (n0_3 : Int) (b1v1 : Bool) (r0 : Tree) (q0_L : (List Int)) (q0_At : Int) (h : ((b1v1 = true) → (Tree.node 5 [] [] []) = r0 ∧ r0_2 = q0_L ∧ n0_3 = q0_At) ∧ ((b1v1 = false) → ((n0_1 = 2) → (Tree.node 7 [] [] []) = r0 ∧ r0_2 = q0_L ∧ n0_3 = q0_At) ∧ ((n0_1 ≠ 2) → ((n0_1 = 3) → (Tree.node 6 [] [] []) = r0 ∧ r0_2 = q0_L ∧ n0_3 = q0_At) ∧ ((n0_1 ≠ 3) → ((n0_1 = 4) → ∃ (s1_1 : (List UInt8)), ∃ (r1_2 : (List Int)), ∃ (n1_3 : Int), be r0_2 n0_3 [[84], [85], [65, 46, 84], [66, 46, 85]] s1_1 r1_2 n1_3 ∧ (Tree.node 9 s1_1 [] []) = r0 ∧ r1_2 = q0_L ∧ n1_3 = q0_At) ∧ ((n0_1 ≠ 4) → ((p1 < 1) → (Tree.node 5 [] [] []) = r0 ∧ r0_2 = q0_L ∧ n0_3 = q0_At) ∧ ((¬ p1 < 1) → InI (p1 - 1) ∧ ∃ (t1_4 : Tree), ∃ (r1_5 : (List Int)), ∃ (n1_6 : Int), ci r0_2 n0_3 (p1 - 1) t1_4 r1_5 n1_6 ∧ (Tree.node 8 [] [] [t1_4]) = r0 ∧ r1_5 = q0_L ∧ n1_6 = q0_At)))))) : eP (m + 1) p1 n0_1 r0_2 n0_3 b1v1 r0 q0_L q0_At := by
 intro K hK
 refine gB 7 rfl rfl rfl (fun hd => ?_) (fun hd => ?_)
 replace h := h.1 hd
 refine gR 10 rfl ?_
 obtain ⟨rfl, rfl, rfl⟩ := h
 refine ab (F' := (mkF 32 0 [(4, .ptr 1 0)])) (H' := ⟨2, [(1, .var 29 [.int .i64 ((Tree.node 5 [] [] []).kind), .str ((Tree.node 5 [] [] []).text), .row 1 (List.map V.str ((Tree.node 5 [] [] []).leads)), .row 4 (kidsV ((Tree.node 5 [] [] []).kids))]), (0, .var 73 [.row 1 (List.map (V.int .i64) r0_2), .int .i64 n0_3])]⟩) [0, 1] [0] rfl hK ⟨⟨_, rfl, .rfl⟩, trivial⟩ ⟨⟨_, rfl, ⟨rfl, (.cons .rfl (.cons .rfl (.cons (.nil 1) (.cons (.nil 4) .nil))))⟩⟩, ⟨⟨_, rfl, ⟨rfl, ah.rfl⟩⟩, trivial⟩⟩ rfl ?_
 exact aC [1] aa (rs := [.cell 4 29]) rfl rfl ⟨rfl, rfl⟩
 replace h := h.2 hd
 refine gR 7 rfl ?_
 refine gB 11 rfl rfl rfl (fun hd => ?_) (fun hd => ?_)
 refine gT 12 rfl hd rfl ?_
 replace hd := (eq_of_beq hd)
 replace h := h.1 hd
 refine gR 10 rfl ?_
 obtain ⟨rfl, rfl, rfl⟩ := h
 refine ab (F' := (mkF 32 0 [(4, .ptr 1 0)])) (H' := ⟨2, [(1, .var 29 [.int .i64 ((Tree.node 7 [] [] []).kind), .str ((Tree.node 7 [] [] []).text), .row 1 (List.map V.str ((Tree.node 7 [] [] []).leads)), .row 4 (kidsV ((Tree.node 7 [] [] []).kids))]), (0, .var 73 [.row 1 (List.map (V.int .i64) r0_2), .int .i64 n0_3])]⟩) [0, 1] [0] rfl hK ⟨⟨_, rfl, .rfl⟩, trivial⟩ ⟨⟨_, rfl, ⟨rfl, (.cons .rfl (.cons .rfl (.cons (.nil 1) (.cons (.nil 4) .nil))))⟩⟩, ⟨⟨_, rfl, ⟨rfl, ah.rfl⟩⟩, trivial⟩⟩ rfl ?_
 exact aC [1] aa (rs := [.cell 4 29]) rfl rfl ⟨rfl, rfl⟩
 refine gF 12 rfl hd rfl ?_
 replace hd := (ne_of_beq_false hd)
 replace h := h.2 hd
 refine gR 7 rfl ?_
 refine gB 14 rfl rfl rfl (fun hd => ?_) (fun hd => ?_)
 refine gT 15 rfl hd rfl ?_
 replace hd := (eq_of_beq hd)
 replace h := h.1 hd
 refine gR 10 rfl ?_
 obtain ⟨rfl, rfl, rfl⟩ := h
 refine ab (F' := (mkF 32 0 [(4, .ptr 1 0)])) (H' := ⟨2, [(1, .var 29 [.int .i64 ((Tree.node 6 [] [] []).kind), .str ((Tree.node 6 [] [] []).text), .row 1 (List.map V.str ((Tree.node 6 [] [] []).leads)), .row 4 (kidsV ((Tree.node 6 [] [] []).kids))]), (0, .var 73 [.row 1 (List.map (V.int .i64) r0_2), .int .i64 n0_3])]⟩) [0, 1] [0] rfl hK ⟨⟨_, rfl, .rfl⟩, trivial⟩ ⟨⟨_, rfl, ⟨rfl, (.cons .rfl (.cons .rfl (.cons (.nil 1) (.cons (.nil 4) .nil))))⟩⟩, ⟨⟨_, rfl, ⟨rfl, ah.rfl⟩⟩, trivial⟩⟩ rfl ?_
 exact aC [1] aa (rs := [.cell 4 29]) rfl rfl ⟨rfl, rfl⟩
 refine gF 15 rfl hd rfl ?_
 replace hd := (ne_of_beq_false hd)
 replace h := h.2 hd
 refine gR 7 rfl ?_
 refine gB 17 rfl rfl rfl (fun hd => ?_) (fun hd => ?_)
 refine gT 18 rfl hd rfl ?_
 replace hd := (eq_of_beq hd)
 replace h := h.1 hd
 refine gR 5 rfl ?_
 refine gFR 2 rfl rfl rfl rfl ?_
 obtain ⟨s1_1, r1_2, n1_3, hs9, h⟩ := h
 refine gC hs9 [0] (by kernel_rfl) rfl rfl .rfl ⟨⟨_, rfl, ⟨rfl, ah.rfl⟩⟩, trivial⟩ rfl ?_
 rintro _ _ ⟨rfl, rfl⟩
 refine gR 7 rfl ?_
 obtain ⟨rfl, rfl, rfl⟩ := h
 refine ab (F' := (mkF 32 0 [(4, .ptr 1 0)])) (H' := ⟨2, [(1, .var 29 [.int .i64 ((Tree.node 9 s1_1 [] []).kind), .str ((Tree.node 9 s1_1 [] []).text), .row 1 (List.map V.str ((Tree.node 9 s1_1 [] []).leads)), .row 4 (kidsV ((Tree.node 9 s1_1 [] []).kids))]), (0, .var 73 [.row 1 (List.map (V.int .i64) r1_2), .int .i64 n1_3])]⟩) [0, 1] [0] rfl hK ⟨⟨_, rfl, .rfl⟩, trivial⟩ ⟨⟨_, rfl, ⟨rfl, (.cons .rfl (.cons .rfl (.cons (.nil 1) (.cons (.nil 4) .nil))))⟩⟩, ⟨⟨_, rfl, ⟨rfl, ah.rfl⟩⟩, trivial⟩⟩ rfl ?_
 exact aC [1] aa (rs := [.cell 4 29]) rfl rfl ⟨rfl, rfl⟩
 refine gF 18 rfl hd rfl ?_
 replace hd := (ne_of_beq_false hd)
 replace h := h.2 hd
 refine gR 11 rfl ?_
 refine gB 24 rfl rfl rfl (fun hd => ?_) (fun hd => ?_)
 replace hd := (of_decide_eq_true hd)
 replace h := h.1 hd
 refine gR 9 rfl ?_
 obtain ⟨rfl, rfl, rfl⟩ := h
 refine ab (F' := (mkF 32 0 [(4, .ptr 1 0)])) (H' := ⟨2, [(1, .var 29 [.int .i64 ((Tree.node 5 [] [] []).kind), .str ((Tree.node 5 [] [] []).text), .row 1 (List.map V.str ((Tree.node 5 [] [] []).leads)), .row 4 (kidsV ((Tree.node 5 [] [] []).kids))]), (0, .var 73 [.row 1 (List.map (V.int .i64) r0_2), .int .i64 n0_3])]⟩) [0, 1] [0] rfl hK ⟨⟨_, rfl, .rfl⟩, trivial⟩ ⟨⟨_, rfl, ⟨rfl, (.cons .rfl (.cons .rfl (.cons (.nil 1) (.cons (.nil 4) .nil))))⟩⟩, ⟨⟨_, rfl, ⟨rfl, ah.rfl⟩⟩, trivial⟩⟩ rfl ?_
 exact aC [1] aa (rs := [.cell 4 29]) rfl rfl ⟨rfl, rfl⟩
 replace hd := (of_decide_eq_false hd)
 replace h := h.2 hd
 refine gR 7 rfl ?_
 obtain ⟨hb, h⟩ := h
 refine gR 1 rfl ?_
 refine gV 28 (.int .i64 (p1 - 1)) rfl (ar hb rfl) rfl ?_
 obtain ⟨t1_4, r1_5, n1_6, hs10, h⟩ := h
 refine gC hs10 [0] (by kernel_rfl) rfl rfl .rfl ⟨⟨_, rfl, ⟨rfl, ah.rfl⟩⟩, trivial⟩ rfl ?_
 rintro _ _ ⟨rfl, rfl⟩
 refine gR 1 rfl ?_
 refine gHR 4 (kidsV [t1_4]) rfl (jb t1_4) rfl ?_
 refine gR 5 rfl ?_
 refine gFR 4 rfl (co _) rfl rfl ?_
 obtain ⟨rfl, rfl, rfl⟩ := h
 refine ab (F' := (mkF 32 0 [(4, .ptr 1 0)])) (H' := ⟨2, [(1, .var 29 [.int .i64 ((Tree.node 8 [] [] [t1_4]).kind), .str ((Tree.node 8 [] [] [t1_4]).text), .row 1 (List.map V.str ((Tree.node 8 [] [] [t1_4]).leads)), .row 4 (kidsV ((Tree.node 8 [] [] [t1_4]).kids))]), (0, .var 73 [.row 1 (List.map (V.int .i64) r1_5), .int .i64 n1_6])]⟩) [0, 1] [0] rfl hK ⟨⟨_, rfl, .rfl⟩, trivial⟩ ⟨⟨_, rfl, ⟨rfl, (.cons .rfl (.cons .rfl (.cons (.nil 1) (.cons .rfl .nil))))⟩⟩, ⟨⟨_, rfl, ⟨rfl, ah.rfl⟩⟩, trivial⟩⟩ rfl ?_
 exact aC [1] aa (rs := [.cell 4 29]) rfl rfl ⟨rfl, rfl⟩
theorem lY (m : Nat) (p0_L : (List Int)) (p0_At : Int) (p1 : Int) (r0 : Tree) (q0_L : (List Int)) (q0_At : Int) (h : ∃ (t0_1 : Tree), ∃ (r0_2 : (List Int)), ∃ (n0_3 : Int), aO p0_L p0_At p1 t0_1 r0_2 n0_3 ∧ ∃ (b0_4 : Bool), eV t0_1.kind b0_4 ∧ ((b0_4 = false) → (Tree.node 22 [] [] [t0_1]) = r0 ∧ r0_2 = q0_L ∧ n0_3 = q0_At) ∧ ((b0_4 = true) → t0_1 = r0 ∧ r0_2 = q0_L ∧ n0_3 = q0_At)) : dM p0_L p0_At p1 r0 q0_L q0_At := by
 refine ak 17 [0] Tryz.func102 rfl rfl rfl (aA rfl) fun K hK => ?_
 refine gR 9 rfl ?_
 obtain ⟨t0_1, r0_2, n0_3, hs3, h⟩ := h
 refine gC hs3 [0] (by kernel_rfl) rfl rfl .rfl ⟨⟨_, rfl, ⟨rfl, ah.rfl⟩⟩, trivial⟩ rfl ?_
 rintro _ _ ⟨rfl, rfl⟩
 refine gR 9 rfl ?_
 obtain ⟨b0_4, hs4, h⟩ := h
 refine gC0 hs4 (by kernel_rfl) rfl rfl .rfl rfl ?_
 refine gR 3 rfl ?_
 refine gB 12 rfl rfl rfl (fun hd => ?_) (fun hd => ?_)
 replace hd := (bM hd)
 replace h := h.1 hd
 refine gR 5 rfl ?_
 refine gHR 5 (kidsV [t0_1]) rfl (jb t0_1) rfl ?_
 refine gR 6 rfl ?_
 refine gFR 5 rfl (co _) rfl rfl ?_
 obtain ⟨rfl, rfl, rfl⟩ := h
 refine ab (F' := (mkF 17 0 [(4, .ptr 1 0)])) (H' := ⟨2, [(1, .var 29 [.int .i64 ((Tree.node 22 [] [] [t0_1]).kind), .str ((Tree.node 22 [] [] [t0_1]).text), .row 1 (List.map V.str ((Tree.node 22 [] [] [t0_1]).leads)), .row 4 (kidsV ((Tree.node 22 [] [] [t0_1]).kids))]), (0, .var 73 [.row 1 (List.map (V.int .i64) r0_2), .int .i64 n0_3])]⟩) [0, 1] [0] rfl hK ⟨⟨_, rfl, .rfl⟩, trivial⟩ ⟨⟨_, rfl, ⟨rfl, (.cons .rfl (.cons .rfl (.cons (.nil 1) (.cons .rfl .nil))))⟩⟩, ⟨⟨_, rfl, ⟨rfl, ah.rfl⟩⟩, trivial⟩⟩ rfl ?_
 exact aC [1] aa (rs := [.cell 4 29]) rfl rfl ⟨rfl, rfl⟩
 replace hd := (bL hd)
 replace h := h.2 hd
 refine gR 10 rfl ?_
 obtain ⟨rfl, rfl, rfl⟩ := h
 refine ab (F' := (mkF 17 0 [(4, .ptr 1 0)])) (H' := ⟨2, [(1, .var 29 [.int .i64 t0_1.kind, .str t0_1.text, .row 1 (List.map V.str t0_1.leads), .row 4 (kidsV t0_1.kids)]), (0, .var 73 [.row 1 (List.map (V.int .i64) r0_2), .int .i64 n0_3])]⟩) [0, 1] [0] rfl hK ⟨⟨_, rfl, .rfl⟩, trivial⟩ ⟨⟨_, rfl, ⟨rfl, ah.rfl⟩⟩, ⟨⟨_, rfl, ⟨rfl, ah.rfl⟩⟩, trivial⟩⟩ rfl ?_
 exact aC [1] aa (rs := [.cell 4 29]) rfl rfl ⟨rfl, rfl⟩
def cg (m : Nat) (p1 : Int) (r0_2 : (List Int)) (n0_3 : Int) (z1v1 : Int) (r0 : Tree) (q0_L : (List Int)) (q0_At : Int) : Prop := ∀ (K : Ctx), au K [0] → Go Tryz.prog K (bodyPost Tryz.prog Tryz.f73 (SP K (fun u G => u = .agg (ai r0) ∧ G = ⟨2, [(0, .var 73 [.row 1 (List.map (V.int .i64) q0_L), .int .i64 q0_At])]⟩))) (.code (cB (cB (cB (ae Tryz.f73))))) [] 168 (mkF 168 0 [(0, .ptr 0 0), (1, .int .i64 p1), (4, .ptr 1 0), (5, .int .i64 z1v1)]) ⟨2, [(1, .var 29 [.int .i64 0, .str [], .nils, .nils]), (0, .var 73 [.row 1 (List.map (V.int .i64) r0_2), .int .i64 n0_3])]⟩
def iJ (m : Nat) (p1 : Int) (r0_2 : (List Int)) (n0_3 : Int) (z1v1 : Int) (b2v1 : Bool) (r0 : Tree) (q0_L : (List Int)) (q0_At : Int) : Prop := ∀ (K : Ctx), au K [0] → Go Tryz.prog K (bodyPost Tryz.prog Tryz.f73 (SP K (fun u G => u = .agg (ai r0) ∧ G = ⟨2, [(0, .var 73 [.row 1 (List.map (V.int .i64) q0_L), .int .i64 q0_At])]⟩))) (.code (cB (cK (cB (cA (cB (cB (cB (ae Tryz.f73))))))))) [.blk 0, .seq (cB (cB (cB (cB (ae Tryz.f73)))))] 168 (mkF 168 0 [(0, .ptr 0 0), (1, .int .i64 p1), (4, .ptr 1 0), (24, .int .i64 z1v1), (25, .bool b2v1)]) ⟨2, [(1, .var 29 [.int .i64 0, .str [], .nils, .nils]), (0, .var 73 [.row 1 (List.map (V.int .i64) r0_2), .int .i64 n0_3])]⟩
def f7 (m : Nat) (p1 : Int) (r0_2 : (List Int)) (n0_3 : Int) (z1v1 : Int) (r0 : Tree) (q0_L : (List Int)) (q0_At : Int) : Prop := ∀ (K : Ctx), au K [0] → Go Tryz.prog K (bodyPost Tryz.prog Tryz.f73 (SP K (fun u G => u = .agg (ai r0) ∧ G = ⟨2, [(0, .var 73 [.row 1 (List.map (V.int .i64) q0_L), .int .i64 q0_At])]⟩))) (.code (cE (cB (cK (cB (cA (cB (cB (cB (ae Tryz.f73)))))))))) [.blk 0, .seq (cB (cB (cB (cB (ae Tryz.f73)))))] 168 (mkF 168 0 [(0, .ptr 0 0), (1, .int .i64 p1), (4, .ptr 1 0), (24, .int .i64 z1v1)]) ⟨2, [(1, .var 29 [.int .i64 0, .str [], .nils, .nils]), (0, .var 73 [.row 1 (List.map (V.int .i64) r0_2), .int .i64 n0_3])]⟩
def lX (m : Nat) (p1 : Int) (r0_2 : (List Int)) (n0_3 : Int) (z1v1 : Int) (r0 : Tree) (q0_L : (List Int)) (q0_At : Int) : Prop := ∀ (K : Ctx), au K [0] → Go Tryz.prog K (bodyPost Tryz.prog Tryz.f73 (SP K (fun u G => u = .agg (ai r0) ∧ G = ⟨2, [(0, .var 73 [.row 1 (List.map (V.int .i64) q0_L), .int .i64 q0_At])]⟩))) (.code (cE (cB (cE (cB (cK (cB (cA (cB (cB (cB (ae Tryz.f73)))))))))))) [.blk 0, .seq (cB (cB (cB (cB (ae Tryz.f73)))))] 168 (mkF 168 0 [(0, .ptr 0 0), (1, .int .i64 p1), (4, .ptr 1 0), (24, .int .i64 z1v1)]) ⟨2, [(1, .var 29 [.int .i64 0, .str [], .nils, .nils]), (0, .var 73 [.row 1 (List.map (V.int .i64) r0_2), .int .i64 n0_3])]⟩
def lU (m : Nat) (p1 : Int) (r0_2 : (List Int)) (n0_3 : Int) (z1v1 : Int) (r0 : Tree) (q0_L : (List Int)) (q0_At : Int) : Prop := ∀ (K : Ctx), au K [0] → Go Tryz.prog K (bodyPost Tryz.prog Tryz.f73 (SP K (fun u G => u = .agg (ai r0) ∧ G = ⟨2, [(0, .var 73 [.row 1 (List.map (V.int .i64) q0_L), .int .i64 q0_At])]⟩))) (.code (cE (cB (cE (cB (cE (cB (cK (cB (cA (cB (cB (cB (ae Tryz.f73)))))))))))))) [.blk 0, .seq (cB (cB (cB (cB (ae Tryz.f73)))))] 168 (mkF 168 0 [(0, .ptr 0 0), (1, .int .i64 p1), (4, .ptr 1 0), (24, .int .i64 z1v1)]) ⟨2, [(1, .var 29 [.int .i64 0, .str [], .nils, .nils]), (0, .var 73 [.row 1 (List.map (V.int .i64) r0_2), .int .i64 n0_3])]⟩
def lW (m : Nat) (p1 : Int) (r0_2 : (List Int)) (n0_3 : Int) (z1v1 : Int) (r0 : Tree) (q0_L : (List Int)) (q0_At : Int) : Prop := ∀ (K : Ctx), au K [0] → Go Tryz.prog K (bodyPost Tryz.prog Tryz.f73 (SP K (fun u G => u = .agg (ai r0) ∧ G = ⟨2, [(0, .var 73 [.row 1 (List.map (V.int .i64) q0_L), .int .i64 q0_At])]⟩))) (.code (cE (cB (cE (cB (cE (cB (cE (cB (cK (cB (cA (cB (cB (cB (ae Tryz.f73)))))))))))))))) [.blk 0, .seq (cB (cB (cB (cB (ae Tryz.f73)))))] 168 (mkF 168 0 [(0, .ptr 0 0), (1, .int .i64 p1), (4, .ptr 1 0), (24, .int .i64 z1v1)]) ⟨2, [(1, .var 29 [.int .i64 0, .str [], .nils, .nils]), (0, .var 73 [.row 1 (List.map (V.int .i64) r0_2), .int .i64 n0_3])]⟩
def fV (m : Nat) (p1 : Int) (r0_2 : (List Int)) (n0_3 : Int) (z1v1 : Int) (r0 : Tree) (q0_L : (List Int)) (q0_At : Int) : Prop := ∀ (K : Ctx), au K [0] → Go Tryz.prog K (bodyPost Tryz.prog Tryz.f73 (SP K (fun u G => u = .agg (ai r0) ∧ G = ⟨2, [(0, .var 73 [.row 1 (List.map (V.int .i64) q0_L), .int .i64 q0_At])]⟩))) (.code (cE (cB (cE (cB (cE (cB (cE (cB (cE (cB (cK (cB (cA (cB (cB (cB (ae Tryz.f73)))))))))))))))))) [.blk 0, .seq (cB (cB (cB (cB (ae Tryz.f73)))))] 168 (mkF 168 0 [(0, .ptr 0 0), (1, .int .i64 p1), (4, .ptr 1 0), (24, .int .i64 z1v1)]) ⟨2, [(1, .var 29 [.int .i64 0, .str [], .nils, .nils]), (0, .var 73 [.row 1 (List.map (V.int .i64) r0_2), .int .i64 n0_3])]⟩
def iM (m : Nat) (p1 : Int) (r0_2 : (List Int)) (n0_3 : Int) (z1v1 : Int) (b8v1 : Bool) (r0 : Tree) (q0_L : (List Int)) (q0_At : Int) : Prop := ∀ (K : Ctx), au K [0] → Go Tryz.prog K (bodyPost Tryz.prog Tryz.f73 (SP K (fun u G => u = .agg (ai r0) ∧ G = ⟨2, [(0, .var 73 [.row 1 (List.map (V.int .i64) q0_L), .int .i64 q0_At])]⟩))) (.code (cB (cE (cB (cE (cB (cE (cB (cE (cB (cE (cB (cK (cB (cA (cB (cB (cB (ae Tryz.f73))))))))))))))))))) [.blk 0, .seq (cB (cB (cB (cB (ae Tryz.f73)))))] 168 (mkF 168 0 [(0, .ptr 0 0), (1, .int .i64 p1), (4, .ptr 1 0), (24, .int .i64 z1v1), (57, .bool b8v1)]) ⟨2, [(1, .var 29 [.int .i64 0, .str [], .nils, .nils]), (0, .var 73 [.row 1 (List.map (V.int .i64) r0_2), .int .i64 n0_3])]⟩
def iS (m : Nat) (p1 : Int) (r0_2 : (List Int)) (n0_3 : Int) (r0 : Tree) (q0_L : (List Int)) (q0_At : Int) : Prop := ∀ (K : Ctx), au K [0] → Go Tryz.prog K (bodyPost Tryz.prog Tryz.f73 (SP K (fun u G => u = .agg (ai r0) ∧ G = ⟨2, [(0, .var 73 [.row 1 (List.map (V.int .i64) q0_L), .int .i64 q0_At])]⟩))) (.code (cT (cB (cE (cB (cE (cB (cE (cB (cE (cB (cE (cB (cK (cB (cA (cB (cB (cB (ae Tryz.f73)))))))))))))))))))) [.blk 0, .seq (cB (cB (cB (cB (ae Tryz.f73)))))] 168 (mkF 168 0 [(0, .ptr 0 0), (1, .int .i64 p1), (4, .ptr 1 0)]) ⟨2, [(1, .var 29 [.int .i64 0, .str [], .nils, .nils]), (0, .var 73 [.row 1 (List.map (V.int .i64) r0_2), .int .i64 n0_3])]⟩
def ei (m : Nat) (p1 : Int) (r0_2 : (List Int)) (n0_3 : Int) (z1v1 : Int) (r0 : Tree) (q0_L : (List Int)) (q0_At : Int) : Prop := ∀ (K : Ctx), au K [0] → Go Tryz.prog K (bodyPost Tryz.prog Tryz.f73 (SP K (fun u G => u = .agg (ai r0) ∧ G = ⟨2, [(0, .var 73 [.row 1 (List.map (V.int .i64) q0_L), .int .i64 q0_At])]⟩))) (.code (cE (cB (cE (cB (cE (cB (cE (cB (cE (cB (cE (cB (cK (cB (cA (cB (cB (cB (ae Tryz.f73)))))))))))))))))))) [.blk 0, .seq (cB (cB (cB (cB (ae Tryz.f73)))))] 168 (mkF 168 0 [(0, .ptr 0 0), (1, .int .i64 p1), (4, .ptr 1 0), (24, .int .i64 z1v1)]) ⟨2, [(1, .var 29 [.int .i64 0, .str [], .nils, .nils]), (0, .var 73 [.row 1 (List.map (V.int .i64) r0_2), .int .i64 n0_3])]⟩
def fx (m : Nat) (p1 : Int) (s9_1 : (List UInt8)) (l11v1 : (List Int)) (z11v2 : Int) (l11v3 : (List Tree)) (z11v4 : Int) (r0 : Tree) (q0_L : (List Int)) (q0_At : Int) : Prop := ∀ (K : Ctx) (j1 : Nat), au K [0] → m ≤ j1 → Go Tryz.prog K (bodyPost Tryz.prog Tryz.f73 (SP K (fun u G => u = .agg (ai r0) ∧ G = ⟨2, [(0, .var 73 [.row 1 (List.map (V.int .i64) q0_L), .int .i64 q0_At])]⟩))) (.code (cL (cK (cB (cA (cB (cT (cB (cE (cB (cE (cB (cE (cB (cE (cB (cE (cB (cK (cB (cA (cB (cB (cB (ae Tryz.f73))))))))))))))))))))))))) [.loop (cL (cK (cB (cA (cB (cT (cB (cE (cB (cE (cB (cE (cB (cE (cB (cE (cB (cK (cB (cA (cB (cB (cB (ae Tryz.f73)))))))))))))))))))))))) j1, .blk 1, .seq (cB (cB (cT (cB (cE (cB (cE (cB (cE (cB (cE (cB (cE (cB (cK (cB (cA (cB (cB (cB (ae Tryz.f73))))))))))))))))))))), .blk 0, .seq (cB (cB (cB (cB (ae Tryz.f73)))))] 168 (mkF 168 0 [(0, .ptr 0 0), (1, .int .i64 p1), (4, .ptr 1 0), (6, .ptr 2 0), (7, .int .i64 z11v4)]) ⟨4, [(3, .row 29 4 (kidsV l11v3)), (2, .var 29 [.int .i64 16, .str s9_1, .nils, .sl 3]), (1, .var 29 [.int .i64 0, .str [], .nils, .nils]), (0, .var 73 [.row 1 (List.map (V.int .i64) l11v1), .int .i64 z11v2])]⟩
def fC (m : Nat) (p1 : Int) (l12v1 : (List Int)) (z12v2 : Int) (l12v3 : (List Tree)) (z12v4 : Int) (r0 : Tree) (q0_L : (List Int)) (q0_At : Int) : Prop := ∀ (K : Ctx) (j1 : Nat), au K [0] → m ≤ j1 → Go Tryz.prog K (bodyPost Tryz.prog Tryz.f73 (SP K (fun u G => u = .agg (ai r0) ∧ G = ⟨2, [(0, .var 73 [.row 1 (List.map (V.int .i64) q0_L), .int .i64 q0_At])]⟩))) (.code (cL (cK (cB (cA (cB (cT (cB (cE (cB (cE (cB (cE (cB (cE (cB (cE (cB (cE (cB (cK (cB (cA (cB (cB (cB (ae Tryz.f73))))))))))))))))))))))))))) [.loop (cL (cK (cB (cA (cB (cT (cB (cE (cB (cE (cB (cE (cB (cE (cB (cE (cB (cE (cB (cK (cB (cA (cB (cB (cB (ae Tryz.f73)))))))))))))))))))))))))) j1, .blk 3, .seq (cB (cB (cT (cB (cE (cB (cE (cB (cE (cB (cE (cB (cE (cB (cE (cB (cK (cB (cA (cB (cB (cB (ae Tryz.f73))))))))))))))))))))))), .blk 0, .seq (cB (cB (cB (cB (ae Tryz.f73)))))] 168 (mkF 168 0 [(0, .ptr 0 0), (1, .int .i64 p1), (4, .ptr 1 0), (8, .ptr 2 0), (9, .int .i64 z12v4)]) ⟨4, [(3, .row 29 4 (kidsV l12v3)), (2, .var 29 [.int .i64 18, .str [], .nils, .sl 3]), (1, .var 29 [.int .i64 0, .str [], .nils, .nils]), (0, .var 73 [.row 1 (List.map (V.int .i64) l12v1), .int .i64 z12v2])]⟩
def fu (m : Nat) (p1 : Int) (r0_2 : (List Int)) (n0_3 : Int) (z1v1 : Int) (r0 : Tree) (q0_L : (List Int)) (q0_At : Int) : Prop := ∀ (K : Ctx), au K [0] → Go Tryz.prog K (bodyPost Tryz.prog Tryz.f73 (SP K (fun u G => u = .agg (ai r0) ∧ G = ⟨2, [(0, .var 73 [.row 1 (List.map (V.int .i64) q0_L), .int .i64 q0_At])]⟩))) (.code (cE (cB (cE (cB (cE (cB (cE (cB (cE (cB (cE (cB (cE (cB (cK (cB (cA (cB (cB (cB (ae Tryz.f73)))))))))))))))))))))) [.blk 0, .seq (cB (cB (cB (cB (ae Tryz.f73)))))] 168 (mkF 168 0 [(0, .ptr 0 0), (1, .int .i64 p1), (4, .ptr 1 0), (24, .int .i64 z1v1)]) ⟨2, [(1, .var 29 [.int .i64 0, .str [], .nils, .nils]), (0, .var 73 [.row 1 (List.map (V.int .i64) r0_2), .int .i64 n0_3])]⟩
def ld (m : Nat) (p1 : Int) (r0_2 : (List Int)) (n0_3 : Int) (r0 : Tree) (q0_L : (List Int)) (q0_At : Int) : Prop := ∀ (K : Ctx), au K [0] → Go Tryz.prog K (bodyPost Tryz.prog Tryz.f73 (SP K (fun u G => u = .agg (ai r0) ∧ G = ⟨2, [(0, .var 73 [.row 1 (List.map (V.int .i64) q0_L), .int .i64 q0_At])]⟩))) (.code (cT (cB (cE (cB (cE (cB (cE (cB (cE (cB (cE (cB (cE (cB (cE (cB (cK (cB (cA (cB (cB (cB (ae Tryz.f73)))))))))))))))))))))))) [.blk 0, .seq (cB (cB (cB (cB (ae Tryz.f73)))))] 168 (mkF 168 0 [(0, .ptr 0 0), (1, .int .i64 p1), (4, .ptr 1 0)]) ⟨2, [(1, .var 29 [.int .i64 0, .str [], .nils, .nils]), (0, .var 73 [.row 1 (List.map (V.int .i64) r0_2), .int .i64 n0_3])]⟩
def dZ (m : Nat) (p1 : Int) (r0_2 : (List Int)) (n0_3 : Int) (z1v1 : Int) (r0 : Tree) (q0_L : (List Int)) (q0_At : Int) : Prop := ∀ (K : Ctx), au K [0] → Go Tryz.prog K (bodyPost Tryz.prog Tryz.f73 (SP K (fun u G => u = .agg (ai r0) ∧ G = ⟨2, [(0, .var 73 [.row 1 (List.map (V.int .i64) q0_L), .int .i64 q0_At])]⟩))) (.code (cE (cB (cE (cB (cE (cB (cE (cB (cE (cB (cE (cB (cE (cB (cE (cB (cK (cB (cA (cB (cB (cB (ae Tryz.f73)))))))))))))))))))))))) [.blk 0, .seq (cB (cB (cB (cB (ae Tryz.f73)))))] 168 (mkF 168 0 [(0, .ptr 0 0), (1, .int .i64 p1), (4, .ptr 1 0), (24, .int .i64 z1v1)]) ⟨2, [(1, .var 29 [.int .i64 0, .str [], .nils, .nils]), (0, .var 73 [.row 1 (List.map (V.int .i64) r0_2), .int .i64 n0_3])]⟩
def ij (m : Nat) (p1 : Int) (r0_2 : (List Int)) (n0_3 : Int) (z1v1 : Int) (b16v1 : Bool) (r0 : Tree) (q0_L : (List Int)) (q0_At : Int) : Prop := ∀ (K : Ctx), au K [0] → Go Tryz.prog K (bodyPost Tryz.prog Tryz.f73 (SP K (fun u G => u = .agg (ai r0) ∧ G = ⟨2, [(0, .var 73 [.row 1 (List.map (V.int .i64) q0_L), .int .i64 q0_At])]⟩))) (.code (cB (cE (cB (cE (cB (cE (cB (cE (cB (cE (cB (cE (cB (cE (cB (cE (cB (cK (cB (cA (cB (cB (cB (ae Tryz.f73))))))))))))))))))))))))) [.blk 0, .seq (cB (cB (cB (cB (ae Tryz.f73)))))] 168 (mkF 168 0 [(0, .ptr 0 0), (1, .int .i64 p1), (4, .ptr 1 0), (24, .int .i64 z1v1), (118, .bool b16v1)]) ⟨2, [(1, .var 29 [.int .i64 0, .str [], .nils, .nils]), (0, .var 73 [.row 1 (List.map (V.int .i64) r0_2), .int .i64 n0_3])]⟩
def iq (m : Nat) (p1 : Int) (r0_2 : (List Int)) (n0_3 : Int) (r0 : Tree) (q0_L : (List Int)) (q0_At : Int) : Prop := ∀ (K : Ctx), au K [0] → Go Tryz.prog K (bodyPost Tryz.prog Tryz.f73 (SP K (fun u G => u = .agg (ai r0) ∧ G = ⟨2, [(0, .var 73 [.row 1 (List.map (V.int .i64) q0_L), .int .i64 q0_At])]⟩))) (.code (cT (cB (cE (cB (cE (cB (cE (cB (cE (cB (cE (cB (cE (cB (cE (cB (cE (cB (cK (cB (cA (cB (cB (cB (ae Tryz.f73)))))))))))))))))))))))))) [.blk 0, .seq (cB (cB (cB (cB (ae Tryz.f73)))))] 168 (mkF 168 0 [(0, .ptr 0 0), (1, .int .i64 p1), (4, .ptr 1 0)]) ⟨2, [(1, .var 29 [.int .i64 0, .str [], .nils, .nils]), (0, .var 73 [.row 1 (List.map (V.int .i64) r0_2), .int .i64 n0_3])]⟩
def fB (m : Nat) (p1 : Int) (r0_2 : (List Int)) (n0_3 : Int) (z1v1 : Int) (r0 : Tree) (q0_L : (List Int)) (q0_At : Int) : Prop := ∀ (K : Ctx), au K [0] → Go Tryz.prog K (bodyPost Tryz.prog Tryz.f73 (SP K (fun u G => u = .agg (ai r0) ∧ G = ⟨2, [(0, .var 73 [.row 1 (List.map (V.int .i64) q0_L), .int .i64 q0_At])]⟩))) (.code (cE (cB (cE (cB (cE (cB (cE (cB (cE (cB (cE (cB (cE (cB (cE (cB (cE (cB (cK (cB (cA (cB (cB (cB (ae Tryz.f73)))))))))))))))))))))))))) [.blk 0, .seq (cB (cB (cB (cB (ae Tryz.f73)))))] 168 (mkF 168 0 [(0, .ptr 0 0), (1, .int .i64 p1), (4, .ptr 1 0), (24, .int .i64 z1v1)]) ⟨2, [(1, .var 29 [.int .i64 0, .str [], .nils, .nils]), (0, .var 73 [.row 1 (List.map (V.int .i64) r0_2), .int .i64 n0_3])]⟩
def lj (m : Nat) (p1 : Int) (r0_2 : (List Int)) (n0_3 : Int) (r0 : Tree) (q0_L : (List Int)) (q0_At : Int) : Prop := ∀ (K : Ctx), au K [0] → Go Tryz.prog K (bodyPost Tryz.prog Tryz.f73 (SP K (fun u G => u = .agg (ai r0) ∧ G = ⟨2, [(0, .var 73 [.row 1 (List.map (V.int .i64) q0_L), .int .i64 q0_At])]⟩))) (.code (cT (cB (cE (cB (cE (cB (cE (cB (cE (cB (cE (cB (cE (cB (cE (cB (cE (cB (cE (cB (cK (cB (cA (cB (cB (cB (ae Tryz.f73)))))))))))))))))))))))))))) [.blk 0, .seq (cB (cB (cB (cB (ae Tryz.f73)))))] 168 (mkF 168 0 [(0, .ptr 0 0), (1, .int .i64 p1), (4, .ptr 1 0)]) ⟨2, [(1, .var 29 [.int .i64 0, .str [], .nils, .nils]), (0, .var 73 [.row 1 (List.map (V.int .i64) r0_2), .int .i64 n0_3])]⟩
theorem fU (m : Nat) (p0_L : (List Int)) (p0_At : Int) (p1 : Int) (r0 : Tree) (q0_L : (List Int)) (q0_At : Int) (h : ∃ (n0_1 : Int), ∃ (r0_2 : (List Int)), ∃ (n0_3 : Int), aF p0_L p0_At 14 n0_1 r0_2 n0_3 ∧ ((p1 < 1) → ((5 < n0_1) → InI (n0_1 - 6) ∧ ((5 < (n0_1 - 6)) → cg m p1 r0_2 n0_3 0 r0 q0_L q0_At) ∧ ((¬ 5 < (n0_1 - 6)) → cg m p1 r0_2 n0_3 (n0_1 - 6) r0 q0_L q0_At)) ∧ ((¬ 5 < n0_1) → cg m p1 r0_2 n0_3 n0_1 r0 q0_L q0_At)) ∧ ((¬ p1 < 1) → cg m p1 r0_2 n0_3 n0_1 r0 q0_L q0_At)) : aO p0_L p0_At p1 r0 q0_L q0_At := by
 refine ak 168 [0] Tryz.func73 rfl rfl rfl (aA rfl) fun K hK => ?_
 refine gR 8 rfl ?_
 obtain ⟨n0_1, r0_2, n0_3, hs75, h⟩ := h
 refine gC hs75 [0] (by kernel_rfl) rfl rfl .rfl ⟨⟨_, rfl, ⟨rfl, ah.rfl⟩⟩, trivial⟩ rfl ?_
 rintro _ _ ⟨rfl, rfl⟩
 refine gR 9 rfl ?_
 refine gB 16 rfl rfl rfl (fun hd => ?_) (fun hd => ?_)
 refine gT 15 rfl hd rfl ?_
 replace hd := (of_decide_eq_true hd)
 replace h := h.1 hd
 refine gR 5 rfl ?_
 refine gB 19 rfl rfl rfl (fun hd => ?_) (fun hd => ?_)
 replace hd := (of_decide_eq_true hd)
 replace h := h.1 hd
 refine gR 4 rfl ?_
 obtain ⟨hb, h⟩ := h
 refine gR 1 rfl ?_
 refine gV 21 (.int .i64 (n0_1 - 6)) rfl (ar hb rfl) rfl ?_
 refine gR 9 rfl ?_
 refine gB 23 rfl rfl rfl (fun hd => ?_) (fun hd => ?_)
 replace hd := (of_decide_eq_true hd)
 replace h := h.1 hd
 refine gR 5 rfl ?_
 exact gJ (h K hK) [0, 1] [0] rfl hK ⟨⟨_, rfl, .rfl⟩, ⟨_, rfl, .rfl⟩, ⟨_, rfl, .rfl⟩, ⟨_, rfl, .rfl⟩, trivial⟩ ⟨⟨_, rfl, ⟨rfl, ah.rfl⟩⟩, ⟨⟨_, rfl, ⟨rfl, ah.rfl⟩⟩, trivial⟩⟩ rfl
 replace hd := (of_decide_eq_false hd)
 replace h := h.2 hd
 refine gR 3 rfl ?_
 exact gJ (h K hK) [0, 1] [0] rfl hK ⟨⟨_, rfl, .rfl⟩, ⟨_, rfl, .rfl⟩, ⟨_, rfl, .rfl⟩, ⟨_, rfl, .rfl⟩, trivial⟩ ⟨⟨_, rfl, ⟨rfl, ah.rfl⟩⟩, ⟨⟨_, rfl, ⟨rfl, ah.rfl⟩⟩, trivial⟩⟩ rfl
 replace hd := (of_decide_eq_false hd)
 replace h := h.2 hd
 refine gR 3 rfl ?_
 exact gJ (h K hK) [0, 1] [0] rfl hK ⟨⟨_, rfl, .rfl⟩, ⟨_, rfl, .rfl⟩, ⟨_, rfl, .rfl⟩, ⟨_, rfl, .rfl⟩, trivial⟩ ⟨⟨_, rfl, ⟨rfl, ah.rfl⟩⟩, ⟨⟨_, rfl, ⟨rfl, ah.rfl⟩⟩, trivial⟩⟩ rfl
 refine gF 15 rfl hd rfl ?_
 replace hd := (of_decide_eq_false hd)
 replace h := h.2 hd
 refine gR 8 rfl ?_
 exact gJ (h K hK) [0, 1] [0] rfl hK ⟨⟨_, rfl, .rfl⟩, ⟨_, rfl, .rfl⟩, ⟨_, rfl, .rfl⟩, ⟨_, rfl, .rfl⟩, trivial⟩ ⟨⟨_, rfl, ⟨rfl, ah.rfl⟩⟩, ⟨⟨_, rfl, ⟨rfl, ah.rfl⟩⟩, trivial⟩⟩ rfl
theorem rL0_semvcsmake_Expr (m : Nat) (p1 : Int) (r0_2 : (List Int)) (n0_3 : Int) (z1v1 : Int) (r0 : Tree) (q0_L : (List Int)) (q0_At : Int) (h : ((z1v1 = 0) → iJ m p1 r0_2 n0_3 z1v1 true r0 q0_L q0_At) ∧ ((z1v1 ≠ 0) → iJ m p1 r0_2 n0_3 z1v1 (z1v1 == 1) r0 q0_L q0_At)) : cg (m + 1) p1 r0_2 n0_3 z1v1 r0 q0_L q0_At := by
 intro K hK
 refine gR 14 rfl ?_
 refine gB 25 rfl rfl rfl (fun hd => ?_) (fun hd => ?_)
 refine gT 26 rfl hd rfl ?_
 replace hd := (eq_of_beq hd)
 replace h := h.1 hd
 refine gR 3 rfl ?_
 exact gJ (h K hK) [0, 1] [0] rfl hK ⟨⟨_, rfl, .rfl⟩, ⟨_, rfl, .rfl⟩, ⟨_, rfl, .rfl⟩, ⟨_, rfl, .rfl⟩, ⟨_, rfl, .rfl⟩, trivial⟩ ⟨⟨_, rfl, ⟨rfl, ah.rfl⟩⟩, ⟨⟨_, rfl, ⟨rfl, ah.rfl⟩⟩, trivial⟩⟩ rfl
 refine gF 26 rfl hd rfl ?_
 replace hd := (ne_of_beq_false hd)
 replace h := h.2 hd
 refine gR 6 rfl ?_
 exact gJ (h K hK) [0, 1] [0] rfl hK ⟨⟨_, rfl, .rfl⟩, ⟨_, rfl, .rfl⟩, ⟨_, rfl, .rfl⟩, ⟨_, rfl, .rfl⟩, ⟨_, rfl, .rfl⟩, trivial⟩ ⟨⟨_, rfl, ⟨rfl, ah.rfl⟩⟩, ⟨⟨_, rfl, ⟨rfl, ah.rfl⟩⟩, trivial⟩⟩ rfl
theorem io (m : Nat) (p1 : Int) (r0_2 : (List Int)) (n0_3 : Int) (z1v1 : Int) (b2v1 : Bool) (r0 : Tree) (q0_L : (List Int)) (q0_At : Int) (h : ((b2v1 = true) → ∃ (s2_1 : (List UInt8)), ∃ (r2_2 : (List Int)), ∃ (n2_3 : Int), be r0_2 n0_3 [[120], [121], [122]] s2_1 r2_2 n2_3 ∧ (Tree.node 12 s2_1 [] []) = r0 ∧ r2_2 = q0_L ∧ n2_3 = q0_At) ∧ ((b2v1 = false) → f7 m p1 r0_2 n0_3 z1v1 r0 q0_L q0_At)) : iJ (m + 1) p1 r0_2 n0_3 z1v1 b2v1 r0 q0_L q0_At := by
 intro K hK
 refine gB 25 rfl rfl rfl (fun hd => ?_) (fun hd => ?_)
 replace h := h.1 hd
 refine gR 5 rfl ?_
 refine gFR 2 rfl rfl rfl rfl ?_
 obtain ⟨s2_1, r2_2, n2_3, hs76, h⟩ := h
 refine gC hs76 [0] (by kernel_rfl) rfl rfl .rfl ⟨⟨_, rfl, ⟨rfl, ah.rfl⟩⟩, trivial⟩ rfl ?_
 rintro _ _ ⟨rfl, rfl⟩
 refine gR 7 rfl ?_
 obtain ⟨rfl, rfl, rfl⟩ := h
 refine ab (F' := (mkF 168 0 [(4, .ptr 1 0)])) (H' := ⟨2, [(1, .var 29 [.int .i64 ((Tree.node 12 s2_1 [] []).kind), .str ((Tree.node 12 s2_1 [] []).text), .row 1 (List.map V.str ((Tree.node 12 s2_1 [] []).leads)), .row 4 (kidsV ((Tree.node 12 s2_1 [] []).kids))]), (0, .var 73 [.row 1 (List.map (V.int .i64) r2_2), .int .i64 n2_3])]⟩) [0, 1] [0] rfl hK ⟨⟨_, rfl, .rfl⟩, trivial⟩ ⟨⟨_, rfl, ⟨rfl, (.cons .rfl (.cons .rfl (.cons (.nil 1) (.cons (.nil 4) .nil))))⟩⟩, ⟨⟨_, rfl, ⟨rfl, ah.rfl⟩⟩, trivial⟩⟩ rfl ?_
 exact aC [1] aa (rs := [.cell 4 29]) rfl rfl ⟨rfl, rfl⟩
 replace h := h.2 hd
 refine gR 1 rfl ?_
 exact gJ (h K hK) [0, 1] [0] rfl hK ⟨⟨_, rfl, .rfl⟩, ⟨_, rfl, .rfl⟩, ⟨_, rfl, .rfl⟩, ⟨_, rfl, .rfl⟩, trivial⟩ ⟨⟨_, rfl, ⟨rfl, ah.rfl⟩⟩, ⟨⟨_, rfl, ⟨rfl, ah.rfl⟩⟩, trivial⟩⟩ rfl
theorem rL2_semvcsmake_Expr (m : Nat) (p1 : Int) (r0_2 : (List Int)) (n0_3 : Int) (z1v1 : Int) (r0 : Tree) (q0_L : (List Int)) (q0_At : Int) (h : ((z1v1 = 2) → ∃ (s3_1 : (List UInt8)), ∃ (r3_2 : (List Int)), ∃ (n3_3 : Int), be r0_2 n0_3 [[48], [49], [50], [49, 48]] s3_1 r3_2 n3_3 ∧ (Tree.node 10 s3_1 [] []) = r0 ∧ r3_2 = q0_L ∧ n3_3 = q0_At) ∧ ((z1v1 ≠ 2) → lX m p1 r0_2 n0_3 z1v1 r0 q0_L q0_At)) : f7 (m + 1) p1 r0_2 n0_3 z1v1 r0 q0_L q0_At := by
 intro K hK
 refine gR 6 rfl ?_
 refine gB 32 rfl rfl rfl (fun hd => ?_) (fun hd => ?_)
 refine gT 33 rfl hd rfl ?_
 replace hd := (eq_of_beq hd)
 replace h := h.1 hd
 refine gR 5 rfl ?_
 refine gFR 2 rfl rfl rfl rfl ?_
 obtain ⟨s3_1, r3_2, n3_3, hs77, h⟩ := h
 refine gC hs77 [0] (by kernel_rfl) rfl rfl .rfl ⟨⟨_, rfl, ⟨rfl, ah.rfl⟩⟩, trivial⟩ rfl ?_
 rintro _ _ ⟨rfl, rfl⟩
 refine gR 7 rfl ?_
 obtain ⟨rfl, rfl, rfl⟩ := h
 refine ab (F' := (mkF 168 0 [(4, .ptr 1 0)])) (H' := ⟨2, [(1, .var 29 [.int .i64 ((Tree.node 10 s3_1 [] []).kind), .str ((Tree.node 10 s3_1 [] []).text), .row 1 (List.map V.str ((Tree.node 10 s3_1 [] []).leads)), .row 4 (kidsV ((Tree.node 10 s3_1 [] []).kids))]), (0, .var 73 [.row 1 (List.map (V.int .i64) r3_2), .int .i64 n3_3])]⟩) [0, 1] [0] rfl hK ⟨⟨_, rfl, .rfl⟩, trivial⟩ ⟨⟨_, rfl, ⟨rfl, (.cons .rfl (.cons .rfl (.cons (.nil 1) (.cons (.nil 4) .nil))))⟩⟩, ⟨⟨_, rfl, ⟨rfl, ah.rfl⟩⟩, trivial⟩⟩ rfl ?_
 exact aC [1] aa (rs := [.cell 4 29]) rfl rfl ⟨rfl, rfl⟩
 refine gF 33 rfl hd rfl ?_
 replace hd := (ne_of_beq_false hd)
 replace h := h.2 hd
 refine gR 1 rfl ?_
 exact gJ (h K hK) [0, 1] [0] rfl hK ⟨⟨_, rfl, .rfl⟩, ⟨_, rfl, .rfl⟩, ⟨_, rfl, .rfl⟩, ⟨_, rfl, .rfl⟩, trivial⟩ ⟨⟨_, rfl, ⟨rfl, ah.rfl⟩⟩, ⟨⟨_, rfl, ⟨rfl, ah.rfl⟩⟩, trivial⟩⟩ rfl
theorem d0 (m : Nat) (p1 : Int) (r0_2 : (List Int)) (n0_3 : Int) (z1v1 : Int) (r0 : Tree) (q0_L : (List Int)) (q0_At : Int) (h : ((z1v1 = 3) → ∃ (s4_1 : (List UInt8)), ∃ (r4_2 : (List Int)), ∃ (n4_3 : Int), be r0_2 n0_3 [[34, 34], [34, 97, 34], [34, 35, 32, 98, 34]] s4_1 r4_2 n4_3 ∧ (Tree.node 11 s4_1 [] []) = r0 ∧ r4_2 = q0_L ∧ n4_3 = q0_At) ∧ ((z1v1 ≠ 3) → lU m p1 r0_2 n0_3 z1v1 r0 q0_L q0_At)) : lX (m + 1) p1 r0_2 n0_3 z1v1 r0 q0_L q0_At := by
 intro K hK
 refine gR 6 rfl ?_
 refine gB 38 rfl rfl rfl (fun hd => ?_) (fun hd => ?_)
 refine gT 39 rfl hd rfl ?_
 replace hd := (eq_of_beq hd)
 replace h := h.1 hd
 refine gR 5 rfl ?_
 refine gFR 2 rfl rfl rfl rfl ?_
 obtain ⟨s4_1, r4_2, n4_3, hs78, h⟩ := h
 refine gC hs78 [0] (by kernel_rfl) rfl rfl .rfl ⟨⟨_, rfl, ⟨rfl, ah.rfl⟩⟩, trivial⟩ rfl ?_
 rintro _ _ ⟨rfl, rfl⟩
 refine gR 7 rfl ?_
 obtain ⟨rfl, rfl, rfl⟩ := h
 refine ab (F' := (mkF 168 0 [(4, .ptr 1 0)])) (H' := ⟨2, [(1, .var 29 [.int .i64 ((Tree.node 11 s4_1 [] []).kind), .str ((Tree.node 11 s4_1 [] []).text), .row 1 (List.map V.str ((Tree.node 11 s4_1 [] []).leads)), .row 4 (kidsV ((Tree.node 11 s4_1 [] []).kids))]), (0, .var 73 [.row 1 (List.map (V.int .i64) r4_2), .int .i64 n4_3])]⟩) [0, 1] [0] rfl hK ⟨⟨_, rfl, .rfl⟩, trivial⟩ ⟨⟨_, rfl, ⟨rfl, (.cons .rfl (.cons .rfl (.cons (.nil 1) (.cons (.nil 4) .nil))))⟩⟩, ⟨⟨_, rfl, ⟨rfl, ah.rfl⟩⟩, trivial⟩⟩ rfl ?_
 exact aC [1] aa (rs := [.cell 4 29]) rfl rfl ⟨rfl, rfl⟩
 refine gF 39 rfl hd rfl ?_
 replace hd := (ne_of_beq_false hd)
 replace h := h.2 hd
 refine gR 1 rfl ?_
 exact gJ (h K hK) [0, 1] [0] rfl hK ⟨⟨_, rfl, .rfl⟩, ⟨_, rfl, .rfl⟩, ⟨_, rfl, .rfl⟩, ⟨_, rfl, .rfl⟩, trivial⟩ ⟨⟨_, rfl, ⟨rfl, ah.rfl⟩⟩, ⟨⟨_, rfl, ⟨rfl, ah.rfl⟩⟩, trivial⟩⟩ rfl
theorem fv (m : Nat) (p1 : Int) (r0_2 : (List Int)) (n0_3 : Int) (z1v1 : Int) (r0 : Tree) (q0_L : (List Int)) (q0_At : Int) (h : ((z1v1 = 4) → ∃ (n5_1 : Int), ∃ (r5_2 : (List Int)), ∃ (n5_3 : Int), aF r0_2 n0_3 2 n5_1 r5_2 n5_3 ∧ InI (13 + n5_1) ∧ (Tree.node (13 + n5_1) [] [] []) = r0 ∧ r5_2 = q0_L ∧ n5_3 = q0_At) ∧ ((z1v1 ≠ 4) → lW m p1 r0_2 n0_3 z1v1 r0 q0_L q0_At)) : lU (m + 1) p1 r0_2 n0_3 z1v1 r0 q0_L q0_At := by
 intro K hK
 refine gR 6 rfl ?_
 refine gB 44 rfl rfl rfl (fun hd => ?_) (fun hd => ?_)
 refine gT 45 rfl hd rfl ?_
 replace hd := (eq_of_beq hd)
 replace h := h.1 hd
 refine gR 4 rfl ?_
 obtain ⟨n5_1, r5_2, n5_3, hs79, h⟩ := h
 refine gC hs79 [0] (by kernel_rfl) rfl rfl .rfl ⟨⟨_, rfl, ⟨rfl, ah.rfl⟩⟩, trivial⟩ rfl ?_
 rintro _ _ ⟨rfl, rfl⟩
 obtain ⟨hb, h⟩ := h
 refine gR 1 rfl ?_
 refine gV 48 (.int .i64 (13 + n5_1)) rfl (ar hb rfl) rfl ?_
 refine gR 7 rfl ?_
 obtain ⟨rfl, rfl, rfl⟩ := h
 refine ab (F' := (mkF 168 0 [(4, .ptr 1 0)])) (H' := ⟨2, [(1, .var 29 [.int .i64 ((Tree.node (13 + n5_1) [] [] []).kind), .str ((Tree.node (13 + n5_1) [] [] []).text), .row 1 (List.map V.str ((Tree.node (13 + n5_1) [] [] []).leads)), .row 4 (kidsV ((Tree.node (13 + n5_1) [] [] []).kids))]), (0, .var 73 [.row 1 (List.map (V.int .i64) r5_2), .int .i64 n5_3])]⟩) [0, 1] [0] rfl hK ⟨⟨_, rfl, .rfl⟩, trivial⟩ ⟨⟨_, rfl, ⟨rfl, (.cons .rfl (.cons .rfl (.cons (.nil 1) (.cons (.nil 4) .nil))))⟩⟩, ⟨⟨_, rfl, ⟨rfl, ah.rfl⟩⟩, trivial⟩⟩ rfl ?_
 exact aC [1] aa (rs := [.cell 4 29]) rfl rfl ⟨rfl, rfl⟩
 refine gF 45 rfl hd rfl ?_
 replace hd := (ne_of_beq_false hd)
 replace h := h.2 hd
 refine gR 1 rfl ?_
 exact gJ (h K hK) [0, 1] [0] rfl hK ⟨⟨_, rfl, .rfl⟩, ⟨_, rfl, .rfl⟩, ⟨_, rfl, .rfl⟩, ⟨_, rfl, .rfl⟩, trivial⟩ ⟨⟨_, rfl, ⟨rfl, ah.rfl⟩⟩, ⟨⟨_, rfl, ⟨rfl, ah.rfl⟩⟩, trivial⟩⟩ rfl
theorem ir (m : Nat) (p1 : Int) (r0_2 : (List Int)) (n0_3 : Int) (z1v1 : Int) (r0 : Tree) (q0_L : (List Int)) (q0_At : Int) (h : ((z1v1 = 5) → ∃ (n6_1 : Int), ∃ (r6_2 : (List Int)), ∃ (n6_3 : Int), aF r0_2 n0_3 3 n6_1 r6_2 n6_3 ∧ ((n6_1 = 0) → (Tree.node 15 [] [] []) = r0 ∧ r6_2 = q0_L ∧ n6_3 = q0_At) ∧ ((n6_1 ≠ 0) → (Tree.node 10 [51] [] []) = r0 ∧ r6_2 = q0_L ∧ n6_3 = q0_At)) ∧ ((z1v1 ≠ 5) → fV m p1 r0_2 n0_3 z1v1 r0 q0_L q0_At)) : lW (m + 1) p1 r0_2 n0_3 z1v1 r0 q0_L q0_At := by
 intro K hK
 refine gR 6 rfl ?_
 refine gB 50 rfl rfl rfl (fun hd => ?_) (fun hd => ?_)
 refine gT 51 rfl hd rfl ?_
 replace hd := (eq_of_beq hd)
 replace h := h.1 hd
 refine gR 5 rfl ?_
 obtain ⟨n6_1, r6_2, n6_3, hs80, h⟩ := h
 refine gC hs80 [0] (by kernel_rfl) rfl rfl .rfl ⟨⟨_, rfl, ⟨rfl, ah.rfl⟩⟩, trivial⟩ rfl ?_
 rintro _ _ ⟨rfl, rfl⟩
 refine gR 3 rfl ?_
 refine gB 54 rfl rfl rfl (fun hd => ?_) (fun hd => ?_)
 replace hd := (eq_of_beq hd)
 replace h := h.1 hd
 refine gR 11 rfl ?_
 obtain ⟨rfl, rfl, rfl⟩ := h
 refine ab (F' := (mkF 168 0 [(4, .ptr 1 0)])) (H' := ⟨2, [(1, .var 29 [.int .i64 ((Tree.node 15 [] [] []).kind), .str ((Tree.node 15 [] [] []).text), .row 1 (List.map V.str ((Tree.node 15 [] [] []).leads)), .row 4 (kidsV ((Tree.node 15 [] [] []).kids))]), (0, .var 73 [.row 1 (List.map (V.int .i64) r6_2), .int .i64 n6_3])]⟩) [0, 1] [0] rfl hK ⟨⟨_, rfl, .rfl⟩, trivial⟩ ⟨⟨_, rfl, ⟨rfl, (.cons .rfl (.cons .rfl (.cons (.nil 1) (.cons (.nil 4) .nil))))⟩⟩, ⟨⟨_, rfl, ⟨rfl, ah.rfl⟩⟩, trivial⟩⟩ rfl ?_
 exact aC [1] aa (rs := [.cell 4 29]) rfl rfl ⟨rfl, rfl⟩
 replace hd := (ne_of_beq_false hd)
 replace h := h.2 hd
 refine gR 12 rfl ?_
 obtain ⟨rfl, rfl, rfl⟩ := h
 refine ab (F' := (mkF 168 0 [(4, .ptr 1 0)])) (H' := ⟨2, [(1, .var 29 [.int .i64 ((Tree.node 10 [51] [] []).kind), .str ((Tree.node 10 [51] [] []).text), .row 1 (List.map V.str ((Tree.node 10 [51] [] []).leads)), .row 4 (kidsV ((Tree.node 10 [51] [] []).kids))]), (0, .var 73 [.row 1 (List.map (V.int .i64) r6_2), .int .i64 n6_3])]⟩) [0, 1] [0] rfl hK ⟨⟨_, rfl, .rfl⟩, trivial⟩ ⟨⟨_, rfl, ⟨rfl, (.cons .rfl (.cons .rfl (.cons (.nil 1) (.cons (.nil 4) .nil))))⟩⟩, ⟨⟨_, rfl, ⟨rfl, ah.rfl⟩⟩, trivial⟩⟩ rfl ?_
 exact aC [1] aa (rs := [.cell 4 29]) rfl rfl ⟨rfl, rfl⟩
 refine gF 51 rfl hd rfl ?_
 replace hd := (ne_of_beq_false hd)
 replace h := h.2 hd
 refine gR 1 rfl ?_
 exact gJ (h K hK) [0, 1] [0] rfl hK ⟨⟨_, rfl, .rfl⟩, ⟨_, rfl, .rfl⟩, ⟨_, rfl, .rfl⟩, ⟨_, rfl, .rfl⟩, trivial⟩ ⟨⟨_, rfl, ⟨rfl, ah.rfl⟩⟩, ⟨⟨_, rfl, ⟨rfl, ah.rfl⟩⟩, trivial⟩⟩ rfl
theorem rL6_semvcsmake_Expr (m : Nat) (p1 : Int) (r0_2 : (List Int)) (n0_3 : Int) (z1v1 : Int) (r0 : Tree) (q0_L : (List Int)) (q0_At : Int) (h : ((z1v1 = 6) → iM m p1 r0_2 n0_3 z1v1 true r0 q0_L q0_At) ∧ ((z1v1 ≠ 6) → iM m p1 r0_2 n0_3 z1v1 (z1v1 == 7) r0 q0_L q0_At)) : fV (m + 1) p1 r0_2 n0_3 z1v1 r0 q0_L q0_At := by
 intro K hK
 refine gR 7 rfl ?_
 refine gB 57 rfl rfl rfl (fun hd => ?_) (fun hd => ?_)
 refine gT 58 rfl hd rfl ?_
 replace hd := (eq_of_beq hd)
 replace h := h.1 hd
 refine gR 3 rfl ?_
 exact gJ (h K hK) [0, 1] [0] rfl hK ⟨⟨_, rfl, .rfl⟩, ⟨_, rfl, .rfl⟩, ⟨_, rfl, .rfl⟩, ⟨_, rfl, .rfl⟩, ⟨_, rfl, .rfl⟩, trivial⟩ ⟨⟨_, rfl, ⟨rfl, ah.rfl⟩⟩, ⟨⟨_, rfl, ⟨rfl, ah.rfl⟩⟩, trivial⟩⟩ rfl
 refine gF 58 rfl hd rfl ?_
 replace hd := (ne_of_beq_false hd)
 replace h := h.2 hd
 refine gR 6 rfl ?_
 exact gJ (h K hK) [0, 1] [0] rfl hK ⟨⟨_, rfl, .rfl⟩, ⟨_, rfl, .rfl⟩, ⟨_, rfl, .rfl⟩, ⟨_, rfl, .rfl⟩, ⟨_, rfl, .rfl⟩, trivial⟩ ⟨⟨_, rfl, ⟨rfl, ah.rfl⟩⟩, ⟨⟨_, rfl, ⟨rfl, ah.rfl⟩⟩, trivial⟩⟩ rfl
theorem il (m : Nat) (p1 : Int) (r0_2 : (List Int)) (n0_3 : Int) (z1v1 : Int) (b8v1 : Bool) (r0 : Tree) (q0_L : (List Int)) (q0_At : Int) (h : ((b8v1 = true) → iS m p1 r0_2 n0_3 r0 q0_L q0_At) ∧ ((b8v1 = false) → ei m p1 r0_2 n0_3 z1v1 r0 q0_L q0_At)) : iM (m + 1) p1 r0_2 n0_3 z1v1 b8v1 r0 q0_L q0_At := by
 intro K hK
 refine gB 57 rfl rfl rfl (fun hd => ?_) (fun hd => ?_)
 replace h := h.1 hd
 refine gR 1 rfl ?_
 exact gJ (h K hK) [0, 1] [0] rfl hK ⟨⟨_, rfl, .rfl⟩, ⟨_, rfl, .rfl⟩, ⟨_, rfl, .rfl⟩, trivial⟩ ⟨⟨_, rfl, ⟨rfl, ah.rfl⟩⟩, ⟨⟨_, rfl, ⟨rfl, ah.rfl⟩⟩, trivial⟩⟩ rfl
 replace h := h.2 hd
 refine gR 1 rfl ?_
 exact gJ (h K hK) [0, 1] [0] rfl hK ⟨⟨_, rfl, .rfl⟩, ⟨_, rfl, .rfl⟩, ⟨_, rfl, .rfl⟩, ⟨_, rfl, .rfl⟩, trivial⟩ ⟨⟨_, rfl, ⟨rfl, ah.rfl⟩⟩, ⟨⟨_, rfl, ⟨rfl, ah.rfl⟩⟩, trivial⟩⟩ rfl
theorem pb (m : Nat) (p1 : Int) (r0_2 : (List Int)) (n0_3 : Int) (r0 : Tree) (q0_L : (List Int)) (q0_At : Int) (h : ∃ (s9_1 : (List UInt8)), ∃ (r9_2 : (List Int)), ∃ (n9_3 : Int), be r0_2 n0_3 [[102], [103], [104], [65, 46, 102], [66, 46, 103], [65, 46, 104]] s9_1 r9_2 n9_3 ∧ ∃ (n9_4 : Int), ∃ (r9_5 : (List Int)), ∃ (n9_6 : Int), aF r9_2 n9_3 4 n9_4 r9_5 n9_6 ∧ fx m p1 s9_1 r9_5 n9_6 ([] : List Tree) n9_4 r0 q0_L q0_At) : iS (m + 1) p1 r0_2 n0_3 r0 q0_L q0_At := by
 intro K hK
 refine gR 4 rfl ?_
 refine gFR 2 rfl rfl rfl rfl ?_
 obtain ⟨s9_1, r9_2, n9_3, hs81, h⟩ := h
 refine gC hs81 [0] (by kernel_rfl) rfl rfl .rfl ⟨⟨_, rfl, ⟨rfl, ah.rfl⟩⟩, trivial⟩ rfl ?_
 rintro _ _ ⟨rfl, rfl⟩
 refine gR 9 rfl ?_
 obtain ⟨n9_4, r9_5, n9_6, hs82, h⟩ := h
 refine gC hs82 [0] (by kernel_rfl) rfl rfl .rfl ⟨⟨_, rfl, ⟨rfl, ah.rfl⟩⟩, trivial⟩ rfl ?_
 rintro _ _ ⟨rfl, rfl⟩
 refine gR 4 rfl ?_
 refine go_loop m ?_
 refine gNC 4 3 29 4 rfl rfl rfl rfl ?_
 exact gJ (h K _ hK (by omega)) [0, 1, 4, 6] [0] rfl hK ⟨⟨_, rfl, .rfl⟩, ⟨_, rfl, .rfl⟩, ⟨_, rfl, .rfl⟩, ⟨_, rfl, .rfl⟩, ⟨_, rfl, .rfl⟩, trivial⟩ ⟨⟨_, rfl, ⟨rfl, rfl, rfl⟩⟩, ⟨⟨_, rfl, ⟨rfl, ah.rfl⟩⟩, ⟨⟨_, rfl, ⟨rfl, ah.rfl⟩⟩, ⟨⟨_, rfl, ⟨rfl, ah.rfl⟩⟩, trivial⟩⟩⟩⟩ rfl
theorem lm (m : Nat) (p1 : Int) (r0_2 : (List Int)) (n0_3 : Int) (z1v1 : Int) (r0 : Tree) (q0_L : (List Int)) (q0_At : Int) (h : ((z1v1 = 8) → ∃ (n10_1 : Int), ∃ (r10_2 : (List Int)), ∃ (n10_3 : Int), aF r0_2 n0_3 3 n10_1 r10_2 n10_3 ∧ InI (1 + n10_1) ∧ fC m p1 r10_2 n10_3 ([] : List Tree) (1 + n10_1) r0 q0_L q0_At) ∧ ((z1v1 ≠ 8) → fu m p1 r0_2 n0_3 z1v1 r0 q0_L q0_At)) : ei (m + 1) p1 r0_2 n0_3 z1v1 r0 q0_L q0_At := by
 intro K hK
 refine gR 6 rfl ?_
 refine gB 82 rfl rfl rfl (fun hd => ?_) (fun hd => ?_)
 refine gT 83 rfl hd rfl ?_
 replace hd := (eq_of_beq hd)
 replace h := h.1 hd
 refine gR 12 rfl ?_
 obtain ⟨n10_1, r10_2, n10_3, hs83, h⟩ := h
 refine gC hs83 [0] (by kernel_rfl) rfl rfl .rfl ⟨⟨_, rfl, ⟨rfl, ah.rfl⟩⟩, trivial⟩ rfl ?_
 rintro _ _ ⟨rfl, rfl⟩
 obtain ⟨hb, h⟩ := h
 refine gR 1 rfl ?_
 refine gV 87 (.int .i64 (1 + n10_1)) rfl (ar hb rfl) rfl ?_
 refine gR 4 rfl ?_
 refine go_loop m ?_
 refine gNC 2 3 29 4 rfl rfl rfl rfl ?_
 exact gJ (h K _ hK (by omega)) [0, 1, 2, 4] [0] rfl hK ⟨⟨_, rfl, .rfl⟩, ⟨_, rfl, .rfl⟩, ⟨_, rfl, .rfl⟩, ⟨_, rfl, .rfl⟩, ⟨_, rfl, .rfl⟩, trivial⟩ ⟨⟨_, rfl, ⟨rfl, rfl, rfl⟩⟩, ⟨⟨_, rfl, ⟨rfl, ah.rfl⟩⟩, ⟨⟨_, rfl, ⟨rfl, ah.rfl⟩⟩, ⟨⟨_, rfl, ⟨rfl, ah.rfl⟩⟩, trivial⟩⟩⟩⟩ rfl
 refine gF 83 rfl hd rfl ?_
 replace hd := (ne_of_beq_false hd)
 replace h := h.2 hd
 refine gR 1 rfl ?_
 exact gJ (h K hK) [0, 1] [0] rfl hK ⟨⟨_, rfl, .rfl⟩, ⟨_, rfl, .rfl⟩, ⟨_, rfl, .rfl⟩, ⟨_, rfl, .rfl⟩, trivial⟩ ⟨⟨_, rfl, ⟨rfl, ah.rfl⟩⟩, ⟨⟨_, rfl, ⟨rfl, ah.rfl⟩⟩, trivial⟩⟩ rfl
theorem la (m : Nat) (p1 : Int) (s9_1 : (List UInt8)) (l11v1 : (List Int)) (z11v2 : Int) (l11v3 : (List Tree)) (z11v4 : Int) (r0 : Tree) (q0_L : (List Int)) (q0_At : Int) (h : ((0 < z11v4) → InI (p1 - 1) ∧ ∃ (t11_1 : Tree), ∃ (r11_2 : (List Int)), ∃ (n11_3 : Int), aO l11v1 z11v2 (p1 - 1) t11_1 r11_2 n11_3 ∧ (l11v3 ++ [(Tree.node 17 [] [] [t11_1])]).length ≤ 1000000000 ∧ InI (z11v4 - 1) ∧ fx m p1 s9_1 r11_2 n11_3 (l11v3 ++ [(Tree.node 17 [] [] [t11_1])]) (z11v4 - 1) r0 q0_L q0_At) ∧ ((¬ 0 < z11v4) → (Tree.node 16 s9_1 [] l11v3) = r0 ∧ l11v1 = q0_L ∧ z11v2 = q0_At)) : fx (m + 1) p1 s9_1 l11v1 z11v2 l11v3 z11v4 r0 q0_L q0_At := by
 intro K j1 hK hj1
 obtain ⟨j1, rfl⟩ : ∃ j, j1 = j + 1 := ⟨j1 - 1, by omega⟩
 refine gR 7 rfl ?_
 refine gB 67 rfl rfl rfl (fun hd => ?_) (fun hd => ?_)
 replace hd := (of_decide_eq_true hd)
 replace h := h.1 hd
 refine gR 5 rfl ?_
 refine gDs [2] 11 12 rfl (by kernel_rfl) (by kernel_rfl) ?_
 refine gDr [(0, 2), (1, 3), (2, 2), (3, 0)] (by kernel_rfl) rfl rfl ?_
 obtain ⟨hb, h⟩ := h
 refine gDr [(4, 0)] (by kernel_rfl) rfl rfl ?_
 refine gV 74 (.int .i64 (p1 - 1)) rfl (ar hb rfl) rfl ?_
 obtain ⟨t11_1, r11_2, n11_3, hs84, h⟩ := h
 refine gDC 5 hs84 [0] (by kernel_rfl) rfl (by kernel_rfl) rfl rfl .rfl ⟨⟨_, rfl, ⟨rfl, ah.rfl⟩⟩, trivial⟩ (by kernel_rfl) rfl ?_
 rintro _ _ ⟨rfl, rfl⟩
 refine gDr [(6, 0)] (by kernel_rfl) rfl rfl ?_
 refine gHR 6 (kidsV [t11_1]) rfl (jb t11_1) rfl ?_
 refine gDr [(7, 0)] (by kernel_rfl) rfl rfl ?_
 refine gFR 6 rfl (co _) rfl rfl ?_
 refine gS 77 (.agg [.int .i64 17, .str [], .row 1 [], .row 4 (kidsV [t11_1])]) rfl (.agg (.cons .rfl (.cons .rfl (.cons (.nil 1) (.cons .rfl .nil))))) rfl ?_
 refine gDr [(8, 0)] (by kernel_rfl) rfl rfl ?_
 refine gHR 7 (kidsV [(Tree.node 17 [] [] [t11_1])]) rfl (jb (Tree.node 17 [] [] [t11_1])) rfl ?_
 obtain ⟨hb, h⟩ := h
 refine cW 9 (.repl 3 (.row 29 4 (kidsV (l11v3 ++ [(Tree.node 17 [] [] [t11_1])])))) rfl (by kernel_rfl) (bN aa rfl rfl rfl rfl rfl (fh l11v3 [(Tree.node 17 [] [] [t11_1])]).symm (by rw [aD]; exact hb)) (okR rfl) rfl (by kernel_rfl) rfl rfl ?_
 refine gDr [(10, 0), (11, 1)] (by kernel_rfl) rfl rfl ?_
 refine gDe (by kernel_rfl) ?_
 refine gR 4 rfl ?_
 obtain ⟨hb, h⟩ := h
 refine gR 1 rfl ?_
 refine gV 69 (.int .i64 (z11v4 - 1)) rfl (ar hb rfl) rfl ?_
 refine gR 2 rfl ?_
 refine aq ?_
 exact gJ (h K _ hK (by omega)) [0, 1, 2, 8] [0] rfl hK ⟨⟨_, rfl, .rfl⟩, ⟨_, rfl, .rfl⟩, ⟨_, rfl, .rfl⟩, ⟨_, rfl, .rfl⟩, ⟨_, rfl, .rfl⟩, trivial⟩ ⟨⟨_, rfl, ⟨rfl, rfl, (eO _ (l11v3 ++ [(Tree.node 17 [] [] [t11_1])])).symm⟩⟩, ⟨⟨_, rfl, ⟨rfl, ah.rfl⟩⟩, ⟨⟨_, rfl, ⟨rfl, ah.rfl⟩⟩, ⟨⟨_, rfl, ⟨rfl, ah.rfl⟩⟩, trivial⟩⟩⟩⟩ rfl
 replace hd := (of_decide_eq_false hd)
 replace h := h.2 hd
 refine gR 3 rfl ?_
 refine av ?_
 refine gR 11 rfl ?_
 refine gFR 3 rfl (co _) rfl rfl ?_
 obtain ⟨rfl, rfl, rfl⟩ := h
 refine ab (F' := (mkF 168 0 [(4, .ptr 1 0)])) (H' := ⟨2, [(1, .var 29 [.int .i64 ((Tree.node 16 s9_1 [] l11v3).kind), .str ((Tree.node 16 s9_1 [] l11v3).text), .row 1 (List.map V.str ((Tree.node 16 s9_1 [] l11v3).leads)), .row 4 (kidsV ((Tree.node 16 s9_1 [] l11v3).kids))]), (0, .var 73 [.row 1 (List.map (V.int .i64) l11v1), .int .i64 z11v2])]⟩) [0, 1] [0] rfl hK ⟨⟨_, rfl, .rfl⟩, trivial⟩ ⟨⟨_, rfl, ⟨rfl, (.cons .rfl (.cons .rfl (.cons (.nil 1) (.cons .rfl .nil))))⟩⟩, ⟨⟨_, rfl, ⟨rfl, ah.rfl⟩⟩, trivial⟩⟩ rfl ?_
 exact aC [1] aa (rs := [.cell 4 29]) rfl rfl ⟨rfl, rfl⟩
theorem kw (m : Nat) (p1 : Int) (l12v1 : (List Int)) (z12v2 : Int) (l12v3 : (List Tree)) (z12v4 : Int) (r0 : Tree) (q0_L : (List Int)) (q0_At : Int) (h : ((0 < z12v4) → InI (p1 - 1) ∧ ∃ (t12_1 : Tree), ∃ (r12_2 : (List Int)), ∃ (n12_3 : Int), aO l12v1 z12v2 (p1 - 1) t12_1 r12_2 n12_3 ∧ (l12v3 ++ [t12_1]).length ≤ 1000000000 ∧ InI (z12v4 - 1) ∧ fC m p1 r12_2 n12_3 (l12v3 ++ [t12_1]) (z12v4 - 1) r0 q0_L q0_At) ∧ ((¬ 0 < z12v4) → (Tree.node 18 [] [] l12v3) = r0 ∧ l12v1 = q0_L ∧ z12v2 = q0_At)) : fC (m + 1) p1 l12v1 z12v2 l12v3 z12v4 r0 q0_L q0_At := by
 intro K j1 hK hj1
 obtain ⟨j1, rfl⟩ : ∃ j, j1 = j + 1 := ⟨j1 - 1, by omega⟩
 refine gR 7 rfl ?_
 refine gB 89 rfl rfl rfl (fun hd => ?_) (fun hd => ?_)
 replace hd := (of_decide_eq_true hd)
 replace h := h.1 hd
 refine gR 5 rfl ?_
 refine gDs [2] 9 10 rfl (by kernel_rfl) (by kernel_rfl) ?_
 refine gDr [(0, 2), (1, 3), (2, 2), (3, 0)] (by kernel_rfl) rfl rfl ?_
 obtain ⟨hb, h⟩ := h
 refine gDr [(4, 0)] (by kernel_rfl) rfl rfl ?_
 refine gV 96 (.int .i64 (p1 - 1)) rfl (ar hb rfl) rfl ?_
 obtain ⟨t12_1, r12_2, n12_3, hs85, h⟩ := h
 refine gDC 5 hs85 [0] (by kernel_rfl) rfl (by kernel_rfl) rfl rfl .rfl ⟨⟨_, rfl, ⟨rfl, ah.rfl⟩⟩, trivial⟩ (by kernel_rfl) rfl ?_
 rintro _ _ ⟨rfl, rfl⟩
 refine gDr [(6, 0)] (by kernel_rfl) rfl rfl ?_
 refine gHR 6 (kidsV [t12_1]) rfl (jb t12_1) rfl ?_
 obtain ⟨hb, h⟩ := h
 refine cW 7 (.repl 3 (.row 29 4 (kidsV (l12v3 ++ [t12_1])))) rfl (by kernel_rfl) (bN aa rfl rfl rfl rfl rfl (fh l12v3 [t12_1]).symm (by rw [aD]; exact hb)) (okR rfl) rfl (by kernel_rfl) rfl rfl ?_
 refine gDr [(8, 0), (9, 1)] (by kernel_rfl) rfl rfl ?_
 refine gDe (by kernel_rfl) ?_
 refine gR 4 rfl ?_
 obtain ⟨hb, h⟩ := h
 refine gR 1 rfl ?_
 refine gV 91 (.int .i64 (z12v4 - 1)) rfl (ar hb rfl) rfl ?_
 refine gR 2 rfl ?_
 refine aq ?_
 exact gJ (h K _ hK (by omega)) [0, 1, 2, 7] [0] rfl hK ⟨⟨_, rfl, .rfl⟩, ⟨_, rfl, .rfl⟩, ⟨_, rfl, .rfl⟩, ⟨_, rfl, .rfl⟩, ⟨_, rfl, .rfl⟩, trivial⟩ ⟨⟨_, rfl, ⟨rfl, rfl, (eO _ (l12v3 ++ [t12_1])).symm⟩⟩, ⟨⟨_, rfl, ⟨rfl, ah.rfl⟩⟩, ⟨⟨_, rfl, ⟨rfl, ah.rfl⟩⟩, ⟨⟨_, rfl, ⟨rfl, ah.rfl⟩⟩, trivial⟩⟩⟩⟩ rfl
 replace hd := (of_decide_eq_false hd)
 replace h := h.2 hd
 refine gR 3 rfl ?_
 refine av ?_
 refine gR 11 rfl ?_
 refine gFR 3 rfl (co _) rfl rfl ?_
 obtain ⟨rfl, rfl, rfl⟩ := h
 refine ab (F' := (mkF 168 0 [(4, .ptr 1 0)])) (H' := ⟨2, [(1, .var 29 [.int .i64 ((Tree.node 18 [] [] l12v3).kind), .str ((Tree.node 18 [] [] l12v3).text), .row 1 (List.map V.str ((Tree.node 18 [] [] l12v3).leads)), .row 4 (kidsV ((Tree.node 18 [] [] l12v3).kids))]), (0, .var 73 [.row 1 (List.map (V.int .i64) l12v1), .int .i64 z12v2])]⟩) [0, 1] [0] rfl hK ⟨⟨_, rfl, .rfl⟩, trivial⟩ ⟨⟨_, rfl, ⟨rfl, (.cons .rfl (.cons .rfl (.cons (.nil 1) (.cons .rfl .nil))))⟩⟩, ⟨⟨_, rfl, ⟨rfl, ah.rfl⟩⟩, trivial⟩⟩ rfl ?_
 exact aC [1] aa (rs := [.cell 4 29]) rfl rfl ⟨rfl, rfl⟩
theorem kJ (m : Nat) (p1 : Int) (r0_2 : (List Int)) (n0_3 : Int) (z1v1 : Int) (r0 : Tree) (q0_L : (List Int)) (q0_At : Int) (h : ((z1v1 = 9) → ld m p1 r0_2 n0_3 r0 q0_L q0_At) ∧ ((z1v1 ≠ 9) → dZ m p1 r0_2 n0_3 z1v1 r0 q0_L q0_At)) : fu (m + 1) p1 r0_2 n0_3 z1v1 r0 q0_L q0_At := by
 intro K hK
 refine gR 6 rfl ?_
 refine gB 102 rfl rfl rfl (fun hd => ?_) (fun hd => ?_)
 refine gT 103 rfl hd rfl ?_
 replace hd := (eq_of_beq hd)
 replace h := h.1 hd
 refine gR 1 rfl ?_
 exact gJ (h K hK) [0, 1] [0] rfl hK ⟨⟨_, rfl, .rfl⟩, ⟨_, rfl, .rfl⟩, ⟨_, rfl, .rfl⟩, trivial⟩ ⟨⟨_, rfl, ⟨rfl, ah.rfl⟩⟩, ⟨⟨_, rfl, ⟨rfl, ah.rfl⟩⟩, trivial⟩⟩ rfl
 refine gF 103 rfl hd rfl ?_
 replace hd := (ne_of_beq_false hd)
 replace h := h.2 hd
 refine gR 1 rfl ?_
 exact gJ (h K hK) [0, 1] [0] rfl hK ⟨⟨_, rfl, .rfl⟩, ⟨_, rfl, .rfl⟩, ⟨_, rfl, .rfl⟩, ⟨_, rfl, .rfl⟩, trivial⟩ ⟨⟨_, rfl, ⟨rfl, ah.rfl⟩⟩, ⟨⟨_, rfl, ⟨rfl, ah.rfl⟩⟩, trivial⟩⟩ rfl
theorem oz (m : Nat) (p1 : Int) (r0_2 : (List Int)) (n0_3 : Int) (r0 : Tree) (q0_L : (List Int)) (q0_At : Int) (h : InI (p1 - 1) ∧ ∃ (t14_1 : Tree), ∃ (r14_2 : (List Int)), ∃ (n14_3 : Int), aO r0_2 n0_3 (p1 - 1) t14_1 r14_2 n14_3 ∧ InI (p1 - 1) ∧ ∃ (t14_4 : Tree), ∃ (r14_5 : (List Int)), ∃ (n14_6 : Int), aO r14_2 n14_3 (p1 - 1) t14_4 r14_5 n14_6 ∧ InI (p1 - 1) ∧ ∃ (t14_7 : Tree), ∃ (r14_8 : (List Int)), ∃ (n14_9 : Int), aO r14_5 n14_6 (p1 - 1) t14_7 r14_8 n14_9 ∧ (Tree.node 19 [] [] [t14_1, t14_4, t14_7]) = r0 ∧ r14_8 = q0_L ∧ n14_9 = q0_At) : ld (m + 1) p1 r0_2 n0_3 r0 q0_L q0_At := by
 intro K hK
 refine gR 4 rfl ?_
 obtain ⟨hb, h⟩ := h
 refine gR 1 rfl ?_
 refine gV 106 (.int .i64 (p1 - 1)) rfl (ar hb rfl) rfl ?_
 obtain ⟨t14_1, r14_2, n14_3, hs86, h⟩ := h
 refine gC hs86 [0] (by kernel_rfl) rfl rfl .rfl ⟨⟨_, rfl, ⟨rfl, ah.rfl⟩⟩, trivial⟩ rfl ?_
 rintro _ _ ⟨rfl, rfl⟩
 refine gR 2 rfl ?_
 obtain ⟨hb, h⟩ := h
 refine gR 1 rfl ?_
 refine gV 110 (.int .i64 (p1 - 1)) rfl (ar hb rfl) rfl ?_
 obtain ⟨t14_4, r14_5, n14_6, hs87, h⟩ := h
 refine gC hs87 [0] (by kernel_rfl) rfl rfl .rfl ⟨⟨_, rfl, ⟨rfl, ah.rfl⟩⟩, trivial⟩ rfl ?_
 rintro _ _ ⟨rfl, rfl⟩
 refine gR 2 rfl ?_
 obtain ⟨hb, h⟩ := h
 refine gR 1 rfl ?_
 refine gV 114 (.int .i64 (p1 - 1)) rfl (ar hb rfl) rfl ?_
 obtain ⟨t14_7, r14_8, n14_9, hs88, h⟩ := h
 refine gC hs88 [0] (by kernel_rfl) rfl rfl .rfl ⟨⟨_, rfl, ⟨rfl, ah.rfl⟩⟩, trivial⟩ rfl ?_
 rintro _ _ ⟨rfl, rfl⟩
 refine gR 1 rfl ?_
 refine gHR 8 (kidsV [t14_1, t14_4, t14_7]) rfl (pE [t14_1, t14_4, t14_7]) rfl ?_
 refine gR 7 rfl ?_
 refine gFR 8 rfl (co _) rfl rfl ?_
 obtain ⟨rfl, rfl, rfl⟩ := h
 refine ab (F' := (mkF 168 0 [(4, .ptr 1 0)])) (H' := ⟨2, [(1, .var 29 [.int .i64 ((Tree.node 19 [] [] [t14_1, t14_4, t14_7]).kind), .str ((Tree.node 19 [] [] [t14_1, t14_4, t14_7]).text), .row 1 (List.map V.str ((Tree.node 19 [] [] [t14_1, t14_4, t14_7]).leads)), .row 4 (kidsV ((Tree.node 19 [] [] [t14_1, t14_4, t14_7]).kids))]), (0, .var 73 [.row 1 (List.map (V.int .i64) r14_8), .int .i64 n14_9])]⟩) [0, 1] [0] rfl hK ⟨⟨_, rfl, .rfl⟩, trivial⟩ ⟨⟨_, rfl, ⟨rfl, (.cons .rfl (.cons .rfl (.cons (.nil 1) (.cons .rfl .nil))))⟩⟩, ⟨⟨_, rfl, ⟨rfl, ah.rfl⟩⟩, trivial⟩⟩ rfl ?_
 exact aC [1] aa (rs := [.cell 4 29]) rfl rfl ⟨rfl, rfl⟩
theorem rL14_semvcsmake_Expr (m : Nat) (p1 : Int) (r0_2 : (List Int)) (n0_3 : Int) (z1v1 : Int) (r0 : Tree) (q0_L : (List Int)) (q0_At : Int) (h : ((z1v1 = 10) → ij m p1 r0_2 n0_3 z1v1 true r0 q0_L q0_At) ∧ ((z1v1 ≠ 10) → ij m p1 r0_2 n0_3 z1v1 (z1v1 == 11) r0 q0_L q0_At)) : dZ (m + 1) p1 r0_2 n0_3 z1v1 r0 q0_L q0_At := by
 intro K hK
 refine gR 7 rfl ?_
 refine gB 118 rfl rfl rfl (fun hd => ?_) (fun hd => ?_)
 refine gT 119 rfl hd rfl ?_
 replace hd := (eq_of_beq hd)
 replace h := h.1 hd
 refine gR 3 rfl ?_
 exact gJ (h K hK) [0, 1] [0] rfl hK ⟨⟨_, rfl, .rfl⟩, ⟨_, rfl, .rfl⟩, ⟨_, rfl, .rfl⟩, ⟨_, rfl, .rfl⟩, ⟨_, rfl, .rfl⟩, trivial⟩ ⟨⟨_, rfl, ⟨rfl, ah.rfl⟩⟩, ⟨⟨_, rfl, ⟨rfl, ah.rfl⟩⟩, trivial⟩⟩ rfl
 refine gF 119 rfl hd rfl ?_
 replace hd := (ne_of_beq_false hd)
 replace h := h.2 hd
 refine gR 6 rfl ?_
 exact gJ (h K hK) [0, 1] [0] rfl hK ⟨⟨_, rfl, .rfl⟩, ⟨_, rfl, .rfl⟩, ⟨_, rfl, .rfl⟩, ⟨_, rfl, .rfl⟩, ⟨_, rfl, .rfl⟩, trivial⟩ ⟨⟨_, rfl, ⟨rfl, ah.rfl⟩⟩, ⟨⟨_, rfl, ⟨rfl, ah.rfl⟩⟩, trivial⟩⟩ rfl
theorem hZ (m : Nat) (p1 : Int) (r0_2 : (List Int)) (n0_3 : Int) (z1v1 : Int) (b16v1 : Bool) (r0 : Tree) (q0_L : (List Int)) (q0_At : Int) (h : ((b16v1 = true) → iq m p1 r0_2 n0_3 r0 q0_L q0_At) ∧ ((b16v1 = false) → fB m p1 r0_2 n0_3 z1v1 r0 q0_L q0_At)) : ij (m + 1) p1 r0_2 n0_3 z1v1 b16v1 r0 q0_L q0_At := by
 intro K hK
 refine gB 118 rfl rfl rfl (fun hd => ?_) (fun hd => ?_)
 replace h := h.1 hd
 refine gR 1 rfl ?_
 exact gJ (h K hK) [0, 1] [0] rfl hK ⟨⟨_, rfl, .rfl⟩, ⟨_, rfl, .rfl⟩, ⟨_, rfl, .rfl⟩, trivial⟩ ⟨⟨_, rfl, ⟨rfl, ah.rfl⟩⟩, ⟨⟨_, rfl, ⟨rfl, ah.rfl⟩⟩, trivial⟩⟩ rfl
 replace h := h.2 hd
 refine gR 1 rfl ?_
 exact gJ (h K hK) [0, 1] [0] rfl hK ⟨⟨_, rfl, .rfl⟩, ⟨_, rfl, .rfl⟩, ⟨_, rfl, .rfl⟩, ⟨_, rfl, .rfl⟩, trivial⟩ ⟨⟨_, rfl, ⟨rfl, ah.rfl⟩⟩, ⟨⟨_, rfl, ⟨rfl, ah.rfl⟩⟩, trivial⟩⟩ rfl
theorem oL (m : Nat) (p1 : Int) (r0_2 : (List Int)) (n0_3 : Int) (r0 : Tree) (q0_L : (List Int)) (q0_At : Int) (h : ∃ (s17_1 : (List UInt8)), ∃ (r17_2 : (List Int)), ∃ (n17_3 : Int), be r0_2 n0_3 [[120], [121], [122]] s17_1 r17_2 n17_3 ∧ InI (p1 - 1) ∧ ∃ (t17_4 : Tree), ∃ (r17_5 : (List Int)), ∃ (n17_6 : Int), aO r17_2 n17_3 (p1 - 1) t17_4 r17_5 n17_6 ∧ InI (p1 - 1) ∧ ∃ (t17_7 : Tree), ∃ (r17_8 : (List Int)), ∃ (n17_9 : Int), aO r17_5 n17_6 (p1 - 1) t17_7 r17_8 n17_9 ∧ (Tree.node 20 s17_1 [] [t17_4, t17_7]) = r0 ∧ r17_8 = q0_L ∧ n17_9 = q0_At) : iq (m + 1) p1 r0_2 n0_3 r0 q0_L q0_At := by
 intro K hK
 refine gR 4 rfl ?_
 refine gFR 2 rfl rfl rfl rfl ?_
 obtain ⟨s17_1, r17_2, n17_3, hs89, h⟩ := h
 refine gC hs89 [0] (by kernel_rfl) rfl rfl .rfl ⟨⟨_, rfl, ⟨rfl, ah.rfl⟩⟩, trivial⟩ rfl ?_
 rintro _ _ ⟨rfl, rfl⟩
 refine gR 2 rfl ?_
 obtain ⟨hb, h⟩ := h
 refine gR 1 rfl ?_
 refine gV 126 (.int .i64 (p1 - 1)) rfl (ar hb rfl) rfl ?_
 obtain ⟨t17_4, r17_5, n17_6, hs90, h⟩ := h
 refine gC hs90 [0] (by kernel_rfl) rfl rfl .rfl ⟨⟨_, rfl, ⟨rfl, ah.rfl⟩⟩, trivial⟩ rfl ?_
 rintro _ _ ⟨rfl, rfl⟩
 refine gR 2 rfl ?_
 obtain ⟨hb, h⟩ := h
 refine gR 1 rfl ?_
 refine gV 130 (.int .i64 (p1 - 1)) rfl (ar hb rfl) rfl ?_
 obtain ⟨t17_7, r17_8, n17_9, hs91, h⟩ := h
 refine gC hs91 [0] (by kernel_rfl) rfl rfl .rfl ⟨⟨_, rfl, ⟨rfl, ah.rfl⟩⟩, trivial⟩ rfl ?_
 rintro _ _ ⟨rfl, rfl⟩
 refine gR 1 rfl ?_
 refine gHR 8 (kidsV [t17_4, t17_7]) rfl (pE [t17_4, t17_7]) rfl ?_
 refine gR 7 rfl ?_
 refine gFR 8 rfl (co _) rfl rfl ?_
 obtain ⟨rfl, rfl, rfl⟩ := h
 refine ab (F' := (mkF 168 0 [(4, .ptr 1 0)])) (H' := ⟨2, [(1, .var 29 [.int .i64 ((Tree.node 20 s17_1 [] [t17_4, t17_7]).kind), .str ((Tree.node 20 s17_1 [] [t17_4, t17_7]).text), .row 1 (List.map V.str ((Tree.node 20 s17_1 [] [t17_4, t17_7]).leads)), .row 4 (kidsV ((Tree.node 20 s17_1 [] [t17_4, t17_7]).kids))]), (0, .var 73 [.row 1 (List.map (V.int .i64) r17_8), .int .i64 n17_9])]⟩) [0, 1] [0] rfl hK ⟨⟨_, rfl, .rfl⟩, trivial⟩ ⟨⟨_, rfl, ⟨rfl, (.cons .rfl (.cons .rfl (.cons (.nil 1) (.cons .rfl .nil))))⟩⟩, ⟨⟨_, rfl, ⟨rfl, ah.rfl⟩⟩, trivial⟩⟩ rfl ?_
 exact aC [1] aa (rs := [.cell 4 29]) rfl rfl ⟨rfl, rfl⟩
theorem gM (m : Nat) (p1 : Int) (r0_2 : (List Int)) (n0_3 : Int) (z1v1 : Int) (r0 : Tree) (q0_L : (List Int)) (q0_At : Int) (h : ((z1v1 = 12) → lj m p1 r0_2 n0_3 r0 q0_L q0_At) ∧ ((z1v1 ≠ 12) → InI (p1 - 1) ∧ ∃ (t18_1 : Tree), ∃ (r18_2 : (List Int)), ∃ (n18_3 : Int), aO r0_2 n0_3 (p1 - 1) t18_1 r18_2 n18_3 ∧ (Tree.node 22 [] [] [t18_1]) = r0 ∧ r18_2 = q0_L ∧ n18_3 = q0_At)) : fB (m + 1) p1 r0_2 n0_3 z1v1 r0 q0_L q0_At := by
 intro K hK
 refine gR 6 rfl ?_
 refine gB 134 rfl rfl rfl (fun hd => ?_) (fun hd => ?_)
 refine gT 135 rfl hd rfl ?_
 replace hd := (eq_of_beq hd)
 replace h := h.1 hd
 refine gR 1 rfl ?_
 exact gJ (h K hK) [0, 1] [0] rfl hK ⟨⟨_, rfl, .rfl⟩, ⟨_, rfl, .rfl⟩, ⟨_, rfl, .rfl⟩, trivial⟩ ⟨⟨_, rfl, ⟨rfl, ah.rfl⟩⟩, ⟨⟨_, rfl, ⟨rfl, ah.rfl⟩⟩, trivial⟩⟩ rfl
 refine gF 135 rfl hd rfl ?_
 replace hd := (ne_of_beq_false hd)
 replace h := h.2 hd
 refine gR 8 rfl ?_
 obtain ⟨hb, h⟩ := h
 refine gR 1 rfl ?_
 refine gV 164 (.int .i64 (p1 - 1)) rfl (ar hb rfl) rfl ?_
 obtain ⟨t18_1, r18_2, n18_3, hs92, h⟩ := h
 refine gC hs92 [0] (by kernel_rfl) rfl rfl .rfl ⟨⟨_, rfl, ⟨rfl, ah.rfl⟩⟩, trivial⟩ rfl ?_
 rintro _ _ ⟨rfl, rfl⟩
 refine gR 1 rfl ?_
 refine gHR 4 (kidsV [t18_1]) rfl (jb t18_1) rfl ?_
 refine gR 5 rfl ?_
 refine gFR 4 rfl (co _) rfl rfl ?_
 obtain ⟨rfl, rfl, rfl⟩ := h
 refine ab (F' := (mkF 168 0 [(4, .ptr 1 0)])) (H' := ⟨2, [(1, .var 29 [.int .i64 ((Tree.node 22 [] [] [t18_1]).kind), .str ((Tree.node 22 [] [] [t18_1]).text), .row 1 (List.map V.str ((Tree.node 22 [] [] [t18_1]).leads)), .row 4 (kidsV ((Tree.node 22 [] [] [t18_1]).kids))]), (0, .var 73 [.row 1 (List.map (V.int .i64) r18_2), .int .i64 n18_3])]⟩) [0, 1] [0] rfl hK ⟨⟨_, rfl, .rfl⟩, trivial⟩ ⟨⟨_, rfl, ⟨rfl, (.cons .rfl (.cons .rfl (.cons (.nil 1) (.cons .rfl .nil))))⟩⟩, ⟨⟨_, rfl, ⟨rfl, ah.rfl⟩⟩, trivial⟩⟩ rfl ?_
 exact aC [1] aa (rs := [.cell 4 29]) rfl rfl ⟨rfl, rfl⟩
theorem kP (m : Nat) (p1 : Int) (r0_2 : (List Int)) (n0_3 : Int) (r0 : Tree) (q0_L : (List Int)) (q0_At : Int) (h : ∃ (s19_1 : (List UInt8)), ∃ (r19_2 : (List Int)), ∃ (n19_3 : Int), be r0_2 n0_3 [[43], [45], [42], [60], [61, 61]] s19_1 r19_2 n19_3 ∧ InI (p1 - 1) ∧ ∃ (t19_4 : Tree), ∃ (r19_5 : (List Int)), ∃ (n19_6 : Int), dM r19_2 n19_3 (p1 - 1) t19_4 r19_5 n19_6 ∧ ∃ (n19_7 : Int), ∃ (r19_8 : (List Int)), ∃ (n19_9 : Int), aF r19_5 n19_6 3 n19_7 r19_8 n19_9 ∧ ((n19_7 = 0) → ∃ (s19_10 : (List UInt8)), ∃ (r19_11 : (List Int)), ∃ (n19_12 : Int), be r19_8 n19_9 [[43], [42]] s19_10 r19_11 n19_12 ∧ ∃ (t19_13 : Tree), ∃ (r19_14 : (List Int)), ∃ (n19_15 : Int), dM r19_11 n19_12 0 t19_13 r19_14 n19_15 ∧ InI (p1 - 1) ∧ ∃ (t19_16 : Tree), ∃ (r19_17 : (List Int)), ∃ (n19_18 : Int), dM r19_14 n19_15 (p1 - 1) t19_16 r19_17 n19_18 ∧ (Tree.node 21 s19_1 [] [(Tree.node 21 s19_10 [] [t19_4, t19_13]), t19_16]) = r0 ∧ r19_17 = q0_L ∧ n19_18 = q0_At) ∧ ((n19_7 ≠ 0) → InI (p1 - 1) ∧ ∃ (t19_19 : Tree), ∃ (r19_20 : (List Int)), ∃ (n19_21 : Int), dM r19_8 n19_9 (p1 - 1) t19_19 r19_20 n19_21 ∧ (Tree.node 21 s19_1 [] [t19_4, t19_19]) = r0 ∧ r19_20 = q0_L ∧ n19_21 = q0_At)) : lj (m + 1) p1 r0_2 n0_3 r0 q0_L q0_At := by
 intro K hK
 refine gR 4 rfl ?_
 refine gFR 2 rfl rfl rfl rfl ?_
 obtain ⟨s19_1, r19_2, n19_3, hs93, h⟩ := h
 refine gC hs93 [0] (by kernel_rfl) rfl rfl .rfl ⟨⟨_, rfl, ⟨rfl, ah.rfl⟩⟩, trivial⟩ rfl ?_
 rintro _ _ ⟨rfl, rfl⟩
 refine gR 7 rfl ?_
 obtain ⟨hb, h⟩ := h
 refine gR 1 rfl ?_
 refine gV 141 (.int .i64 (p1 - 1)) rfl (ar hb rfl) rfl ?_
 obtain ⟨t19_4, r19_5, n19_6, hs94, h⟩ := h
 refine gC hs94 [0] (by kernel_rfl) rfl rfl .rfl ⟨⟨_, rfl, ⟨rfl, ah.rfl⟩⟩, trivial⟩ rfl ?_
 rintro _ _ ⟨rfl, rfl⟩
 refine gR 8 rfl ?_
 obtain ⟨n19_7, r19_8, n19_9, hs95, h⟩ := h
 refine gC hs95 [0] (by kernel_rfl) rfl rfl .rfl ⟨⟨_, rfl, ⟨rfl, ah.rfl⟩⟩, trivial⟩ rfl ?_
 rintro _ _ ⟨rfl, rfl⟩
 refine gR 3 rfl ?_
 refine gB 145 rfl rfl rfl (fun hd => ?_) (fun hd => ?_)
 replace hd := (eq_of_beq hd)
 replace h := h.1 hd
 refine gR 1 rfl ?_
 refine gDs [6] 8 9 rfl (by kernel_rfl) (by kernel_rfl) ?_
 refine gDr [(0, 2), (3, 3), (4, 2), (1, 0)] (by kernel_rfl) rfl rfl ?_
 refine gFR 8 rfl rfl rfl rfl ?_
 obtain ⟨s19_10, r19_11, n19_12, hs96, h⟩ := h
 refine gDC 2 hs96 [0] (by kernel_rfl) rfl (by kernel_rfl) rfl rfl .rfl ⟨⟨_, rfl, ⟨rfl, ah.rfl⟩⟩, trivial⟩ (by kernel_rfl) rfl ?_
 rintro _ _ ⟨rfl, rfl⟩
 obtain ⟨t19_13, r19_14, n19_15, hs97, h⟩ := h
 refine gDC 5 hs97 [0] (by kernel_rfl) rfl (by kernel_rfl) rfl rfl .rfl ⟨⟨_, rfl, ⟨rfl, ah.rfl⟩⟩, trivial⟩ (by kernel_rfl) rfl ?_
 rintro _ _ ⟨rfl, rfl⟩
 refine gDr [(6, 0)] (by kernel_rfl) rfl rfl ?_
 refine gHR 12 (kidsV [t19_4, t19_13]) rfl (pE [t19_4, t19_13]) rfl ?_
 refine gDr [(7, 0), (8, 1)] (by kernel_rfl) rfl rfl ?_
 refine gDe (by kernel_rfl) ?_
 refine gR 2 rfl ?_
 refine gDs [6] 8 9 rfl (by kernel_rfl) (by kernel_rfl) ?_
 refine gDr [(0, 2), (1, 3), (2, 2), (3, 0)] (by kernel_rfl) rfl rfl ?_
 obtain ⟨hb, h⟩ := h
 refine gDr [(4, 0)] (by kernel_rfl) rfl rfl ?_
 refine gV 158 (.int .i64 (p1 - 1)) rfl (ar hb rfl) rfl ?_
 obtain ⟨t19_16, r19_17, n19_18, hs98, h⟩ := h
 refine gDC 5 hs98 [0] (by kernel_rfl) rfl (by kernel_rfl) rfl rfl .rfl ⟨⟨_, rfl, ⟨rfl, ah.rfl⟩⟩, trivial⟩ (by kernel_rfl) rfl ?_
 rintro _ _ ⟨rfl, rfl⟩
 refine gFR 12 rfl (co _) rfl rfl ?_
 refine gS 155 (.agg [.int .i64 21, .str s19_10, .row 1 [], .row 4 (kidsV [t19_4, t19_13])]) rfl (.agg (.cons .rfl (.cons .rfl (.cons (.nil 1) (.cons .rfl .nil))))) rfl ?_
 refine gDr [(6, 0)] (by kernel_rfl) rfl rfl ?_
 refine gHR 15 (kidsV [(Tree.node 21 s19_10 [] [t19_4, t19_13]), t19_16]) rfl (pE [(Tree.node 21 s19_10 [] [t19_4, t19_13]), t19_16]) rfl ?_
 refine gDr [(7, 0), (8, 1)] (by kernel_rfl) rfl rfl ?_
 refine gDe (by kernel_rfl) ?_
 refine gR 4 rfl ?_
 refine gFR 15 rfl (co _) rfl rfl ?_
 obtain ⟨rfl, rfl, rfl⟩ := h
 refine ab (F' := (mkF 168 0 [(4, .ptr 1 0)])) (H' := ⟨2, [(1, .var 29 [.int .i64 ((Tree.node 21 s19_1 [] [(Tree.node 21 s19_10 [] [t19_4, t19_13]), t19_16]).kind), .str ((Tree.node 21 s19_1 [] [(Tree.node 21 s19_10 [] [t19_4, t19_13]), t19_16]).text), .row 1 (List.map V.str ((Tree.node 21 s19_1 [] [(Tree.node 21 s19_10 [] [t19_4, t19_13]), t19_16]).leads)), .row 4 (kidsV ((Tree.node 21 s19_1 [] [(Tree.node 21 s19_10 [] [t19_4, t19_13]), t19_16]).kids))]), (0, .var 73 [.row 1 (List.map (V.int .i64) r19_17), .int .i64 n19_18])]⟩) [0, 1] [0] rfl hK ⟨⟨_, rfl, .rfl⟩, trivial⟩ ⟨⟨_, rfl, ⟨rfl, (.cons .rfl (.cons .rfl (.cons (.nil 1) (.cons .rfl .nil))))⟩⟩, ⟨⟨_, rfl, ⟨rfl, ah.rfl⟩⟩, trivial⟩⟩ rfl ?_
 exact aC [1] aa (rs := [.cell 4 29]) rfl rfl ⟨rfl, rfl⟩
 replace hd := (ne_of_beq_false hd)
 replace h := h.2 hd
 refine gR 4 rfl ?_
 refine gDs [6] 8 9 rfl (by kernel_rfl) (by kernel_rfl) ?_
 refine gDr [(0, 2), (1, 3), (2, 2), (3, 0)] (by kernel_rfl) rfl rfl ?_
 obtain ⟨hb, h⟩ := h
 refine gDr [(4, 0)] (by kernel_rfl) rfl rfl ?_
 refine gV 158 (.int .i64 (p1 - 1)) rfl (ar hb rfl) rfl ?_
 obtain ⟨t19_19, r19_20, n19_21, hs99, h⟩ := h
 refine gDC 5 hs99 [0] (by kernel_rfl) rfl (by kernel_rfl) rfl rfl .rfl ⟨⟨_, rfl, ⟨rfl, ah.rfl⟩⟩, trivial⟩ (by kernel_rfl) rfl ?_
 rintro _ _ ⟨rfl, rfl⟩
 refine gDr [(6, 0)] (by kernel_rfl) rfl rfl ?_
 refine gHR 10 (kidsV [t19_4, t19_19]) rfl (pE [t19_4, t19_19]) rfl ?_
 refine gDr [(7, 0), (8, 1)] (by kernel_rfl) rfl rfl ?_
 refine gDe (by kernel_rfl) ?_
 refine gR 4 rfl ?_
 refine gFR 10 rfl (co _) rfl rfl ?_
 obtain ⟨rfl, rfl, rfl⟩ := h
 refine ab (F' := (mkF 168 0 [(4, .ptr 1 0)])) (H' := ⟨2, [(1, .var 29 [.int .i64 ((Tree.node 21 s19_1 [] [t19_4, t19_19]).kind), .str ((Tree.node 21 s19_1 [] [t19_4, t19_19]).text), .row 1 (List.map V.str ((Tree.node 21 s19_1 [] [t19_4, t19_19]).leads)), .row 4 (kidsV ((Tree.node 21 s19_1 [] [t19_4, t19_19]).kids))]), (0, .var 73 [.row 1 (List.map (V.int .i64) r19_20), .int .i64 n19_21])]⟩) [0, 1] [0] rfl hK ⟨⟨_, rfl, .rfl⟩, trivial⟩ ⟨⟨_, rfl, ⟨rfl, (.cons .rfl (.cons .rfl (.cons (.nil 1) (.cons .rfl .nil))))⟩⟩, ⟨⟨_, rfl, ⟨rfl, ah.rfl⟩⟩, trivial⟩⟩ rfl ?_
 exact aC [1] aa (rs := [.cell 4 29]) rfl rfl ⟨rfl, rfl⟩
def gr (m : Nat) (s0_10 : (List UInt8)) (l1v1 : (List Int)) (z1v2 : Int) (l1v3 : (List Tree)) (z1v4 : Int) (r0 : Tree) (q0_L : (List Int)) (q0_At : Int) : Prop := ∀ (K : Ctx) (j1 : Nat), au K [0] → m ≤ j1 → Go Tryz.prog K (bodyPost Tryz.prog Tryz.f42 (SP K (fun u G => u = .agg (ai r0) ∧ G = ⟨2, [(0, .var 73 [.row 1 (List.map (V.int .i64) q0_L), .int .i64 q0_At])]⟩))) (.code (cL (cK (cB (cA (cB (cB (cB (ae Tryz.f42))))))))) [.loop (cL (cK (cB (cA (cB (cB (cB (ae Tryz.f42)))))))) j1, .blk 0, .seq (cB (cB (cB (cB (ae Tryz.f42)))))] 47 (mkF 47 0 [(0, .ptr 0 0), (2, .ptr 1 0), (3, .ptr 2 0), (4, .int .i64 z1v4)]) ⟨4, [(3, .row 29 4 (kidsV l1v3)), (2, .var 29 [.int .i64 2, .str s0_10, .nils, .sl 3]), (1, .var 29 [.int .i64 0, .str [], .nils, .nils]), (0, .var 73 [.row 1 (List.map (V.int .i64) l1v1), .int .i64 z1v2])]⟩
theorem mj (m : Nat) (p0_L : (List Int)) (p0_At : Int) (r0 : Tree) (q0_L : (List Int)) (q0_At : Int) (h : ∃ (n0_1 : Int), ∃ (r0_2 : (List Int)), ∃ (n0_3 : Int), aF p0_L p0_At 5 n0_1 r0_2 n0_3 ∧ ((n0_1 = 0) → ∃ (s0_4 : (List UInt8)), ∃ (r0_5 : (List Int)), ∃ (n0_6 : Int), be r0_2 n0_3 [[84], [85]] s0_4 r0_5 n0_6 ∧ ∃ (t0_7 : Tree), ∃ (r0_8 : (List Int)), ∃ (n0_9 : Int), ci r0_5 n0_6 2 t0_7 r0_8 n0_9 ∧ (Tree.node 3 s0_4 [] [t0_7]) = r0 ∧ r0_8 = q0_L ∧ n0_9 = q0_At) ∧ ((n0_1 ≠ 0) → ∃ (s0_10 : (List UInt8)), ∃ (r0_11 : (List Int)), ∃ (n0_12 : Int), be r0_2 n0_3 [[102], [103], [104]] s0_10 r0_11 n0_12 ∧ ∃ (n0_13 : Int), ∃ (r0_14 : (List Int)), ∃ (n0_15 : Int), aF r0_11 n0_12 4 n0_13 r0_14 n0_15 ∧ gr m s0_10 r0_14 n0_15 ([] : List Tree) n0_13 r0 q0_L q0_At)) : jV p0_L p0_At r0 q0_L q0_At := by
 refine ak 47 [0] Tryz.func42 rfl rfl rfl (aA rfl) fun K hK => ?_
 refine gR 9 rfl ?_
 obtain ⟨n0_1, r0_2, n0_3, hs19, h⟩ := h
 refine gC hs19 [0] (by kernel_rfl) rfl rfl .rfl ⟨⟨_, rfl, ⟨rfl, ah.rfl⟩⟩, trivial⟩ rfl ?_
 rintro _ _ ⟨rfl, rfl⟩
 refine gR 3 rfl ?_
 refine gB 7 rfl rfl rfl (fun hd => ?_) (fun hd => ?_)
 replace hd := (eq_of_beq hd)
 replace h := h.1 hd
 refine gR 5 rfl ?_
 refine gFR 3 rfl rfl rfl rfl ?_
 obtain ⟨s0_4, r0_5, n0_6, hs20, h⟩ := h
 refine gC hs20 [0] (by kernel_rfl) rfl rfl .rfl ⟨⟨_, rfl, ⟨rfl, ah.rfl⟩⟩, trivial⟩ rfl ?_
 rintro _ _ ⟨rfl, rfl⟩
 refine gR 1 rfl ?_
 obtain ⟨t0_7, r0_8, n0_9, hs21, h⟩ := h
 refine gC hs21 [0] (by kernel_rfl) rfl rfl .rfl ⟨⟨_, rfl, ⟨rfl, ah.rfl⟩⟩, trivial⟩ rfl ?_
 rintro _ _ ⟨rfl, rfl⟩
 refine gR 1 rfl ?_
 refine gHR 7 (kidsV [t0_7]) rfl (jb t0_7) rfl ?_
 refine gR 6 rfl ?_
 refine gFR 7 rfl (co _) rfl rfl ?_
 obtain ⟨rfl, rfl, rfl⟩ := h
 refine ab (F' := (mkF 47 0 [(2, .ptr 1 0)])) (H' := ⟨2, [(1, .var 29 [.int .i64 ((Tree.node 3 s0_4 [] [t0_7]).kind), .str ((Tree.node 3 s0_4 [] [t0_7]).text), .row 1 (List.map V.str ((Tree.node 3 s0_4 [] [t0_7]).leads)), .row 4 (kidsV ((Tree.node 3 s0_4 [] [t0_7]).kids))]), (0, .var 73 [.row 1 (List.map (V.int .i64) r0_8), .int .i64 n0_9])]⟩) [0, 1] [0] rfl hK ⟨⟨_, rfl, .rfl⟩, trivial⟩ ⟨⟨_, rfl, ⟨rfl, (.cons .rfl (.cons .rfl (.cons (.nil 1) (.cons .rfl .nil))))⟩⟩, ⟨⟨_, rfl, ⟨rfl, ah.rfl⟩⟩, trivial⟩⟩ rfl ?_
 exact aC [1] aa (rs := [.cell 2 29]) rfl rfl ⟨rfl, rfl⟩
 replace hd := (ne_of_beq_false hd)
 replace h := h.2 hd
 refine gR 7 rfl ?_
 refine gFR 3 rfl rfl rfl rfl ?_
 obtain ⟨s0_10, r0_11, n0_12, hs22, h⟩ := h
 refine gC hs22 [0] (by kernel_rfl) rfl rfl .rfl ⟨⟨_, rfl, ⟨rfl, ah.rfl⟩⟩, trivial⟩ rfl ?_
 rintro _ _ ⟨rfl, rfl⟩
 refine gR 9 rfl ?_
 obtain ⟨n0_13, r0_14, n0_15, hs23, h⟩ := h
 refine gC hs23 [0] (by kernel_rfl) rfl rfl .rfl ⟨⟨_, rfl, ⟨rfl, ah.rfl⟩⟩, trivial⟩ rfl ?_
 rintro _ _ ⟨rfl, rfl⟩
 refine gR 4 rfl ?_
 refine go_loop m ?_
 refine gNC 5 3 29 4 rfl rfl rfl rfl ?_
 exact gJ (h K _ hK (by omega)) [0, 1, 5, 7] [0] rfl hK ⟨⟨_, rfl, .rfl⟩, ⟨_, rfl, .rfl⟩, ⟨_, rfl, .rfl⟩, ⟨_, rfl, .rfl⟩, trivial⟩ ⟨⟨_, rfl, ⟨rfl, rfl, rfl⟩⟩, ⟨⟨_, rfl, ⟨rfl, ah.rfl⟩⟩, ⟨⟨_, rfl, ⟨rfl, ah.rfl⟩⟩, ⟨⟨_, rfl, ⟨rfl, ah.rfl⟩⟩, trivial⟩⟩⟩⟩ rfl
theorem l6 (m : Nat) (s0_10 : (List UInt8)) (l1v1 : (List Int)) (z1v2 : Int) (l1v3 : (List Tree)) (z1v4 : Int) (r0 : Tree) (q0_L : (List Int)) (q0_At : Int) (h : ((0 < z1v4) → ∃ (s1_1 : (List UInt8)), ∃ (r1_2 : (List Int)), ∃ (n1_3 : Int), be l1v1 z1v2 [[120], [121], [122]] s1_1 r1_2 n1_3 ∧ ∃ (t1_4 : Tree), ∃ (r1_5 : (List Int)), ∃ (n1_6 : Int), ci r1_2 n1_3 1 t1_4 r1_5 n1_6 ∧ (l1v3 ++ [(Tree.node 4 s1_1 [] [t1_4])]).length ≤ 1000000000 ∧ InI (z1v4 - 1) ∧ gr m s0_10 r1_5 n1_6 (l1v3 ++ [(Tree.node 4 s1_1 [] [t1_4])]) (z1v4 - 1) r0 q0_L q0_At) ∧ ((¬ 0 < z1v4) → ∃ (t1_7 : Tree), ∃ (r1_8 : (List Int)), ∃ (n1_9 : Int), ci l1v1 z1v2 1 t1_7 r1_8 n1_9 ∧ ∃ (t1_10 : Tree), ∃ (r1_11 : (List Int)), ∃ (n1_12 : Int), aO r1_8 n1_9 3 t1_10 r1_11 n1_12 ∧ (l1v3 ++ [t1_7, t1_10]).length ≤ 1000000000 ∧ (Tree.node 2 s0_10 [] (l1v3 ++ [t1_7, t1_10])) = r0 ∧ r1_11 = q0_L ∧ n1_12 = q0_At)) : gr (m + 1) s0_10 l1v1 z1v2 l1v3 z1v4 r0 q0_L q0_At := by
 intro K j1 hK hj1
 obtain ⟨j1, rfl⟩ : ∃ j, j1 = j + 1 := ⟨j1 - 1, by omega⟩
 refine gR 7 rfl ?_
 refine gB 22 rfl rfl rfl (fun hd => ?_) (fun hd => ?_)
 replace hd := (of_decide_eq_true hd)
 replace h := h.1 hd
 refine gR 5 rfl ?_
 refine gDs [2] 12 13 rfl (by kernel_rfl) (by kernel_rfl) ?_
 refine gDr [(0, 2), (1, 3), (2, 2), (5, 2), (3, 0)] (by kernel_rfl) rfl rfl ?_
 refine gFR 4 rfl rfl rfl rfl ?_
 obtain ⟨s1_1, r1_2, n1_3, hs24, h⟩ := h
 refine gDC 4 hs24 [0] (by kernel_rfl) rfl (by kernel_rfl) rfl rfl .rfl ⟨⟨_, rfl, ⟨rfl, ah.rfl⟩⟩, trivial⟩ (by kernel_rfl) rfl ?_
 rintro _ _ ⟨rfl, rfl⟩
 obtain ⟨t1_4, r1_5, n1_6, hs25, h⟩ := h
 refine gDC 6 hs25 [0] (by kernel_rfl) rfl (by kernel_rfl) rfl rfl .rfl ⟨⟨_, rfl, ⟨rfl, ah.rfl⟩⟩, trivial⟩ (by kernel_rfl) rfl ?_
 rintro _ _ ⟨rfl, rfl⟩
 refine gDr [(7, 0)] (by kernel_rfl) rfl rfl ?_
 refine gHR 8 (kidsV [t1_4]) rfl (jb t1_4) rfl ?_
 refine gDr [(8, 0)] (by kernel_rfl) rfl rfl ?_
 refine gFR 8 rfl (co _) rfl rfl ?_
 refine gS 33 (.agg [.int .i64 4, .str s1_1, .row 1 [], .row 4 (kidsV [t1_4])]) rfl (.agg (.cons .rfl (.cons .rfl (.cons (.nil 1) (.cons .rfl .nil))))) rfl ?_
 refine gDr [(9, 0)] (by kernel_rfl) rfl rfl ?_
 refine gHR 9 (kidsV [(Tree.node 4 s1_1 [] [t1_4])]) rfl (jb (Tree.node 4 s1_1 [] [t1_4])) rfl ?_
 obtain ⟨hb, h⟩ := h
 refine cW 10 (.repl 3 (.row 29 4 (kidsV (l1v3 ++ [(Tree.node 4 s1_1 [] [t1_4])])))) rfl (by kernel_rfl) (bN aa rfl rfl rfl rfl rfl (fh l1v3 [(Tree.node 4 s1_1 [] [t1_4])]).symm (by rw [aD]; exact hb)) (okR rfl) rfl (by kernel_rfl) rfl rfl ?_
 refine gDr [(11, 0), (12, 1)] (by kernel_rfl) rfl rfl ?_
 refine gDe (by kernel_rfl) ?_
 refine gR 4 rfl ?_
 obtain ⟨hb, h⟩ := h
 refine gR 1 rfl ?_
 refine gV 24 (.int .i64 (z1v4 - 1)) rfl (ar hb rfl) rfl ?_
 refine gR 2 rfl ?_
 refine aq ?_
 exact gJ (h K _ hK (by omega)) [0, 1, 2, 10] [0] rfl hK ⟨⟨_, rfl, .rfl⟩, ⟨_, rfl, .rfl⟩, ⟨_, rfl, .rfl⟩, ⟨_, rfl, .rfl⟩, trivial⟩ ⟨⟨_, rfl, ⟨rfl, rfl, (eO _ (l1v3 ++ [(Tree.node 4 s1_1 [] [t1_4])])).symm⟩⟩, ⟨⟨_, rfl, ⟨rfl, ah.rfl⟩⟩, ⟨⟨_, rfl, ⟨rfl, ah.rfl⟩⟩, ⟨⟨_, rfl, ⟨rfl, ah.rfl⟩⟩, trivial⟩⟩⟩⟩ rfl
 replace hd := (of_decide_eq_false hd)
 replace h := h.2 hd
 refine gR 3 rfl ?_
 refine av ?_
 refine gR 3 rfl ?_
 refine gDs [2] 9 10 rfl (by kernel_rfl) (by kernel_rfl) ?_
 refine gDr [(0, 2), (1, 3), (2, 2), (4, 2)] (by kernel_rfl) rfl rfl ?_
 obtain ⟨t1_7, r1_8, n1_9, hs26, h⟩ := h
 refine gDC 3 hs26 [0] (by kernel_rfl) rfl (by kernel_rfl) rfl rfl .rfl ⟨⟨_, rfl, ⟨rfl, ah.rfl⟩⟩, trivial⟩ (by kernel_rfl) rfl ?_
 rintro _ _ ⟨rfl, rfl⟩
 obtain ⟨t1_10, r1_11, n1_12, hs27, h⟩ := h
 refine gDC 5 hs27 [0] (by kernel_rfl) rfl (by kernel_rfl) rfl rfl .rfl ⟨⟨_, rfl, ⟨rfl, ah.rfl⟩⟩, trivial⟩ (by kernel_rfl) rfl ?_
 rintro _ _ ⟨rfl, rfl⟩
 refine gDr [(6, 0)] (by kernel_rfl) rfl rfl ?_
 refine gHR 8 (kidsV [t1_7, t1_10]) rfl (pE [t1_7, t1_10]) rfl ?_
 obtain ⟨hb, h⟩ := h
 refine cW 7 (.repl 3 (.row 29 4 (kidsV (l1v3 ++ [t1_7, t1_10])))) rfl (by kernel_rfl) (bN aa rfl rfl rfl rfl rfl (fh _ _).symm (by rw [aD]; exact hb)) (okR rfl) rfl (by kernel_rfl) rfl rfl ?_
 refine gDr [(8, 0), (9, 1)] (by kernel_rfl) rfl rfl ?_
 refine gDe (by kernel_rfl) ?_
 refine gR 8 rfl ?_
 refine gFR 9 rfl (co _) rfl rfl ?_
 obtain ⟨rfl, rfl, rfl⟩ := h
 refine ab (F' := (mkF 47 0 [(2, .ptr 1 0)])) (H' := ⟨2, [(1, .var 29 [.int .i64 ((Tree.node 2 s0_10 [] (l1v3 ++ [t1_7, t1_10])).kind), .str ((Tree.node 2 s0_10 [] (l1v3 ++ [t1_7, t1_10])).text), .row 1 (List.map V.str ((Tree.node 2 s0_10 [] (l1v3 ++ [t1_7, t1_10])).leads)), .row 4 (kidsV ((Tree.node 2 s0_10 [] (l1v3 ++ [t1_7, t1_10])).kids))]), (0, .var 73 [.row 1 (List.map (V.int .i64) r1_11), .int .i64 n1_12])]⟩) [0, 1] [0] rfl hK ⟨⟨_, rfl, .rfl⟩, trivial⟩ ⟨⟨_, rfl, ⟨rfl, (.cons .rfl (.cons .rfl (.cons (.nil 1) (.cons .rfl .nil))))⟩⟩, ⟨⟨_, rfl, ⟨rfl, ah.rfl⟩⟩, trivial⟩⟩ rfl ?_
 exact aC [1] aa (rs := [.cell 2 29]) rfl rfl ⟨rfl, rfl⟩
def cY (m : Nat) (p1 : Tree) (l1v1 : (List Int)) (z1v2 : Int) (l1v3 : (List (List UInt8))) (i1v4 : Nat) (r0 : Tree) (q0_L : (List Int)) (q0_At : Int) : Prop := ∀ (K : Ctx) (j1 : Nat), au K [0] → m ≤ j1 → Go Tryz.prog K (bodyPost Tryz.prog Tryz.f44 (SP K (fun u G => u = .agg (ai r0) ∧ G = ⟨2, [(0, .var 73 [.row 1 (List.map (V.int .i64) q0_L), .int .i64 q0_At])]⟩))) (.code (cL (cK (cB (cA (cB (cB (ae Tryz.f44)))))))) [.loop (cL (cK (cB (cA (cB (cB (ae Tryz.f44))))))) j1, .blk 0, .seq (cB (cB (cB (ae Tryz.f44))))] 53 (mkF 53 0 [(0, .ptr 0 0), (3, .ptr 1 0), (4, .ptr 2 0), (5, .int .i64 ((i1v4 : Nat) : Int))]) ⟨4, [(3, .row 9 1 (List.map V.str l1v3)), (2, .var 29 [.int .i64 0, .str [], .nils, .nils]), (1, .var 29 [.int .i64 p1.kind, .str p1.text, .sl 3, .row 4 (kidsV p1.kids)]), (0, .var 73 [.row 1 (List.map (V.int .i64) l1v1), .int .i64 z1v2])]⟩
def d4 (m : Nat) (p1 : Tree) (l2v1 : (List Int)) (z2v2 : Int) (l2v3 : (List Tree)) (i2v4 : Nat) (l2v5 : (List (List UInt8))) (r0 : Tree) (q0_L : (List Int)) (q0_At : Int) : Prop := ∀ (K : Ctx) (j1 : Nat), au K [0] → m ≤ j1 → Go Tryz.prog K (bodyPost Tryz.prog Tryz.f44 (SP K (fun u G => u = .agg (ai r0) ∧ G = ⟨2, [(0, .var 73 [.row 1 (List.map (V.int .i64) q0_L), .int .i64 q0_At])]⟩))) (.code (cL (cK (cB (cA (cB (cB (cB (cB (ae Tryz.f44)))))))))) [.loop (cL (cK (cB (cA (cB (cB (cB (cB (ae Tryz.f44))))))))) j1, .blk 2, .seq (cB (cB (cB (cB (cB (ae Tryz.f44))))))] 53 (mkF 53 0 [(0, .ptr 0 0), (3, .ptr 1 0), (4, .ptr 2 0), (6, .int .i64 ((i2v4 : Nat) : Int))]) ⟨5, [(4, .row 29 4 (kidsV l2v3)), (3, .row 9 1 (List.map V.str l2v5)), (2, .var 29 [.int .i64 0, .str [], .nils, .nils]), (1, .var 29 [.int .i64 p1.kind, .str p1.text, .sl 3, .sl 4]), (0, .var 73 [.row 1 (List.map (V.int .i64) l2v1), .int .i64 z2v2])]⟩
theorem o8 (m : Nat) (p0_L : (List Int)) (p0_At : Int) (p1 : Tree) (r0 : Tree) (q0_L : (List Int)) (q0_At : Int) (h : p1.leads.length ≤ 1000000000 ∧ cY m p1 p0_L p0_At p1.leads 0 r0 q0_L q0_At) : fX p0_L p0_At p1 r0 q0_L q0_At := by
 refine ak 53 [0] Tryz.func44 rfl rfl rfl (aA rfl) fun K hK => ?_
 refine gR 11 rfl ?_
 obtain ⟨hb, h⟩ := h
 refine gDo (.repl 3 (.row 9 1 (List.map V.str p1.leads))) (bN aa rfl rfl rfl rfl rfl (List.nil_append _) (by rw [aV]; exact hb)) (okR rfl) rfl rfl rfl ?_
 refine gR 11 rfl ?_
 refine go_loop m ?_
 exact gJ (h K _ hK (by omega)) [0, 1, 2, 4] [0] rfl hK ⟨⟨_, rfl, .rfl⟩, ⟨_, rfl, .rfl⟩, ⟨_, rfl, .rfl⟩, ⟨_, rfl, .rfl⟩, trivial⟩ ⟨⟨_, rfl, ⟨rfl, rfl, (an _ V.str (fun _ => rfl) p1.leads).symm⟩⟩, ⟨⟨_, rfl, ⟨rfl, ah.rfl⟩⟩, ⟨⟨_, rfl, ⟨rfl, ah.rfl⟩⟩, ⟨⟨_, rfl, ⟨rfl, ah.rfl⟩⟩, trivial⟩⟩⟩⟩ rfl
theorem ia (m : Nat) (p1 : Tree) (l1v1 : (List Int)) (z1v2 : Int) (l1v3 : (List (List UInt8))) (i1v4 : Nat) (r0 : Tree) (q0_L : (List Int)) (q0_At : Int) (h : ((i1v4 < l1v3.length) → ∃ (n1_1 : Int), ∃ (r1_2 : (List Int)), ∃ (n1_3 : Int), aF l1v1 z1v2 9 n1_1 r1_2 n1_3 ∧ ((n1_1 = 1) → ∃ (s1_4 : (List UInt8)), ∃ (r1_5 : (List Int)), ∃ (n1_6 : Int), be r1_2 n1_3 [[32, 35, 32, 99, 10], [32, 32], [10, 9], [35, 10]] s1_4 r1_5 n1_6 ∧ ∃ (s1_7 : (List UInt8)), l1v3[i1v4]? = some s1_7 ∧ cY m p1 r1_5 n1_6 (l1v3.set i1v4 s1_4) (i1v4 + 1) r0 q0_L q0_At) ∧ ((n1_1 ≠ 1) → cY m p1 r1_2 n1_3 l1v3 (i1v4 + 1) r0 q0_L q0_At)) ∧ ((¬ i1v4 < l1v3.length) → p1.kids.length ≤ 1000000000 ∧ d4 m p1 l1v1 z1v2 p1.kids 0 l1v3 r0 q0_L q0_At)) : cY (m + 1) p1 l1v1 z1v2 l1v3 i1v4 r0 q0_L q0_At := by
 intro K j1 hK hj1
 obtain ⟨j1, rfl⟩ : ∃ j, j1 = j + 1 := ⟨j1 - 1, by omega⟩
 refine gR 7 rfl ?_
 refine gV 15 (.int .i64 ((l1v3.length : Nat) : Int)) rfl (bc (aV V.str _)) rfl ?_
 refine gLO 3 rfl (aV V.str _) fun hl16 => ?_
 refine gR 3 rfl ?_
 refine gB 16 rfl rfl rfl (fun hd => ?_) (fun hd => ?_)
 replace hd := (cO hd)
 replace h := h.1 hd
 refine gR 8 rfl ?_
 obtain ⟨n1_1, r1_2, n1_3, hs17, h⟩ := h
 refine gC hs17 [0] (by kernel_rfl) rfl rfl .rfl ⟨⟨_, rfl, ⟨rfl, ah.rfl⟩⟩, trivial⟩ rfl ?_
 rintro _ _ ⟨rfl, rfl⟩
 refine gR 3 rfl ?_
 refine gB 21 rfl rfl rfl (fun hd => ?_) (fun hd => ?_)
 replace hd := (eq_of_beq hd)
 replace h := h.1 hd
 refine gR 1 rfl ?_
 refine gDs [1] 7 8 rfl (by kernel_rfl) (by kernel_rfl) ?_
 refine gDr [(0, 2), (1, 3), (2, 2), (3, 2), (4, 0)] (by kernel_rfl) rfl rfl ?_
 refine gFR 5 rfl rfl rfl rfl ?_
 obtain ⟨s1_4, r1_5, n1_6, hs18, h⟩ := h
 refine gDC 5 hs18 [0] (by kernel_rfl) rfl (by kernel_rfl) rfl rfl .rfl ⟨⟨_, rfl, ⟨rfl, ah.rfl⟩⟩, trivial⟩ (by kernel_rfl) rfl ?_
 rintro _ _ ⟨rfl, rfl⟩
 obtain ⟨s1_7, hxs1_7, h⟩ := h
 refine dF 6 rfl (by kernel_rfl) (yIO aa rfl rfl rfl rfl (by have := (mapget (f := V.str) hxs1_7); exact (List.getElem?_eq_some_iff.1 this).1)) rfl rfl ?_
 refine cW 7 (.set 3 (.row 9 1 (List.map V.str (l1v3.set i1v4 s1_4)))) rfl (by kernel_rfl) (dSe aa rfl rfl rfl rfl (mapget (f := V.str) hxs1_7) rfl (mP V.str l1v3 i1v4 s1_4)) (okS rfl) rfl (by kernel_rfl) rfl rfl ?_
 refine gDe (by kernel_rfl) ?_
 refine gR 5 rfl ?_
 refine gV 18 (.int .i64 ((i1v4 + 1 : Nat) : Int)) rfl (ar (by have := hl16; omega) (by omega)) rfl ?_
 refine gR 2 rfl ?_
 refine aq ?_
 exact gJ (h K _ hK (by omega)) [0, 1, 2, 3] [0] rfl hK ⟨⟨_, rfl, .rfl⟩, ⟨_, rfl, .rfl⟩, ⟨_, rfl, .rfl⟩, ⟨_, rfl, .rfl⟩, trivial⟩ ⟨⟨_, rfl, ⟨rfl, rfl, (an _ V.str (fun _ => rfl) (l1v3.set i1v4 s1_4)).symm⟩⟩, ⟨⟨_, rfl, ⟨rfl, ah.rfl⟩⟩, ⟨⟨_, rfl, ⟨rfl, ah.rfl⟩⟩, ⟨⟨_, rfl, ⟨rfl, ah.rfl⟩⟩, trivial⟩⟩⟩⟩ rfl
 replace hd := (ne_of_beq_false hd)
 replace h := h.2 hd
 refine gR 7 rfl ?_
 refine gV 18 (.int .i64 ((i1v4 + 1 : Nat) : Int)) rfl (ar (by have := hl16; omega) (by omega)) rfl ?_
 refine gR 2 rfl ?_
 refine aq ?_
 exact gJ (h K _ hK (by omega)) [0, 1, 2, 3] [0] rfl hK ⟨⟨_, rfl, .rfl⟩, ⟨_, rfl, .rfl⟩, ⟨_, rfl, .rfl⟩, ⟨_, rfl, .rfl⟩, trivial⟩ ⟨⟨_, rfl, ⟨rfl, rfl, (an _ V.str (fun _ => rfl) l1v3).symm⟩⟩, ⟨⟨_, rfl, ⟨rfl, ah.rfl⟩⟩, ⟨⟨_, rfl, ⟨rfl, ah.rfl⟩⟩, ⟨⟨_, rfl, ⟨rfl, ah.rfl⟩⟩, trivial⟩⟩⟩⟩ rfl
 replace hd := (cI hd)
 replace h := h.2 hd
 refine gR 3 rfl ?_
 refine av ?_
 refine gR 7 rfl ?_
 obtain ⟨hb, h⟩ := h
 refine gDo (.repl 4 (.row 29 4 (kidsV p1.kids))) (bN aa rfl rfl rfl rfl rfl (List.nil_append _) (by rw [aD]; exact hb)) (okR rfl) rfl rfl rfl ?_
 refine gR 11 rfl ?_
 refine go_loop m ?_
 exact gJ (h K _ hK (by omega)) [0, 1, 2, 3, 5] [0] rfl hK ⟨⟨_, rfl, .rfl⟩, ⟨_, rfl, .rfl⟩, ⟨_, rfl, .rfl⟩, ⟨_, rfl, .rfl⟩, trivial⟩ ⟨⟨_, rfl, ⟨rfl, rfl, (eO _ p1.kids).symm⟩⟩, ⟨⟨_, rfl, ⟨rfl, rfl, (an _ V.str (fun _ => rfl) l1v3).symm⟩⟩, ⟨⟨_, rfl, ⟨rfl, ah.rfl⟩⟩, ⟨⟨_, rfl, ⟨rfl, ah.rfl⟩⟩, ⟨⟨_, rfl, ⟨rfl, ah.rfl⟩⟩, trivial⟩⟩⟩⟩⟩ rfl
theorem kz (m : Nat) (p1 : Tree) (l2v1 : (List Int)) (z2v2 : Int) (l2v3 : (List Tree)) (i2v4 : Nat) (l2v5 : (List (List UInt8))) (r0 : Tree) (q0_L : (List Int)) (q0_At : Int) (h : ((i2v4 < l2v3.length) → ∃ (t2_1 : Tree), l2v3[i2v4]? = some t2_1 ∧ ∃ (t2_2 : Tree), ∃ (r2_3 : (List Int)), ∃ (n2_4 : Int), fX l2v1 z2v2 t2_1 t2_2 r2_3 n2_4 ∧ ∃ (t2_5 : Tree), l2v3[i2v4]? = some t2_5 ∧ d4 m p1 r2_3 n2_4 (l2v3.set i2v4 t2_2) (i2v4 + 1) l2v5 r0 q0_L q0_At) ∧ ((¬ i2v4 < l2v3.length) → (Tree.node p1.kind p1.text l2v5 l2v3) = r0 ∧ l2v1 = q0_L ∧ z2v2 = q0_At)) : d4 (m + 1) p1 l2v1 z2v2 l2v3 i2v4 l2v5 r0 q0_L q0_At := by
 intro K j1 hK hj1
 obtain ⟨j1, rfl⟩ : ∃ j, j1 = j + 1 := ⟨j1 - 1, by omega⟩
 refine gR 7 rfl ?_
 refine gV 37 (.int .i64 ((l2v3.length : Nat) : Int)) rfl (bc (aD _)) rfl ?_
 refine gLO 4 rfl (aD _) fun hl19 => ?_
 refine gR 3 rfl ?_
 refine gB 38 rfl rfl rfl (fun hd => ?_) (fun hd => ?_)
 replace hd := (cO hd)
 replace h := h.1 hd
 refine gR 5 rfl ?_
 refine gDs [1, 4] 11 12 rfl (by kernel_rfl) (by kernel_rfl) ?_
 refine gDr [(0, 2), (1, 3), (2, 2), (3, 2), (4, 2), (5, 3), (6, 0)] (by kernel_rfl) rfl rfl ?_
 obtain ⟨t2_1, hxt2_1, h⟩ := h
 refine dF 7 rfl (by kernel_rfl) (yIO aa rfl rfl rfl rfl (by have := (am hxt2_1); exact (List.getElem?_eq_some_iff.1 this).1)) rfl rfl ?_
 refine cW 8 (.nop) rfl (by kernel_rfl) (dLe aa rfl rfl rfl (am hxt2_1) rfl) trivial rfl (by kernel_rfl) rfl rfl ?_
 obtain ⟨t2_2, r2_3, n2_4, hs20, h⟩ := h
 refine gDC 9 hs20 [0] (by kernel_rfl) rfl (by kernel_rfl) rfl rfl .rfl ⟨⟨_, rfl, ⟨rfl, ah.rfl⟩⟩, trivial⟩ (by kernel_rfl) rfl ?_
 rintro _ _ ⟨rfl, rfl⟩
 obtain ⟨t2_5, hxt2_5, h⟩ := h
 refine dF 10 rfl (by kernel_rfl) (yIO aa rfl rfl rfl rfl (by have := (am hxt2_5); exact (List.getElem?_eq_some_iff.1 this).1)) rfl rfl ?_
 refine cW 11 (.set 4 (.row 29 4 (kidsV (l2v3.set i2v4 t2_2)))) rfl (by kernel_rfl) (dSe aa rfl rfl rfl rfl (am hxt2_5) rfl (yA l2v3 i2v4 t2_2)) (okS rfl) rfl (by kernel_rfl) rfl rfl ?_
 refine gDe (by kernel_rfl) ?_
 refine gR 5 rfl ?_
 refine gV 40 (.int .i64 ((i2v4 + 1 : Nat) : Int)) rfl (ar (by have := hl19; omega) (by omega)) rfl ?_
 refine gR 2 rfl ?_
 refine aq ?_
 exact gJ (h K _ hK (by omega)) [0, 1, 2, 3, 4] [0] rfl hK ⟨⟨_, rfl, .rfl⟩, ⟨_, rfl, .rfl⟩, ⟨_, rfl, .rfl⟩, ⟨_, rfl, .rfl⟩, trivial⟩ ⟨⟨_, rfl, ⟨rfl, rfl, (eO _ (l2v3.set i2v4 t2_2)).symm⟩⟩, ⟨⟨_, rfl, ⟨rfl, rfl, (an _ V.str (fun _ => rfl) l2v5).symm⟩⟩, ⟨⟨_, rfl, ⟨rfl, ah.rfl⟩⟩, ⟨⟨_, rfl, ⟨rfl, ah.rfl⟩⟩, ⟨⟨_, rfl, ⟨rfl, ah.rfl⟩⟩, trivial⟩⟩⟩⟩⟩ rfl
 replace hd := (cI hd)
 replace h := h.2 hd
 refine gR 3 rfl ?_
 refine av ?_
 refine gR 9 rfl ?_
 refine gFR 3 rfl (i5 _ (fun _ => rfl) _) rfl rfl ?_
 refine gFR 4 rfl (co _) rfl rfl ?_
 obtain ⟨rfl, rfl, rfl⟩ := h
 refine ab (F' := (mkF 53 0 [(4, .ptr 1 0)])) (H' := ⟨2, [(1, .var 29 [.int .i64 ((Tree.node p1.kind p1.text l2v5 l2v3).kind), .str ((Tree.node p1.kind p1.text l2v5 l2v3).text), .row 1 (List.map V.str ((Tree.node p1.kind p1.text l2v5 l2v3).leads)), .row 4 (kidsV ((Tree.node p1.kind p1.text l2v5 l2v3).kids))]), (0, .var 73 [.row 1 (List.map (V.int .i64) l2v1), .int .i64 z2v2])]⟩) [0, 2] [0] rfl hK ⟨⟨_, rfl, .rfl⟩, trivial⟩ ⟨⟨_, rfl, ⟨rfl, ah.rfl⟩⟩, ⟨⟨_, rfl, ⟨rfl, ah.rfl⟩⟩, trivial⟩⟩ rfl ?_
 exact aC [1] aa (rs := [.cell 4 29]) rfl rfl ⟨rfl, rfl⟩
def eS (m : Nat) (p1 : (List UInt8)) (l1v1 : (List Int)) (z1v2 : Int) (l1v3 : (List Tree)) (z1v4 : Int) (r0 : Tree) (q0_L : (List Int)) (q0_At : Int) : Prop := ∀ (K : Ctx) (j1 : Nat), au K [0] → m ≤ j1 → Go Tryz.prog K (bodyPost Tryz.prog Tryz.f22 (SP K (fun u G => u = .agg (ai r0) ∧ G = ⟨2, [(0, .var 73 [.row 1 (List.map (V.int .i64) q0_L), .int .i64 q0_At])]⟩))) (.code (cL (cK (cB (cA (cB (cB (ae Tryz.f22)))))))) [.loop (cL (cK (cB (cA (cB (cB (ae Tryz.f22))))))) j1, .blk 0, .seq (cB (cB (cB (ae Tryz.f22))))] 31 (mkF 31 0 [(0, .ptr 0 0), (4, .ptr 1 0), (5, .ptr 2 0), (6, .int .i64 z1v4)]) ⟨4, [(3, .row 29 4 (kidsV l1v3)), (2, .var 29 [.int .i64 1, .str p1, .nils, .sl 3]), (1, .var 29 [.int .i64 0, .str [], .nils, .nils]), (0, .var 73 [.row 1 (List.map (V.int .i64) l1v1), .int .i64 z1v2])]⟩
theorem oA (m : Nat) (p0_L : (List Int)) (p0_At : Int) (p1 : (List UInt8)) (r0 : Tree) (q0_L : (List Int)) (q0_At : Int) (h : ∃ (n0_1 : Int), ∃ (r0_2 : (List Int)), ∃ (n0_3 : Int), aF p0_L p0_At 4 n0_1 r0_2 n0_3 ∧ eS m p1 r0_2 n0_3 ([] : List Tree) n0_1 r0 q0_L q0_At) : ig p0_L p0_At p1 r0 q0_L q0_At := by
 refine ak 31 [0] Tryz.func22 rfl rfl rfl (aA rfl) fun K hK => ?_
 refine gR 17 rfl ?_
 obtain ⟨n0_1, r0_2, n0_3, hs11, h⟩ := h
 refine gC hs11 [0] (by kernel_rfl) rfl rfl .rfl ⟨⟨_, rfl, ⟨rfl, ah.rfl⟩⟩, trivial⟩ rfl ?_
 rintro _ _ ⟨rfl, rfl⟩
 refine gR 4 rfl ?_
 refine go_loop m ?_
 refine gNC 2 3 29 4 rfl rfl rfl rfl ?_
 exact gJ (h K _ hK (by omega)) [0, 1, 2, 4] [0] rfl hK ⟨⟨_, rfl, .rfl⟩, ⟨_, rfl, .rfl⟩, ⟨_, rfl, .rfl⟩, ⟨_, rfl, .rfl⟩, trivial⟩ ⟨⟨_, rfl, ⟨rfl, rfl, rfl⟩⟩, ⟨⟨_, rfl, ⟨rfl, ah.rfl⟩⟩, ⟨⟨_, rfl, ⟨rfl, ah.rfl⟩⟩, ⟨⟨_, rfl, ⟨rfl, ah.rfl⟩⟩, trivial⟩⟩⟩⟩ rfl
theorem gz (m : Nat) (p1 : (List UInt8)) (l1v1 : (List Int)) (z1v2 : Int) (l1v3 : (List Tree)) (z1v4 : Int) (r0 : Tree) (q0_L : (List Int)) (q0_At : Int) (h : ((0 < z1v4) → ∃ (t1_1 : Tree), ∃ (r1_2 : (List Int)), ∃ (n1_3 : Int), jV l1v1 z1v2 t1_1 r1_2 n1_3 ∧ (l1v3 ++ [t1_1]).length ≤ 1000000000 ∧ InI (z1v4 - 1) ∧ eS m p1 r1_2 n1_3 (l1v3 ++ [t1_1]) (z1v4 - 1) r0 q0_L q0_At) ∧ ((¬ 0 < z1v4) → ∃ (t1_4 : Tree), gw (Tree.node 1 p1 [] l1v3) t1_4 ∧ ∃ (n1_5 : Int), ∃ (r1_6 : (List Int)), ∃ (n1_7 : Int), aF l1v1 z1v2 2 n1_5 r1_6 n1_7 ∧ ((n1_5 = 0) → ∃ (t1_8 : Tree), ∃ (r1_9 : (List Int)), ∃ (n1_10 : Int), fX r1_6 n1_7 t1_4 t1_8 r1_9 n1_10 ∧ t1_8 = r0 ∧ r1_9 = q0_L ∧ n1_10 = q0_At) ∧ ((n1_5 ≠ 0) → t1_4 = r0 ∧ r1_6 = q0_L ∧ n1_7 = q0_At))) : eS (m + 1) p1 l1v1 z1v2 l1v3 z1v4 r0 q0_L q0_At := by
 intro K j1 hK hj1
 obtain ⟨j1, rfl⟩ : ∃ j, j1 = j + 1 := ⟨j1 - 1, by omega⟩
 refine gR 7 rfl ?_
 refine gB 12 rfl rfl rfl (fun hd => ?_) (fun hd => ?_)
 replace hd := (of_decide_eq_true hd)
 replace h := h.1 hd
 refine gR 5 rfl ?_
 refine gDs [2] 7 8 rfl (by kernel_rfl) (by kernel_rfl) ?_
 refine gDr [(0, 2), (1, 3), (2, 0)] (by kernel_rfl) rfl rfl ?_
 obtain ⟨t1_1, r1_2, n1_3, hs12, h⟩ := h
 refine gDC 3 hs12 [0] (by kernel_rfl) rfl (by kernel_rfl) rfl rfl .rfl ⟨⟨_, rfl, ⟨rfl, ah.rfl⟩⟩, trivial⟩ (by kernel_rfl) rfl ?_
 rintro _ _ ⟨rfl, rfl⟩
 refine gDr [(4, 0)] (by kernel_rfl) rfl rfl ?_
 refine gHR 6 (kidsV [t1_1]) rfl (jb t1_1) rfl ?_
 obtain ⟨hb, h⟩ := h
 refine cW 5 (.repl 3 (.row 29 4 (kidsV (l1v3 ++ [t1_1])))) rfl (by kernel_rfl) (bN aa rfl rfl rfl rfl rfl (fh l1v3 [t1_1]).symm (by rw [aD]; exact hb)) (okR rfl) rfl (by kernel_rfl) rfl rfl ?_
 refine gDr [(6, 0), (7, 1)] (by kernel_rfl) rfl rfl ?_
 refine gDe (by kernel_rfl) ?_
 refine gR 4 rfl ?_
 obtain ⟨hb, h⟩ := h
 refine gR 1 rfl ?_
 refine gV 14 (.int .i64 (z1v4 - 1)) rfl (ar hb rfl) rfl ?_
 refine gR 2 rfl ?_
 refine aq ?_
 exact gJ (h K _ hK (by omega)) [0, 1, 2, 7] [0] rfl hK ⟨⟨_, rfl, .rfl⟩, ⟨_, rfl, .rfl⟩, ⟨_, rfl, .rfl⟩, ⟨_, rfl, .rfl⟩, trivial⟩ ⟨⟨_, rfl, ⟨rfl, rfl, (eO _ (l1v3 ++ [t1_1])).symm⟩⟩, ⟨⟨_, rfl, ⟨rfl, ah.rfl⟩⟩, ⟨⟨_, rfl, ⟨rfl, ah.rfl⟩⟩, ⟨⟨_, rfl, ⟨rfl, ah.rfl⟩⟩, trivial⟩⟩⟩⟩ rfl
 replace hd := (of_decide_eq_false hd)
 replace h := h.2 hd
 refine gR 3 rfl ?_
 refine av ?_
 refine gR 5 rfl ?_
 refine gFR 3 rfl (co _) rfl rfl ?_
 obtain ⟨t1_4, hs13, h⟩ := h
 refine gC0 hs13 (by kernel_rfl) rfl rfl (.cons (.agg (.cons .rfl (.cons .rfl (.cons (.nil 1) (.cons .rfl .nil))))) .nil) rfl ?_
 refine gR 7 rfl ?_
 obtain ⟨n1_5, r1_6, n1_7, hs14, h⟩ := h
 refine gC hs14 [0] (by kernel_rfl) rfl rfl .rfl ⟨⟨_, rfl, ⟨rfl, ah.rfl⟩⟩, trivial⟩ rfl ?_
 rintro _ _ ⟨rfl, rfl⟩
 refine gR 3 rfl ?_
 refine gB 26 rfl rfl rfl (fun hd => ?_) (fun hd => ?_)
 replace hd := (eq_of_beq hd)
 replace h := h.1 hd
 refine gR 4 rfl ?_
 obtain ⟨t1_8, r1_9, n1_10, hs15, h⟩ := h
 refine gC hs15 [0] (by kernel_rfl) rfl rfl .rfl ⟨⟨_, rfl, ⟨rfl, ah.rfl⟩⟩, trivial⟩ rfl ?_
 rintro _ _ ⟨rfl, rfl⟩
 refine gR 10 rfl ?_
 obtain ⟨rfl, rfl, rfl⟩ := h
 refine ab (F' := (mkF 31 0 [(4, .ptr 1 0)])) (H' := ⟨2, [(1, .var 29 [.int .i64 t1_8.kind, .str t1_8.text, .row 1 (List.map V.str t1_8.leads), .row 4 (kidsV t1_8.kids)]), (0, .var 73 [.row 1 (List.map (V.int .i64) r1_9), .int .i64 n1_10])]⟩) [0, 1] [0] rfl hK ⟨⟨_, rfl, .rfl⟩, trivial⟩ ⟨⟨_, rfl, ⟨rfl, ah.rfl⟩⟩, ⟨⟨_, rfl, ⟨rfl, ah.rfl⟩⟩, trivial⟩⟩ rfl ?_
 exact aC [1] aa (rs := [.cell 4 29]) rfl rfl ⟨rfl, rfl⟩
 replace hd := (ne_of_beq_false hd)
 replace h := h.2 hd
 refine gR 10 rfl ?_
 obtain ⟨rfl, rfl, rfl⟩ := h
 refine ab (F' := (mkF 31 0 [(4, .ptr 1 0)])) (H' := ⟨2, [(1, .var 29 [.int .i64 t1_4.kind, .str t1_4.text, .row 1 (List.map V.str t1_4.leads), .row 4 (kidsV t1_4.kids)]), (0, .var 73 [.row 1 (List.map (V.int .i64) r1_6), .int .i64 n1_7])]⟩) [0, 1] [0] rfl hK ⟨⟨_, rfl, .rfl⟩, trivial⟩ ⟨⟨_, rfl, ⟨rfl, ah.rfl⟩⟩, ⟨⟨_, rfl, ⟨rfl, ah.rfl⟩⟩, trivial⟩⟩ rfl ?_
 exact aC [1] aa (rs := [.cell 4 29]) rfl rfl ⟨rfl, rfl⟩
def bA (m : Nat) (l1v1 : (List Int)) (z1v2 : Int) (l1v3 : (List Tree)) (z1v4 : Int) (r0 : (List Tree)) : Prop := ∀ (K : Ctx) (j1 : Nat), au K [] → m ≤ j1 → Go Tryz.prog K (bodyPost Tryz.prog Tryz.f8 (SP K (fun u _ => u = .row 4 (kidsV r0)))) (.code (cL (cK (cB (cA (cB (cB (cB (cB (ae Tryz.f8)))))))))) [.loop (cL (cK (cB (cA (cB (cB (cB (cB (ae Tryz.f8))))))))) j1, .blk 0, .seq (cB (cB (cB (cB (cB (ae Tryz.f8))))))] 35 (mkF 35 0 [(3, .ptr 0 0), (4, .sl 1), (5, .sl 2), (6, .int .i64 z1v4)]) ⟨3, [(2, .row 9 1 [.str [65], .str [66], .str [67]]), (1, .row 29 4 (kidsV l1v3)), (0, .var 73 [.row 1 (List.map (V.int .i64) l1v1), .int .i64 z1v2])]⟩
theorem n9 (m : Nat) (p0 : (List Int)) (r0 : (List Tree)) (h : ∃ (r0_1 : (List Int)), ∃ (n0_2 : Int), mi p0 r0_1 n0_2 ∧ ∃ (n0_3 : Int), ∃ (r0_4 : (List Int)), ∃ (n0_5 : Int), aF r0_1 n0_2 4 n0_3 r0_4 n0_5 ∧ bA m r0_4 n0_5 ([] : List Tree) n0_3 r0) : hI p0 r0 := by
 refine ⟨rfl, rfl, ?_⟩
 refine ak 35 [] Tryz.func8 rfl rfl rfl (aA rfl) fun K hK => ?_
 refine gR 8 rfl ?_
 obtain ⟨r0_1, n0_2, hs14, h⟩ := h
 refine gC hs14 [] (by kernel_rfl) rfl rfl .rfl trivial rfl ?_
 rintro _ _ ⟨rfl, rfl⟩
 refine gR 18 rfl ?_
 obtain ⟨n0_3, r0_4, n0_5, hs15, h⟩ := h
 refine gC hs15 [0] (by kernel_rfl) rfl rfl .rfl ⟨⟨_, rfl, ⟨rfl, ah.rfl⟩⟩, trivial⟩ rfl ?_
 rintro _ _ ⟨rfl, rfl⟩
 refine gR 4 rfl ?_
 refine go_loop m ?_
 refine gNS 4 29 4 rfl rfl rfl rfl ?_
 exact gJ (h K _ hK (by omega)) [0, 3, 1] [] rfl hK ⟨⟨_, rfl, .rfl⟩, ⟨_, rfl, .rfl⟩, ⟨_, rfl, .rfl⟩, ⟨_, rfl, .rfl⟩, trivial⟩ ⟨⟨_, rfl, ⟨rfl, rfl, rfl⟩⟩, ⟨⟨_, rfl, ⟨rfl, rfl, rfl⟩⟩, ⟨⟨_, rfl, ⟨rfl, ah.rfl⟩⟩, trivial⟩⟩⟩ rfl
theorem gj (m : Nat) (l1v1 : (List Int)) (z1v2 : Int) (l1v3 : (List Tree)) (z1v4 : Int) (r0 : (List Tree)) (h : ((0 < z1v4) → ∃ (s1_1 : (List UInt8)), [[65], [66], [67]][l1v3.length]? = some s1_1 ∧ ∃ (t1_2 : Tree), ∃ (r1_3 : (List Int)), ∃ (n1_4 : Int), ig l1v1 z1v2 s1_1 t1_2 r1_3 n1_4 ∧ ∃ (n1_5 : Int), ∃ (r1_6 : (List Int)), ∃ (n1_7 : Int), aF r1_3 n1_4 8 n1_5 r1_6 n1_7 ∧ ((n1_5 = 7) → ∃ (b1_8 : Bool), d7 (Tree.node t1_2.kind [65] t1_2.leads t1_2.kids) b1_8 ∧ ((b1_8 = true) → (l1v3 ++ [(Tree.node t1_2.kind [65] t1_2.leads t1_2.kids)]).length ≤ 1000000000 ∧ InI (z1v4 - 1) ∧ bA m r1_6 n1_7 (l1v3 ++ [(Tree.node t1_2.kind [65] t1_2.leads t1_2.kids)]) (z1v4 - 1) r0) ∧ ((b1_8 = false) → InI (z1v4 - 1) ∧ bA m r1_6 n1_7 l1v3 (z1v4 - 1) r0)) ∧ ((n1_5 ≠ 7) → ∃ (b1_9 : Bool), d7 t1_2 b1_9 ∧ ((b1_9 = true) → (l1v3 ++ [t1_2]).length ≤ 1000000000 ∧ InI (z1v4 - 1) ∧ bA m r1_6 n1_7 (l1v3 ++ [t1_2]) (z1v4 - 1) r0) ∧ ((b1_9 = false) → InI (z1v4 - 1) ∧ bA m r1_6 n1_7 l1v3 (z1v4 - 1) r0))) ∧ ((¬ 0 < z1v4) → l1v3 = r0)) : bA (m + 1) l1v1 z1v2 l1v3 z1v4 r0 := by
 intro K j1 hK hj1
 obtain ⟨j1, rfl⟩ : ∃ j, j1 = j + 1 := ⟨j1 - 1, by omega⟩
 refine gR 7 rfl ?_
 refine gB 14 rfl rfl rfl (fun hd => ?_) (fun hd => ?_)
 replace hd := (of_decide_eq_true hd)
 replace h := h.1 hd
 refine gR 11 rfl ?_
 refine gV 20 (.int .i64 ((l1v3.length : Nat) : Int)) rfl (bc (aD _)) rfl ?_
 refine gLO 1 rfl (aD _) fun hl16 => ?_
 obtain ⟨s1_1, hxs1_1, h⟩ := h
 refine gY (yIO aa rfl rfl rfl rfl (by have := (mapget (f := V.str) hxs1_1); exact (List.getElem?_eq_some_iff.1 this).1)) rfl rfl ?_
 refine gDo (.nop) (dLe aa rfl rfl rfl (mapget (f := V.str) hxs1_1) rfl) trivial rfl rfl rfl ?_
 obtain ⟨t1_2, r1_3, n1_4, hs17, h⟩ := h
 refine gC hs17 [0] (by kernel_rfl) rfl rfl .rfl ⟨⟨_, rfl, ⟨rfl, ah.rfl⟩⟩, trivial⟩ rfl ?_
 rintro _ _ ⟨rfl, rfl⟩
 refine gR 8 rfl ?_
 obtain ⟨n1_5, r1_6, n1_7, hs18, h⟩ := h
 refine gC hs18 [0] (by kernel_rfl) rfl rfl .rfl ⟨⟨_, rfl, ⟨rfl, ah.rfl⟩⟩, trivial⟩ rfl ?_
 rintro _ _ ⟨rfl, rfl⟩
 refine gR 3 rfl ?_
 refine gB 26 rfl rfl rfl (fun hd => ?_) (fun hd => ?_)
 replace hd := (eq_of_beq hd)
 replace h := h.1 hd
 refine gR 9 rfl ?_
 obtain ⟨b1_8, hs19, h⟩ := h
 refine gC0 hs19 (by kernel_rfl) rfl rfl .rfl rfl ?_
 refine gR 2 rfl ?_
 refine gB 29 rfl rfl rfl (fun hd => ?_) (fun hd => ?_)
 replace h := h.1 hd
 refine gR 5 rfl ?_
 refine gHR 7 (kidsV [(Tree.node t1_2.kind [65] t1_2.leads t1_2.kids)]) rfl (jb (Tree.node t1_2.kind [65] t1_2.leads t1_2.kids)) rfl ?_
 obtain ⟨hb, h⟩ := h
 refine gDo (.repl 1 (.row 29 4 (kidsV (l1v3 ++ [(Tree.node t1_2.kind [65] t1_2.leads t1_2.kids)])))) (bN aa rfl rfl rfl rfl rfl (fh l1v3 [(Tree.node t1_2.kind [65] t1_2.leads t1_2.kids)]).symm (by rw [aD]; exact hb)) (okR rfl) rfl rfl rfl ?_
 refine gR 6 rfl ?_
 obtain ⟨hb, h⟩ := h
 refine gR 1 rfl ?_
 refine gV 16 (.int .i64 (z1v4 - 1)) rfl (ar hb rfl) rfl ?_
 refine gR 2 rfl ?_
 refine aq ?_
 exact gJ (h K _ hK (by omega)) [0, 8, 2] [] rfl hK ⟨⟨_, rfl, .rfl⟩, ⟨_, rfl, .rfl⟩, ⟨_, rfl, .rfl⟩, ⟨_, rfl, .rfl⟩, trivial⟩ ⟨⟨_, rfl, ⟨rfl, rfl, rfl⟩⟩, ⟨⟨_, rfl, ⟨rfl, rfl, (eO _ (l1v3 ++ [(Tree.node t1_2.kind [65] t1_2.leads t1_2.kids)])).symm⟩⟩, ⟨⟨_, rfl, ⟨rfl, ah.rfl⟩⟩, trivial⟩⟩⟩ rfl
 replace h := h.2 hd
 refine gR 6 rfl ?_
 obtain ⟨hb, h⟩ := h
 refine gR 1 rfl ?_
 refine gV 16 (.int .i64 (z1v4 - 1)) rfl (ar hb rfl) rfl ?_
 refine gR 2 rfl ?_
 refine aq ?_
 exact gJ (h K _ hK (by omega)) [0, 1, 2] [] rfl hK ⟨⟨_, rfl, .rfl⟩, ⟨_, rfl, .rfl⟩, ⟨_, rfl, .rfl⟩, ⟨_, rfl, .rfl⟩, trivial⟩ ⟨⟨_, rfl, ⟨rfl, rfl, rfl⟩⟩, ⟨⟨_, rfl, ⟨rfl, rfl, (eO _ l1v3).symm⟩⟩, ⟨⟨_, rfl, ⟨rfl, ah.rfl⟩⟩, trivial⟩⟩⟩ rfl
 replace hd := (ne_of_beq_false hd)
 replace h := h.2 hd
 refine gR 6 rfl ?_
 obtain ⟨b1_9, hs20, h⟩ := h
 refine gC0 hs20 (by kernel_rfl) rfl rfl .rfl rfl ?_
 refine gR 2 rfl ?_
 refine gB 29 rfl rfl rfl (fun hd => ?_) (fun hd => ?_)
 replace h := h.1 hd
 refine gR 5 rfl ?_
 refine gHR 7 (kidsV [t1_2]) rfl (jb t1_2) rfl ?_
 obtain ⟨hb, h⟩ := h
 refine gDo (.repl 1 (.row 29 4 (kidsV (l1v3 ++ [t1_2])))) (bN aa rfl rfl rfl rfl rfl (fh l1v3 [t1_2]).symm (by rw [aD]; exact hb)) (okR rfl) rfl rfl rfl ?_
 refine gR 6 rfl ?_
 obtain ⟨hb, h⟩ := h
 refine gR 1 rfl ?_
 refine gV 16 (.int .i64 (z1v4 - 1)) rfl (ar hb rfl) rfl ?_
 refine gR 2 rfl ?_
 refine aq ?_
 exact gJ (h K _ hK (by omega)) [0, 8, 2] [] rfl hK ⟨⟨_, rfl, .rfl⟩, ⟨_, rfl, .rfl⟩, ⟨_, rfl, .rfl⟩, ⟨_, rfl, .rfl⟩, trivial⟩ ⟨⟨_, rfl, ⟨rfl, rfl, rfl⟩⟩, ⟨⟨_, rfl, ⟨rfl, rfl, (eO _ (l1v3 ++ [t1_2])).symm⟩⟩, ⟨⟨_, rfl, ⟨rfl, ah.rfl⟩⟩, trivial⟩⟩⟩ rfl
 replace h := h.2 hd
 refine gR 6 rfl ?_
 obtain ⟨hb, h⟩ := h
 refine gR 1 rfl ?_
 refine gV 16 (.int .i64 (z1v4 - 1)) rfl (ar hb rfl) rfl ?_
 refine gR 2 rfl ?_
 refine aq ?_
 exact gJ (h K _ hK (by omega)) [0, 1, 2] [] rfl hK ⟨⟨_, rfl, .rfl⟩, ⟨_, rfl, .rfl⟩, ⟨_, rfl, .rfl⟩, ⟨_, rfl, .rfl⟩, trivial⟩ ⟨⟨_, rfl, ⟨rfl, rfl, rfl⟩⟩, ⟨⟨_, rfl, ⟨rfl, rfl, (eO _ l1v3).symm⟩⟩, ⟨⟨_, rfl, ⟨rfl, ah.rfl⟩⟩, trivial⟩⟩⟩ rfl
 replace hd := (of_decide_eq_false hd)
 replace h := h.2 hd
 refine gR 3 rfl ?_
 refine av ?_
 refine gR 9 rfl ?_
 refine gFR 1 rfl (co _) rfl rfl ?_
 subst h
 refine ab (F' := (mkF 35 0 [(2, .row 4 (kidsV l1v3))])) (H' := ⟨0, []⟩) [] [] rfl hK ⟨⟨_, rfl, .rfl⟩, trivial⟩ trivial rfl ?_
 exact ac aa (rs := [.tmp 2]) rfl rfl rfl
theorem i7 (m : Nat) (p0_L : (List Int)) (p0_At : Int) (p1 : Int) (r0 : Int) (q0_L : (List Int)) (q0_At : Int) (h : ((((p0_L.length : Nat) : Int) ≤ p0_At) → 0 = r0 ∧ p0_L = q0_L ∧ p0_At = q0_At) ∧ ((¬ ((p0_L.length : Nat) : Int) ≤ p0_At) → InI (p0_At + 1) ∧ InI ((p0_At + 1) - 1) ∧ ∃ (k0_1 : Nat), ((p0_At + 1) - 1) = ((k0_1 : Nat) : Int) ∧ ∃ (n0_2 : Int), p0_L[k0_1]? = some n0_2 ∧ ∃ (n0_3 : Int), jX n0_2 p1 n0_3 ∧ n0_3 = r0 ∧ p0_L = q0_L ∧ (p0_At + 1) = q0_At)) : aF p0_L p0_At p1 r0 q0_L q0_At := by
 refine ak 35 [0] Tryz.func21 rfl rfl rfl (aA rfl) fun K hK => ?_
 refine gR 7 rfl ?_
 refine gDs [0] 10 10 rfl (by kernel_rfl) (by kernel_rfl) ?_
 refine gDr [(0, 2), (1, 2), (2, 2), (3, 3), (4, 0), (5, 0), (6, 0), (7, 0), (8, 0)] (by kernel_rfl) rfl rfl ?_
 refine gV 13 (.int .i64 ((p0_L.length : Nat) : Int)) rfl (bc (aV (V.int .i64) _)) rfl ?_
 refine gLB 12 rfl (aV (V.int .i64) _) fun hl9 => ?_
 refine gDr [(9, 0)] (by kernel_rfl) rfl rfl ?_
 refine gDe (by kernel_rfl) ?_
 refine gR 1 rfl ?_
 refine gB 14 rfl rfl rfl (fun hd => ?_) (fun hd => ?_)
 replace hd := (of_decide_eq_true hd)
 replace h := h.1 hd
 refine gR 8 rfl ?_
 obtain ⟨rfl, rfl, rfl⟩ := h
 refine ab (F' := (mkF 35 0 [(4, .int .i64 0)])) (H' := ⟨1, [(0, .var 73 [.row 1 (List.map (V.int .i64) p0_L), .int .i64 p0_At])]⟩) [0] [0] rfl hK ⟨⟨_, rfl, .rfl⟩, trivial⟩ ⟨⟨_, rfl, ⟨rfl, ah.rfl⟩⟩, trivial⟩ rfl ?_
 exact aC [] aa (rs := [.tmp 4]) rfl rfl ⟨rfl, rfl⟩
 replace hd := (of_decide_eq_false hd)
 replace h := h.2 hd
 refine gR 9 rfl ?_
 obtain ⟨hb, h⟩ := h
 refine gR 1 rfl ?_
 refine gV 19 (.int .i64 (p0_At + 1)) rfl (ar hb rfl) rfl ?_
 refine gR 6 rfl ?_
 refine gDs [0] 13 14 rfl (by kernel_rfl) (by kernel_rfl) ?_
 refine gDr [(0, 2), (1, 2), (2, 2), (3, 3), (4, 2), (5, 2), (6, 2), (7, 3)] (by kernel_rfl) rfl rfl ?_
 obtain ⟨hb, h⟩ := h
 refine gDr [(8, 2)] (by kernel_rfl) rfl rfl ?_
 refine gV 30 (.int .i64 ((p0_At + 1) - 1)) rfl (ar hb rfl) rfl ?_
 obtain ⟨k0_1, ek0_1, h⟩ := h
 refine gV 30 (.int .i64 ((k0_1 : Nat) : Int)) rfl (cw ek0_1) rfl ?_
 obtain ⟨n0_2, hxn0_2, h⟩ := h
 refine gYd 9 rfl (by kernel_rfl) (aK (mapget (f := (V.int .i64)) hxn0_2) aa rfl rfl rfl rfl) rfl rfl ?_
 refine gDr [(10, 2), (11, 0)] (by kernel_rfl) rfl rfl ?_
 obtain ⟨n0_3, hs10, h⟩ := h
 refine br 12 hs10 (by kernel_rfl) rfl (by kernel_rfl) rfl rfl .rfl rfl rfl ?_
 refine gDr [(13, 1)] (by kernel_rfl) rfl rfl ?_
 refine gDe (by kernel_rfl) ?_
 refine gR 2 rfl ?_
 obtain ⟨rfl, rfl, rfl⟩ := h
 refine ab (F' := (mkF 35 0 [(4, .int .i64 n0_3)])) (H' := ⟨1, [(0, .var 73 [.row 1 (List.map (V.int .i64) p0_L), .int .i64 (p0_At + 1)])]⟩) [0] [0] rfl hK ⟨⟨_, rfl, .rfl⟩, trivial⟩ ⟨⟨_, rfl, ⟨rfl, ah.rfl⟩⟩, trivial⟩ rfl ?_
 exact aC [] aa (rs := [.tmp 4]) rfl rfl ⟨rfl, rfl⟩
def ew (m : Nat) (p0 : Int) (l1v1 : (List (List UInt8))) (i1v2 : Nat) (r0 : (List (List UInt8))) : Prop := ∀ (K : Ctx) (j1 : Nat), au K [] → m ≤ j1 → Go Tryz.prog K (bodyPost Tryz.prog Tryz.f103 (SP K (fun u G => u = .sl 0 ∧ G = ⟨1, [(0, .row 9 1 (List.map V.str r0))]⟩))) (.code (cL (cK (cB (cA (cB (cB (ae Tryz.f103)))))))) [.loop (cL (cK (cB (cA (cB (cB (ae Tryz.f103))))))) j1, .blk 0, .seq (cB (cB (cB (ae Tryz.f103))))] 14 (mkF 14 0 [(0, .int .i64 p0), (3, .sl 0), (4, .int .i64 ((i1v2 : Nat) : Int))]) ⟨1, [(0, .row 9 1 (List.map V.str l1v1))]⟩
theorem od (m : Nat) (p0 : Int) (r0 : (List (List UInt8))) (h : ew m p0 ([] : List (List UInt8)) 0 r0) : gP p0 r0 := by
 refine ak 14 [] Tryz.func103 rfl rfl rfl (aA rfl) fun K hK => ?_
 refine gR 17 rfl ?_
 refine go_loop m ?_
 refine gNS 3 9 1 rfl rfl rfl rfl ?_
 exact gJ (h K _ hK (by omega)) [0] [] rfl hK ⟨⟨_, rfl, .rfl⟩, ⟨_, rfl, .rfl⟩, ⟨_, rfl, .rfl⟩, trivial⟩ ⟨⟨_, rfl, ⟨rfl, rfl, rfl⟩⟩, trivial⟩ rfl
theorem gi (m : Nat) (p0 : Int) (l1v1 : (List (List UInt8))) (i1v2 : Nat) (r0 : (List (List UInt8))) (h : ((((i1v2 : Nat) : Int) < p0) → (l1v1 ++ [[32]]).length ≤ 1000000000 ∧ i1v2 + 1 ≤ 9223372036854775807 ∧ ew m p0 (l1v1 ++ [[32]]) (i1v2 + 1) r0) ∧ ((¬ ((i1v2 : Nat) : Int) < p0) → l1v1 = r0)) : ew (m + 1) p0 l1v1 i1v2 r0 := by
 intro K j1 hK hj1
 obtain ⟨j1, rfl⟩ : ∃ j, j1 = j + 1 := ⟨j1 - 1, by omega⟩
 refine gR 8 rfl ?_
 refine gB 7 rfl rfl rfl (fun hd => ?_) (fun hd => ?_)
 replace hd := (of_decide_eq_true hd)
 replace h := h.1 hd
 refine gR 8 rfl ?_
 obtain ⟨hb, h⟩ := h
 refine gDo (.repl 0 (.row 9 1 (List.map V.str (l1v1 ++ [[32]])))) (bN aa rfl rfl rfl rfl rfl (apM V.str l1v1 [32]) (by rw [aV]; exact hb)) (okR rfl) rfl rfl rfl ?_
 refine gR 6 rfl ?_
 obtain ⟨hb, h⟩ := h
 refine gR 1 rfl ?_
 refine gV 9 (.int .i64 ((i1v2 + 1 : Nat) : Int)) rfl (ar (by omega) (by omega)) rfl ?_
 refine gR 2 rfl ?_
 refine aq ?_
 exact gJ (h K _ hK (by omega)) [2] [] rfl hK ⟨⟨_, rfl, .rfl⟩, ⟨_, rfl, .rfl⟩, ⟨_, rfl, .rfl⟩, trivial⟩ ⟨⟨_, rfl, ⟨rfl, rfl, (an _ V.str (fun _ => rfl) (l1v1 ++ [[32]])).symm⟩⟩, trivial⟩ rfl
 replace hd := (of_decide_eq_false hd)
 replace h := h.2 hd
 refine gR 3 rfl ?_
 refine av ?_
 refine gR 9 rfl ?_
 subst h
 refine ab (F' := (mkF 14 0 [(2, .sl 0)])) (H' := ⟨1, [(0, .row 9 1 (List.map V.str l1v1))]⟩) [0] [] rfl hK ⟨⟨_, rfl, .rfl⟩, trivial⟩ ⟨⟨_, rfl, ⟨rfl, rfl, (an _ V.str (fun _ => rfl) l1v1).symm⟩⟩, trivial⟩ rfl ?_
 exact aC [] aa (rs := [.tmp 2]) rfl rfl ⟨rfl, rfl⟩
def dy (m : Nat) (p0 : Tree) (p2 : (List UInt8)) (b1v1 : Bool) (r0 : (List UInt8)) : Prop := ∀ (K : Ctx), au K [] → Go Tryz.prog K (bodyPost Tryz.prog Tryz.f104 (SP K (fun u _ => u = .str r0))) (.code (cB (cK (cB (cA (cB (cB (ae Tryz.f104)))))))) [.blk 1, .seq (cB (cB (cB (ae Tryz.f104))))] 31 (mkF 31 0 [(2, .str p2), (3, .box (ai p0) 0), (15, .int .i64 p0.kind), (16, .bool b1v1)]) ⟨0, []⟩
theorem oc (m : Nat) (p0 : Tree) (p1 : Int) (p2 : (List UInt8)) (r0 : (List UInt8)) (h : ((p0.kind = 1) → [10, 10] = r0) ∧ ((p0.kind ≠ 1) → ((0 < p1) → [32] = r0) ∧ ((¬ 0 < p1) → ((p0.kind = 8) → dy m p0 p2 true r0) ∧ ((p0.kind ≠ 8) → ((p0.kind = 22) → dy m p0 p2 true r0) ∧ ((p0.kind ≠ 22) → ((p0.kind = 16) → dy m p0 p2 true r0) ∧ ((p0.kind ≠ 16) → dy m p0 p2 (p0.kind == 18) r0)))))) : gX p0 p1 p2 r0 := by
 refine ⟨rfl, rfl, ?_⟩
 refine ak 31 [] Tryz.func104 rfl rfl rfl (aA rfl) fun K hK => ?_
 refine gR 3 rfl ?_
 refine gFP 0 rfl rfl rfl rfl ?_
 refine gR 13 rfl ?_
 refine gB 7 rfl rfl rfl (fun hd => ?_) (fun hd => ?_)
 refine gT 10 rfl hd rfl ?_
 replace hd := (eq_of_beq hd)
 replace h := h.1 hd
 refine gR 9 rfl ?_
 subst h
 refine ab (F' := (mkF 31 0 [(6, .str [10, 10])])) (H' := ⟨0, []⟩) [] [] rfl hK ⟨⟨_, rfl, .rfl⟩, trivial⟩ trivial rfl ?_
 exact ac aa (rs := [.tmp 6]) rfl rfl rfl
 refine gF 10 rfl hd rfl ?_
 replace hd := (ne_of_beq_false hd)
 replace h := h.2 hd
 refine gR 8 rfl ?_
 refine gB 11 rfl rfl rfl (fun hd => ?_) (fun hd => ?_)
 refine gT 13 rfl hd rfl ?_
 replace hd := (of_decide_eq_true hd)
 replace h := h.1 hd
 refine gR 9 rfl ?_
 subst h
 refine ab (F' := (mkF 31 0 [(6, .str [32])])) (H' := ⟨0, []⟩) [] [] rfl hK ⟨⟨_, rfl, .rfl⟩, trivial⟩ trivial rfl ?_
 exact ac aa (rs := [.tmp 6]) rfl rfl rfl
 refine gF 13 rfl hd rfl ?_
 replace hd := (of_decide_eq_false hd)
 replace h := h.2 hd
 refine gR 19 rfl ?_
 refine gB 16 rfl rfl rfl (fun hd => ?_) (fun hd => ?_)
 refine gT 17 rfl hd rfl ?_
 replace hd := (eq_of_beq hd)
 replace h := h.1 hd
 refine gR 3 rfl ?_
 exact gJ (h K hK) [] [] rfl hK ⟨⟨_, rfl, .rfl⟩, ⟨_, rfl, .rfl⟩, ⟨_, rfl, .rfl⟩, ⟨_, rfl, .rfl⟩, trivial⟩ trivial rfl
 refine gF 17 rfl hd rfl ?_
 replace hd := (ne_of_beq_false hd)
 replace h := h.2 hd
 refine gR 7 rfl ?_
 refine gB 16 rfl rfl rfl (fun hd => ?_) (fun hd => ?_)
 refine gT 18 rfl hd rfl ?_
 replace hd := (eq_of_beq hd)
 replace h := h.1 hd
 refine gR 3 rfl ?_
 exact gJ (h K hK) [] [] rfl hK ⟨⟨_, rfl, .rfl⟩, ⟨_, rfl, .rfl⟩, ⟨_, rfl, .rfl⟩, ⟨_, rfl, .rfl⟩, trivial⟩ trivial rfl
 refine gF 18 rfl hd rfl ?_
 replace hd := (ne_of_beq_false hd)
 replace h := h.2 hd
 refine gR 7 rfl ?_
 refine gB 16 rfl rfl rfl (fun hd => ?_) (fun hd => ?_)
 refine gT 19 rfl hd rfl ?_
 replace hd := (eq_of_beq hd)
 replace h := h.1 hd
 refine gR 3 rfl ?_
 exact gJ (h K hK) [] [] rfl hK ⟨⟨_, rfl, .rfl⟩, ⟨_, rfl, .rfl⟩, ⟨_, rfl, .rfl⟩, ⟨_, rfl, .rfl⟩, trivial⟩ trivial rfl
 refine gF 19 rfl hd rfl ?_
 replace hd := (ne_of_beq_false hd)
 replace h := h.2 hd
 refine gR 6 rfl ?_
 exact gJ (h K hK) [] [] rfl hK ⟨⟨_, rfl, .rfl⟩, ⟨_, rfl, .rfl⟩, ⟨_, rfl, .rfl⟩, ⟨_, rfl, .rfl⟩, trivial⟩ trivial rfl
theorem nN (m : Nat) (p0 : Tree) (p2 : (List UInt8)) (b1v1 : Bool) (r0 : (List UInt8)) (h : ((b1v1 = true) → [] = r0) ∧ ((b1v1 = false) → ((p0.kind = 2) → ((2 < ((p0.kids.length : Nat) : Int)) → [] = r0) ∧ ((¬ 2 < ((p0.kids.length : Nat) : Int)) → [32] = r0)) ∧ ((p0.kind ≠ 2) → ((p0.kind = 17) → p2 = r0) ∧ ((p0.kind ≠ 17) → ((p0.kind = 21) → p2 = r0) ∧ ((p0.kind ≠ 21) → [32] = r0))))) : dy (m + 1) p0 p2 b1v1 r0 := by
 intro K hK
 refine gB 16 rfl rfl rfl (fun hd => ?_) (fun hd => ?_)
 replace h := h.1 hd
 refine gR 9 rfl ?_
 subst h
 refine ab (F' := (mkF 31 0 [(6, .str [])])) (H' := ⟨0, []⟩) [] [] rfl hK ⟨⟨_, rfl, .rfl⟩, trivial⟩ trivial rfl ?_
 exact ac aa (rs := [.tmp 6]) rfl rfl rfl
 replace h := h.2 hd
 refine gR 7 rfl ?_
 refine gB 21 rfl rfl rfl (fun hd => ?_) (fun hd => ?_)
 refine gT 22 rfl hd rfl ?_
 replace hd := (eq_of_beq hd)
 replace h := h.1 hd
 refine gR 6 rfl ?_
 refine gV 25 (.int .i64 ((p0.kids.length : Nat) : Int)) rfl (bc (aD _)) rfl ?_
 refine gLB 24 rfl (aD _) fun hl3 => ?_
 refine gR 3 rfl ?_
 refine gB 26 rfl rfl rfl (fun hd => ?_) (fun hd => ?_)
 replace hd := (of_decide_eq_true hd)
 replace h := h.1 hd
 refine gR 9 rfl ?_
 subst h
 refine ab (F' := (mkF 31 0 [(6, .str [])])) (H' := ⟨0, []⟩) [] [] rfl hK ⟨⟨_, rfl, .rfl⟩, trivial⟩ trivial rfl ?_
 exact ac aa (rs := [.tmp 6]) rfl rfl rfl
 replace hd := (of_decide_eq_false hd)
 replace h := h.2 hd
 refine gR 10 rfl ?_
 subst h
 refine ab (F' := (mkF 31 0 [(6, .str [32])])) (H' := ⟨0, []⟩) [] [] rfl hK ⟨⟨_, rfl, .rfl⟩, trivial⟩ trivial rfl ?_
 exact ac aa (rs := [.tmp 6]) rfl rfl rfl
 refine gF 22 rfl hd rfl ?_
 replace hd := (ne_of_beq_false hd)
 replace h := h.2 hd
 refine gR 8 rfl ?_
 refine gB 27 rfl rfl rfl (fun hd => ?_) (fun hd => ?_)
 refine gT 28 rfl hd rfl ?_
 replace hd := (eq_of_beq hd)
 replace h := h.1 hd
 refine gR 13 rfl ?_
 subst h
 refine ab (F' := (mkF 31 0 [(6, .str p2)])) (H' := ⟨0, []⟩) [] [] rfl hK ⟨⟨_, rfl, .rfl⟩, trivial⟩ trivial rfl ?_
 exact ac aa (rs := [.tmp 6]) rfl rfl rfl
 refine gF 28 rfl hd rfl ?_
 replace hd := (ne_of_beq_false hd)
 replace h := h.2 hd
 refine gR 6 rfl ?_
 refine gB 27 rfl rfl rfl (fun hd => ?_) (fun hd => ?_)
 refine gT 29 rfl hd rfl ?_
 replace hd := (eq_of_beq hd)
 replace h := h.1 hd
 refine gR 10 rfl ?_
 subst h
 refine ab (F' := (mkF 31 0 [(6, .str p2)])) (H' := ⟨0, []⟩) [] [] rfl hK ⟨⟨_, rfl, .rfl⟩, trivial⟩ trivial rfl ?_
 exact ac aa (rs := [.tmp 6]) rfl rfl rfl
 refine gF 29 rfl hd rfl ?_
 replace hd := (ne_of_beq_false hd)
 replace h := h.2 hd
 refine gR 10 rfl ?_
 subst h
 refine ab (F' := (mkF 31 0 [(6, .str [32])])) (H' := ⟨0, []⟩) [] [] rfl hK ⟨⟨_, rfl, .rfl⟩, trivial⟩ trivial rfl ?_
 exact ac aa (rs := [.tmp 6]) rfl rfl rfl
def jl (m : Nat) (p0 : Tree) (p1 : (List UInt8)) (r0_2 : (List (List UInt8))) (r0 : Tree) : Prop := ∀ (K : Ctx), au K [] → Go Tryz.prog K (bodyPost Tryz.prog Tryz.f74 (SP K (fun u _ => u = .agg (ai r0)))) (.ex .normal) [.seq (cB (cB (cB (ae Tryz.f74))))] 109 (mkF 109 0 [(1, .str p1), (2, .box (ai p0) 0), (4, .ptr 0 0), (5, .int .i64 ((p0.kids.length : Nat) : Int)), (6, .ptr 1 0)]) ⟨3, [(2, .row 9 1 (List.map V.str r0_2)), (1, .var 29 [.int .i64 p0.kind, .str p0.text, .sl 2, .nils]), (0, .var 29 [.int .i64 0, .str [], .nils, .nils])]⟩
def dg (m : Nat) (p0 : Tree) (p1 : (List UInt8)) (r0_2 : (List (List UInt8))) (l2v1 : (List Tree)) (i2v2 : Nat) (r0 : Tree) : Prop := ∀ (K : Ctx) (j1 : Nat), au K [] → m ≤ j1 → Go Tryz.prog K (bodyPost Tryz.prog Tryz.f74 (SP K (fun u _ => u = .agg (ai r0)))) (.code (cL (cK (cB (cA (cB (cB (cB (cB (ae Tryz.f74)))))))))) [.loop (cL (cK (cB (cA (cB (cB (cB (cB (ae Tryz.f74))))))))) j1, .blk 0, .seq (cB (cB (cB (cB (cB (ae Tryz.f74))))))] 109 (mkF 109 0 [(1, .str p1), (2, .box (ai p0) 0), (4, .ptr 0 0), (5, .int .i64 ((p0.kids.length : Nat) : Int)), (6, .ptr 1 0), (7, .sl 2), (8, .int .i64 ((i2v2 : Nat) : Int))]) ⟨4, [(3, .row 9 1 (List.map V.str r0_2)), (2, .row 29 4 (kidsV l2v1)), (1, .var 29 [.int .i64 p0.kind, .str p0.text, .sl 3, .nils]), (0, .var 29 [.int .i64 0, .str [], .nils, .nils])]⟩
def dc (m : Nat) (p0 : Tree) (l3v1 : (List (List UInt8))) (l3v2 : (List Tree)) (r0 : Tree) : Prop := ∀ (K : Ctx), au K [] → Go Tryz.prog K (bodyPost Tryz.prog Tryz.f74 (SP K (fun u _ => u = .agg (ai r0)))) (.code (cB (cB (cB (cB (cB (cB (ae Tryz.f74)))))))) [] 109 (mkF 109 0 [(2, .box (ai p0) 0), (4, .ptr 0 0), (6, .ptr 1 0), (7, .sl 2)]) ⟨4, [(3, .row 9 1 (List.map V.str l3v1)), (2, .row 29 4 (kidsV l3v2)), (1, .var 29 [.int .i64 p0.kind, .str p0.text, .sl 3, .nils]), (0, .var 29 [.int .i64 0, .str [], .nils, .nils])]⟩
def ee (m : Nat) (p0 : Tree) (l4v1 : (List (List UInt8))) (i4v2 : Nat) (l4v3 : (List Tree)) (r0 : Tree) : Prop := ∀ (K : Ctx) (j1 : Nat), au K [] → m ≤ j1 → Go Tryz.prog K (bodyPost Tryz.prog Tryz.f74 (SP K (fun u _ => u = .agg (ai r0)))) (.code (cL (cK (cB (cB (cT (cB (cE (cB (cK (cB (cA (cB (cB (cB (cB (cB (cB (ae Tryz.f74))))))))))))))))))) [.loop (cL (cK (cB (cB (cT (cB (cE (cB (cK (cB (cA (cB (cB (cB (cB (cB (cB (ae Tryz.f74)))))))))))))))))) j1, .blk 3, .blk 2, .seq (cB (cB (cB (cB (cB (cB (cB (ae Tryz.f74))))))))] 109 (mkF 109 0 [(4, .ptr 0 0), (6, .ptr 1 0), (7, .sl 2), (9, .int .i64 ((i4v2 : Nat) : Int))]) ⟨4, [(3, .row 9 1 (List.map V.str l4v1)), (2, .row 29 4 (kidsV l4v3)), (1, .var 29 [.int .i64 p0.kind, .str p0.text, .sl 3, .nils]), (0, .var 29 [.int .i64 0, .str [], .nils, .nils])]⟩
def de (m : Nat) (p0 : Tree) (l5v1 : (List (List UInt8))) (i5v2 : Nat) (l5v3 : (List Tree)) (r0 : Tree) : Prop := ∀ (K : Ctx) (j1 : Nat), au K [] → m ≤ j1 → Go Tryz.prog K (bodyPost Tryz.prog Tryz.f74 (SP K (fun u _ => u = .agg (ai r0)))) (.code (cL (cK (cB (cT (cB (cE (cB (cE (cB (cE (cB (cK (cB (cA (cB (cB (cB (cB (cB (cB (ae Tryz.f74)))))))))))))))))))))) [.loop (cL (cK (cB (cT (cB (cE (cB (cE (cB (cE (cB (cK (cB (cA (cB (cB (cB (cB (cB (cB (ae Tryz.f74))))))))))))))))))))) j1, .blk 5, .blk 2, .seq (cB (cB (cB (cB (cB (cB (cB (ae Tryz.f74))))))))] 109 (mkF 109 0 [(4, .ptr 0 0), (6, .ptr 1 0), (7, .sl 2), (10, .int .i64 ((i5v2 : Nat) : Int))]) ⟨4, [(3, .row 9 1 (List.map V.str l5v1)), (2, .row 29 4 (kidsV l5v3)), (1, .var 29 [.int .i64 p0.kind, .str p0.text, .sl 3, .nils]), (0, .var 29 [.int .i64 0, .str [], .nils, .nils])]⟩
theorem nG (m : Nat) (p0 : Tree) (p1 : (List UInt8)) (r0 : Tree) (h : ∃ (n0_1 : Int), d6 p0.kind ((p0.kids.length : Nat) : Int) n0_1 ∧ ∃ (r0_2 : (List (List UInt8))), gP n0_1 r0_2 ∧ jl m p0 p1 r0_2 r0) : eC p0 p1 r0 := by
 refine ⟨rfl, rfl, ?_⟩
 refine ak 109 [] Tryz.func74 rfl rfl rfl (aA rfl) fun K hK => ?_
 refine gR 3 rfl ?_
 refine gFP 0 rfl rfl rfl rfl ?_
 refine gR 8 rfl ?_
 refine gV 13 (.int .i64 ((p0.kids.length : Nat) : Int)) rfl (bc (aD _)) rfl ?_
 refine gLB 12 rfl (aD _) fun hl31 => ?_
 refine gR 4 rfl ?_
 refine gDs [] 11 12 rfl (by kernel_rfl) (by kernel_rfl) ?_
 refine gDr [(0, 2), (1, 2), (2, 2), (3, 2), (4, 2), (5, 2), (6, 2)] (by kernel_rfl) rfl rfl ?_
 obtain ⟨n0_1, hs32, h⟩ := h
 apply mG (i := 7) (j := 10) (by kernel_rfl) rfl rfl rfl rfl
 exact (jZ (L' := []) (by kernel_rfl) rfl rfl (qV hs32 .rfl [] rfl) (.inl rfl))
 exact (mT aa rfl rfl)
 obtain ⟨r0_2, hs33, h⟩ := h
 apply mG (i := 8) (j := 10) (by kernel_rfl) rfl rfl rfl rfl
 exact (jZ (L' := []) (by kernel_rfl) rfl rfl (sF (H := ⟨2, [(1, .var 29 [.int .i64 0, .str [], .nils, .nils])]⟩) hs33 [] .rfl trivial rfl [] rfl) (.inl rfl))
 exact (mT aa rfl rfl)
 refine gHR 2 (List.map V.str r0_2) rfl (an _ V.str (fun _ => rfl) r0_2) rfl ?_
 refine gDr [(9, 2), (10, 0), (11, 1)] (by kernel_rfl) rfl rfl ?_
 refine gDe (by kernel_rfl) ?_
 exact gJ (h K hK) [1, 3, 2] [] rfl hK ⟨⟨_, rfl, .rfl⟩, ⟨_, rfl, .rfl⟩, ⟨_, rfl, .rfl⟩, ⟨_, rfl, .rfl⟩, ⟨_, rfl, .rfl⟩, trivial⟩ ⟨⟨_, rfl, ⟨rfl, rfl, (an _ V.str (fun _ => rfl) r0_2).symm⟩⟩, ⟨⟨_, rfl, ⟨rfl, ah.rfl⟩⟩, ⟨⟨_, rfl, ⟨rfl, ah.rfl⟩⟩, trivial⟩⟩⟩ rfl
 refine gDC 8 hs33 [] (by kernel_rfl) rfl (by kernel_rfl) rfl rfl .rfl trivial (by kernel_rfl) rfl ?_
 rintro _ _ ⟨rfl, rfl⟩
 refine gHR 3 (List.map V.str r0_2) rfl (an _ V.str (fun _ => rfl) r0_2) rfl ?_
 refine gDr [(9, 0), (11, 1)] (by kernel_rfl) rfl rfl ?_
 refine gDe (by kernel_rfl) ?_
 exact gJ (h K hK) [1, 2, 3] [] rfl hK ⟨⟨_, rfl, .rfl⟩, ⟨_, rfl, .rfl⟩, ⟨_, rfl, .rfl⟩, ⟨_, rfl, .rfl⟩, ⟨_, rfl, .rfl⟩, trivial⟩ ⟨⟨_, rfl, ⟨rfl, rfl, (an _ V.str (fun _ => rfl) r0_2).symm⟩⟩, ⟨⟨_, rfl, ⟨rfl, ah.rfl⟩⟩, ⟨⟨_, rfl, ⟨rfl, ah.rfl⟩⟩, trivial⟩⟩⟩ rfl
 refine br 7 hs32 (by kernel_rfl) rfl (by kernel_rfl) rfl rfl .rfl rfl rfl ?_
 obtain ⟨r0_2, hs34, h⟩ := h
 refine gDC 8 hs34 [] (by kernel_rfl) rfl (by kernel_rfl) rfl rfl .rfl trivial (by kernel_rfl) rfl ?_
 rintro _ _ ⟨rfl, rfl⟩
 refine gHR 3 (List.map V.str r0_2) rfl (an _ V.str (fun _ => rfl) r0_2) rfl ?_
 refine gDr [(9, 0), (11, 1)] (by kernel_rfl) rfl rfl ?_
 refine gDe (by kernel_rfl) ?_
 exact gJ (h K hK) [1, 2, 3] [] rfl hK ⟨⟨_, rfl, .rfl⟩, ⟨_, rfl, .rfl⟩, ⟨_, rfl, .rfl⟩, ⟨_, rfl, .rfl⟩, ⟨_, rfl, .rfl⟩, trivial⟩ ⟨⟨_, rfl, ⟨rfl, rfl, (an _ V.str (fun _ => rfl) r0_2).symm⟩⟩, ⟨⟨_, rfl, ⟨rfl, ah.rfl⟩⟩, ⟨⟨_, rfl, ⟨rfl, ah.rfl⟩⟩, trivial⟩⟩⟩ rfl
theorem nh (m : Nat) (p0 : Tree) (p1 : (List UInt8)) (r0_2 : (List (List UInt8))) (r0 : Tree) (h : p0.kids.length ≤ 1000000000 ∧ dg m p0 p1 r0_2 (List.replicate p0.kids.length (Tree.node 0 [] [] [])) 0 r0) : jl (m + 1) p0 p1 r0_2 r0 := by
 intro K hK
 refine gR 4 rfl ?_
 obtain ⟨hb, h⟩ := h
 refine gDo (.new (.row 29 4 (List.replicate p0.kids.length (.agg [.int .i64 0, .str [], .nils, .nils])))) (dMk aa rfl rfl rfl rfl rfl rfl rfl (by kernel_rfl) hb) trivial rfl rfl rfl ?_
 refine gHW 3 (List.replicate p0.kids.length (.agg [.int .i64 0, .str [], .row 1 [], .row 4 (kidsV [])])) rfl rfl (ah.rep (.agg (.cons .rfl (.cons .rfl (.cons (.nil 1) (.cons (.nil 4) .nil))))) _) rfl ?_
 refine gHR 3 (kidsV (List.replicate p0.kids.length (Tree.node 0 [] [] []))) rfl (by first | (simp only [pA, List.map_replicate]; done) | (simp only [pA, List.map_replicate]; rfl)) rfl ?_
 refine gR 10 rfl ?_
 refine go_loop m ?_
 exact gJ (h K _ hK (by omega)) [0, 1, 3, 2] [] rfl hK ⟨⟨_, rfl, .rfl⟩, ⟨_, rfl, .rfl⟩, ⟨_, rfl, .rfl⟩, ⟨_, rfl, .rfl⟩, ⟨_, rfl, .rfl⟩, ⟨_, rfl, .rfl⟩, ⟨_, rfl, .rfl⟩, trivial⟩ ⟨⟨_, rfl, ⟨rfl, rfl, (an _ V.str (fun _ => rfl) r0_2).symm⟩⟩, ⟨⟨_, rfl, ⟨rfl, rfl, (eO _ (List.replicate p0.kids.length (Tree.node 0 [] [] []))).symm⟩⟩, ⟨⟨_, rfl, ⟨rfl, ah.rfl⟩⟩, ⟨⟨_, rfl, ⟨rfl, ah.rfl⟩⟩, trivial⟩⟩⟩⟩ rfl
theorem dU (m : Nat) (p0 : Tree) (p1 : (List UInt8)) (r0_2 : (List (List UInt8))) (l2v1 : (List Tree)) (i2v2 : Nat) (r0 : Tree) (h : ((i2v2 < p0.kids.length) → ∃ (t2_1 : Tree), p0.kids[i2v2]? = some t2_1 ∧ ∃ (s2_2 : (List UInt8)), gX p0 ((i2v2 : Nat) : Int) p1 s2_2 ∧ ∃ (t2_3 : Tree), eC t2_1 s2_2 t2_3 ∧ ∃ (t2_4 : Tree), l2v1[i2v2]? = some t2_4 ∧ i2v2 + 1 ≤ 9223372036854775807 ∧ dg m p0 p1 r0_2 (l2v1.set i2v2 t2_3) (i2v2 + 1) r0) ∧ ((¬ i2v2 < p0.kids.length) → ((p0.kind ≠ 17) → ((p0.kind ≠ 21) → ∃ (s2_5 : (List UInt8)), r0_2[0]? = some s2_5 ∧ dc m p0 (r0_2.set 0 p1) l2v1 r0) ∧ ((p0.kind = 21) → dc m p0 r0_2 l2v1 r0)) ∧ ((p0.kind = 17) → dc m p0 r0_2 l2v1 r0))) : dg (m + 1) p0 p1 r0_2 l2v1 i2v2 r0 := by
 intro K j1 hK hj1
 obtain ⟨j1, rfl⟩ : ∃ j, j1 = j + 1 := ⟨j1 - 1, by omega⟩
 refine gR 8 rfl ?_
 refine gB 28 rfl rfl rfl (fun hd => ?_) (fun hd => ?_)
 replace hd := (cO hd)
 replace h := h.1 hd
 refine gR 5 rfl ?_
 refine gDs [] 13 14 rfl (by kernel_rfl) (by kernel_rfl) ?_
 refine gDr [(0, 2), (1, 2), (2, 2), (3, 2), (4, 2)] (by kernel_rfl) rfl rfl ?_
 obtain ⟨t2_1, hxt2_1, h⟩ := h
 refine gYd 5 rfl (by kernel_rfl) (aK (am hxt2_1) aa rfl rfl rfl rfl) rfl rfl ?_
 refine gDr [(6, 2), (7, 2), (8, 2), (9, 0)] (by kernel_rfl) rfl rfl ?_
 obtain ⟨s2_2, hs35, h⟩ := h
 refine br 10 hs35 (by kernel_rfl) rfl (by kernel_rfl) rfl rfl .rfl rfl rfl ?_
 obtain ⟨t2_3, hs36, h⟩ := h
 refine br 11 hs36 (by kernel_rfl) rfl (by kernel_rfl) rfl rfl .rfl rfl rfl ?_
 obtain ⟨t2_4, hxt2_4, h⟩ := h
 refine dF 12 rfl (by kernel_rfl) (yIO aa rfl rfl rfl rfl (by have := (am hxt2_4); exact (List.getElem?_eq_some_iff.1 this).1)) rfl rfl ?_
 refine cW 13 (.set 2 (.row 29 4 (kidsV (l2v1.set i2v2 t2_3)))) rfl (by kernel_rfl) (dSe aa rfl rfl rfl rfl (am hxt2_4) rfl (yA l2v1 i2v2 t2_3)) (okS rfl) rfl (by kernel_rfl) rfl rfl ?_
 refine gDe (by kernel_rfl) ?_
 refine gR 4 rfl ?_
 obtain ⟨hb, h⟩ := h
 refine gR 1 rfl ?_
 refine gV 30 (.int .i64 ((i2v2 + 1 : Nat) : Int)) rfl (ar (by omega) (by omega)) rfl ?_
 refine gR 2 rfl ?_
 refine aq ?_
 exact gJ (h K _ hK (by omega)) [0, 1, 2, 3] [] rfl hK ⟨⟨_, rfl, .rfl⟩, ⟨_, rfl, .rfl⟩, ⟨_, rfl, .rfl⟩, ⟨_, rfl, .rfl⟩, ⟨_, rfl, .rfl⟩, ⟨_, rfl, .rfl⟩, ⟨_, rfl, .rfl⟩, trivial⟩ ⟨⟨_, rfl, ⟨rfl, rfl, (an _ V.str (fun _ => rfl) r0_2).symm⟩⟩, ⟨⟨_, rfl, ⟨rfl, rfl, (eO _ (l2v1.set i2v2 t2_3)).symm⟩⟩, ⟨⟨_, rfl, ⟨rfl, ah.rfl⟩⟩, ⟨⟨_, rfl, ⟨rfl, ah.rfl⟩⟩, trivial⟩⟩⟩⟩ rfl
 replace hd := (cI hd)
 replace h := h.2 hd
 refine gR 3 rfl ?_
 refine av ?_
 refine gR 9 rfl ?_
 refine gB 47 rfl rfl rfl (fun hd => ?_) (fun hd => ?_)
 refine gT 46 rfl hd rfl ?_
 replace hd := (fe hd)
 replace h := h.1 hd
 refine gR 6 rfl ?_
 refine gB 51 rfl rfl rfl (fun hd => ?_) (fun hd => ?_)
 replace hd := (fe hd)
 replace h := h.1 hd
 refine gR 5 rfl ?_
 obtain ⟨s2_5, hxs2_5, h⟩ := h
 refine gY (yIO aa rfl rfl rfl rfl (by have := (mapget (f := V.str) hxs2_5); exact (List.getElem?_eq_some_iff.1 this).1)) rfl rfl ?_
 refine gDo (.set 3 (.row 9 1 (List.map V.str (r0_2.set 0 p1)))) (dSe aa rfl rfl rfl rfl (mapget (f := V.str) hxs2_5) rfl (mP V.str r0_2 0 p1)) (okS rfl) rfl rfl rfl ?_
 refine gR 2 rfl ?_
 exact gJ (h K hK) [0, 1, 2, 3] [] rfl hK ⟨⟨_, rfl, .rfl⟩, ⟨_, rfl, .rfl⟩, ⟨_, rfl, .rfl⟩, ⟨_, rfl, .rfl⟩, trivial⟩ ⟨⟨_, rfl, ⟨rfl, rfl, (an _ V.str (fun _ => rfl) (r0_2.set 0 p1)).symm⟩⟩, ⟨⟨_, rfl, ⟨rfl, rfl, (eO _ l2v1).symm⟩⟩, ⟨⟨_, rfl, ⟨rfl, ah.rfl⟩⟩, ⟨⟨_, rfl, ⟨rfl, ah.rfl⟩⟩, trivial⟩⟩⟩⟩ rfl
 replace hd := (dA hd)
 replace h := h.2 hd
 refine gR 3 rfl ?_
 exact gJ (h K hK) [0, 1, 2, 3] [] rfl hK ⟨⟨_, rfl, .rfl⟩, ⟨_, rfl, .rfl⟩, ⟨_, rfl, .rfl⟩, ⟨_, rfl, .rfl⟩, trivial⟩ ⟨⟨_, rfl, ⟨rfl, rfl, (an _ V.str (fun _ => rfl) r0_2).symm⟩⟩, ⟨⟨_, rfl, ⟨rfl, rfl, (eO _ l2v1).symm⟩⟩, ⟨⟨_, rfl, ⟨rfl, ah.rfl⟩⟩, ⟨⟨_, rfl, ⟨rfl, ah.rfl⟩⟩, trivial⟩⟩⟩⟩ rfl
 refine gF 46 rfl hd rfl ?_
 replace hd := (dA hd)
 replace h := h.2 hd
 refine gR 9 rfl ?_
 exact gJ (h K hK) [0, 1, 2, 3] [] rfl hK ⟨⟨_, rfl, .rfl⟩, ⟨_, rfl, .rfl⟩, ⟨_, rfl, .rfl⟩, ⟨_, rfl, .rfl⟩, trivial⟩ ⟨⟨_, rfl, ⟨rfl, rfl, (an _ V.str (fun _ => rfl) r0_2).symm⟩⟩, ⟨⟨_, rfl, ⟨rfl, rfl, (eO _ l2v1).symm⟩⟩, ⟨⟨_, rfl, ⟨rfl, ah.rfl⟩⟩, ⟨⟨_, rfl, ⟨rfl, ah.rfl⟩⟩, trivial⟩⟩⟩⟩ rfl
theorem bD (m : Nat) (p0 : Tree) (l3v1 : (List (List UInt8))) (l3v2 : (List Tree)) (r0 : Tree) (h : ((p0.kind = 1) → ∃ (s3_1 : (List UInt8)), l3v1[2]? = some s3_1 ∧ (Tree.node p0.kind p0.text (l3v1.set 2 [10]) l3v2) = r0) ∧ ((p0.kind ≠ 1) → ((p0.kind = 2) → ∃ (s3_2 : (List UInt8)), l3v1[2]? = some s3_2 ∧ ∃ (s3_3 : (List UInt8)), (l3v1.set 2 [])[3]? = some s3_3 ∧ ∃ (s3_4 : (List UInt8)), ((l3v1.set 2 []).set 3 [])[4]? = some s3_4 ∧ ee m p0 (((l3v1.set 2 []).set 3 []).set 4 []) 6 l3v2 r0) ∧ ((p0.kind ≠ 2) → ((p0.kind = 4) → ∃ (s3_5 : (List UInt8)), l3v1[1]? = some s3_5 ∧ (Tree.node p0.kind p0.text (l3v1.set 1 []) l3v2) = r0) ∧ ((p0.kind ≠ 4) → ((p0.kind = 8) → ∃ (s3_6 : (List UInt8)), l3v1[1]? = some s3_6 ∧ (Tree.node p0.kind p0.text (l3v1.set 1 []) l3v2) = r0) ∧ ((p0.kind ≠ 8) → ((p0.kind = 22) → ∃ (s3_7 : (List UInt8)), l3v1[1]? = some s3_7 ∧ (Tree.node p0.kind p0.text (l3v1.set 1 []) l3v2) = r0) ∧ ((p0.kind ≠ 22) → ((p0.kind = 16) → de m p0 l3v1 1 l3v2 r0) ∧ ((p0.kind ≠ 16) → ((p0.kind = 18) → de m p0 l3v1 1 l3v2 r0) ∧ ((p0.kind ≠ 18) → (Tree.node p0.kind p0.text l3v1 l3v2) = r0)))))))) : dc (m + 1) p0 l3v1 l3v2 r0 := by
 intro K hK
 refine gR 14 rfl ?_
 refine gB 58 rfl rfl rfl (fun hd => ?_) (fun hd => ?_)
 refine gT 59 rfl hd rfl ?_
 replace hd := (eq_of_beq hd)
 replace h := h.1 hd
 refine gR 4 rfl ?_
 obtain ⟨s3_1, hxs3_1, h⟩ := h
 refine gY (yIO aa rfl rfl rfl rfl (by have := (mapget (f := V.str) hxs3_1); exact (List.getElem?_eq_some_iff.1 this).1)) rfl rfl ?_
 refine gDo (.set 3 (.row 9 1 (List.map V.str (l3v1.set 2 [10])))) (dSe aa rfl rfl rfl rfl (mapget (f := V.str) hxs3_1) rfl (mP V.str l3v1 2 [10])) (okS rfl) rfl rfl rfl ?_
 refine gR 17 rfl ?_
 refine gFR 3 rfl (i5 _ (fun _ => rfl) _) rfl rfl ?_
 refine gFR 2 rfl (co _) rfl rfl ?_
 subst h
 refine ab (F' := (mkF 109 0 [(4, .ptr 0 0)])) (H' := ⟨1, [(0, .var 29 [.int .i64 ((Tree.node p0.kind p0.text (l3v1.set 2 [10]) l3v2).kind), .str ((Tree.node p0.kind p0.text (l3v1.set 2 [10]) l3v2).text), .row 1 (List.map V.str ((Tree.node p0.kind p0.text (l3v1.set 2 [10]) l3v2).leads)), .row 4 (kidsV ((Tree.node p0.kind p0.text (l3v1.set 2 [10]) l3v2).kids))])]⟩) [0] [] rfl hK ⟨⟨_, rfl, .rfl⟩, trivial⟩ ⟨⟨_, rfl, ⟨rfl, ah.rfl⟩⟩, trivial⟩ rfl ?_
 exact ac aa (rs := [.cell 4 29]) rfl rfl rfl
 refine gF 59 rfl hd rfl ?_
 replace hd := (ne_of_beq_false hd)
 replace h := h.2 hd
 refine gR 7 rfl ?_
 refine gB 63 rfl rfl rfl (fun hd => ?_) (fun hd => ?_)
 refine gT 64 rfl hd rfl ?_
 replace hd := (eq_of_beq hd)
 replace h := h.1 hd
 refine gR 2 rfl ?_
 refine gDs [1] 11 12 rfl (by kernel_rfl) (by kernel_rfl) ?_
 refine gDr [(0, 2), (1, 3), (2, 2), (3, 3), (4, 2), (5, 3)] (by kernel_rfl) rfl rfl ?_
 obtain ⟨s3_2, hxs3_2, h⟩ := h
 refine dF 6 rfl (by kernel_rfl) (yIO aa rfl rfl rfl rfl (by have := (mapget (f := V.str) hxs3_2); exact (List.getElem?_eq_some_iff.1 this).1)) rfl rfl ?_
 refine cW 7 (.set 3 (.row 9 1 (List.map V.str (l3v1.set 2 [])))) rfl (by kernel_rfl) (dSe aa rfl rfl rfl rfl (mapget (f := V.str) hxs3_2) rfl (mP V.str l3v1 2 [])) (okS rfl) rfl (by kernel_rfl) rfl rfl ?_
 obtain ⟨s3_3, hxs3_3, h⟩ := h
 refine dF 8 rfl (by kernel_rfl) (yIO aa rfl rfl rfl rfl (by have := (mapget (f := V.str) hxs3_3); exact (List.getElem?_eq_some_iff.1 this).1)) rfl rfl ?_
 refine cW 9 (.set 3 (.row 9 1 (List.map V.str ((l3v1.set 2 []).set 3 [])))) rfl (by kernel_rfl) (dSe aa rfl rfl rfl rfl (mapget (f := V.str) hxs3_3) rfl (mP V.str (l3v1.set 2 []) 3 [])) (okS rfl) rfl (by kernel_rfl) rfl rfl ?_
 obtain ⟨s3_4, hxs3_4, h⟩ := h
 refine dF 10 rfl (by kernel_rfl) (yIO aa rfl rfl rfl rfl (by have := (mapget (f := V.str) hxs3_4); exact (List.getElem?_eq_some_iff.1 this).1)) rfl rfl ?_
 refine cW 11 (.set 3 (.row 9 1 (List.map V.str (((l3v1.set 2 []).set 3 []).set 4 [])))) rfl (by kernel_rfl) (dSe aa rfl rfl rfl rfl (mapget (f := V.str) hxs3_4) rfl (mP V.str ((l3v1.set 2 []).set 3 []) 4 [])) (okS rfl) rfl (by kernel_rfl) rfl rfl ?_
 refine gDe (by kernel_rfl) ?_
 refine gR 7 rfl ?_
 refine go_loop m ?_
 exact gJ (h K _ hK (by omega)) [0, 1, 2, 3] [] rfl hK ⟨⟨_, rfl, .rfl⟩, ⟨_, rfl, .rfl⟩, ⟨_, rfl, .rfl⟩, ⟨_, rfl, .rfl⟩, trivial⟩ ⟨⟨_, rfl, ⟨rfl, rfl, (an _ V.str (fun _ => rfl) (((l3v1.set 2 []).set 3 []).set 4 [])).symm⟩⟩, ⟨⟨_, rfl, ⟨rfl, rfl, (eO _ l3v2).symm⟩⟩, ⟨⟨_, rfl, ⟨rfl, ah.rfl⟩⟩, ⟨⟨_, rfl, ⟨rfl, ah.rfl⟩⟩, trivial⟩⟩⟩⟩ rfl
 refine gF 64 rfl hd rfl ?_
 replace hd := (ne_of_beq_false hd)
 replace h := h.2 hd
 refine gR 8 rfl ?_
 refine gB 85 rfl rfl rfl (fun hd => ?_) (fun hd => ?_)
 refine gT 86 rfl hd rfl ?_
 replace hd := (eq_of_beq hd)
 replace h := h.1 hd
 refine gR 7 rfl ?_
 obtain ⟨s3_5, hxs3_5, h⟩ := h
 refine gY (yIO aa rfl rfl rfl rfl (by have := (mapget (f := V.str) hxs3_5); exact (List.getElem?_eq_some_iff.1 this).1)) rfl rfl ?_
 refine gDo (.set 3 (.row 9 1 (List.map V.str (l3v1.set 1 [])))) (dSe aa rfl rfl rfl rfl (mapget (f := V.str) hxs3_5) rfl (mP V.str l3v1 1 [])) (okS rfl) rfl rfl rfl ?_
 refine gR 17 rfl ?_
 refine gFR 3 rfl (i5 _ (fun _ => rfl) _) rfl rfl ?_
 refine gFR 2 rfl (co _) rfl rfl ?_
 subst h
 refine ab (F' := (mkF 109 0 [(4, .ptr 0 0)])) (H' := ⟨1, [(0, .var 29 [.int .i64 ((Tree.node p0.kind p0.text (l3v1.set 1 []) l3v2).kind), .str ((Tree.node p0.kind p0.text (l3v1.set 1 []) l3v2).text), .row 1 (List.map V.str ((Tree.node p0.kind p0.text (l3v1.set 1 []) l3v2).leads)), .row 4 (kidsV ((Tree.node p0.kind p0.text (l3v1.set 1 []) l3v2).kids))])]⟩) [0] [] rfl hK ⟨⟨_, rfl, .rfl⟩, trivial⟩ ⟨⟨_, rfl, ⟨rfl, ah.rfl⟩⟩, trivial⟩ rfl ?_
 exact ac aa (rs := [.cell 4 29]) rfl rfl rfl
 refine gF 86 rfl hd rfl ?_
 replace hd := (ne_of_beq_false hd)
 replace h := h.2 hd
 refine gR 7 rfl ?_
 refine gB 85 rfl rfl rfl (fun hd => ?_) (fun hd => ?_)
 refine gT 87 rfl hd rfl ?_
 replace hd := (eq_of_beq hd)
 replace h := h.1 hd
 refine gR 7 rfl ?_
 obtain ⟨s3_6, hxs3_6, h⟩ := h
 refine gY (yIO aa rfl rfl rfl rfl (by have := (mapget (f := V.str) hxs3_6); exact (List.getElem?_eq_some_iff.1 this).1)) rfl rfl ?_
 refine gDo (.set 3 (.row 9 1 (List.map V.str (l3v1.set 1 [])))) (dSe aa rfl rfl rfl rfl (mapget (f := V.str) hxs3_6) rfl (mP V.str l3v1 1 [])) (okS rfl) rfl rfl rfl ?_
 refine gR 17 rfl ?_
 refine gFR 3 rfl (i5 _ (fun _ => rfl) _) rfl rfl ?_
 refine gFR 2 rfl (co _) rfl rfl ?_
 subst h
 refine ab (F' := (mkF 109 0 [(4, .ptr 0 0)])) (H' := ⟨1, [(0, .var 29 [.int .i64 ((Tree.node p0.kind p0.text (l3v1.set 1 []) l3v2).kind), .str ((Tree.node p0.kind p0.text (l3v1.set 1 []) l3v2).text), .row 1 (List.map V.str ((Tree.node p0.kind p0.text (l3v1.set 1 []) l3v2).leads)), .row 4 (kidsV ((Tree.node p0.kind p0.text (l3v1.set 1 []) l3v2).kids))])]⟩) [0] [] rfl hK ⟨⟨_, rfl, .rfl⟩, trivial⟩ ⟨⟨_, rfl, ⟨rfl, ah.rfl⟩⟩, trivial⟩ rfl ?_
 exact ac aa (rs := [.cell 4 29]) rfl rfl rfl
 refine gF 87 rfl hd rfl ?_
 replace hd := (ne_of_beq_false hd)
 replace h := h.2 hd
 refine gR 6 rfl ?_
 refine gB 85 rfl rfl rfl (fun hd => ?_) (fun hd => ?_)
 refine gT 88 rfl hd rfl ?_
 replace hd := (eq_of_beq hd)
 replace h := h.1 hd
 refine gR 4 rfl ?_
 obtain ⟨s3_7, hxs3_7, h⟩ := h
 refine gY (yIO aa rfl rfl rfl rfl (by have := (mapget (f := V.str) hxs3_7); exact (List.getElem?_eq_some_iff.1 this).1)) rfl rfl ?_
 refine gDo (.set 3 (.row 9 1 (List.map V.str (l3v1.set 1 [])))) (dSe aa rfl rfl rfl rfl (mapget (f := V.str) hxs3_7) rfl (mP V.str l3v1 1 [])) (okS rfl) rfl rfl rfl ?_
 refine gR 17 rfl ?_
 refine gFR 3 rfl (i5 _ (fun _ => rfl) _) rfl rfl ?_
 refine gFR 2 rfl (co _) rfl rfl ?_
 subst h
 refine ab (F' := (mkF 109 0 [(4, .ptr 0 0)])) (H' := ⟨1, [(0, .var 29 [.int .i64 ((Tree.node p0.kind p0.text (l3v1.set 1 []) l3v2).kind), .str ((Tree.node p0.kind p0.text (l3v1.set 1 []) l3v2).text), .row 1 (List.map V.str ((Tree.node p0.kind p0.text (l3v1.set 1 []) l3v2).leads)), .row 4 (kidsV ((Tree.node p0.kind p0.text (l3v1.set 1 []) l3v2).kids))])]⟩) [0] [] rfl hK ⟨⟨_, rfl, .rfl⟩, trivial⟩ ⟨⟨_, rfl, ⟨rfl, ah.rfl⟩⟩, trivial⟩ rfl ?_
 exact ac aa (rs := [.cell 4 29]) rfl rfl rfl
 refine gF 88 rfl hd rfl ?_
 replace hd := (ne_of_beq_false hd)
 replace h := h.2 hd
 refine gR 8 rfl ?_
 refine gB 92 rfl rfl rfl (fun hd => ?_) (fun hd => ?_)
 refine gT 93 rfl hd rfl ?_
 replace hd := (eq_of_beq hd)
 replace h := h.1 hd
 refine gR 10 rfl ?_
 refine go_loop m ?_
 exact gJ (h K _ hK (by omega)) [0, 1, 2, 3] [] rfl hK ⟨⟨_, rfl, .rfl⟩, ⟨_, rfl, .rfl⟩, ⟨_, rfl, .rfl⟩, ⟨_, rfl, .rfl⟩, trivial⟩ ⟨⟨_, rfl, ⟨rfl, rfl, (an _ V.str (fun _ => rfl) l3v1).symm⟩⟩, ⟨⟨_, rfl, ⟨rfl, rfl, (eO _ l3v2).symm⟩⟩, ⟨⟨_, rfl, ⟨rfl, ah.rfl⟩⟩, ⟨⟨_, rfl, ⟨rfl, ah.rfl⟩⟩, trivial⟩⟩⟩⟩ rfl
 refine gF 93 rfl hd rfl ?_
 replace hd := (ne_of_beq_false hd)
 replace h := h.2 hd
 refine gR 6 rfl ?_
 refine gB 92 rfl rfl rfl (fun hd => ?_) (fun hd => ?_)
 refine gT 94 rfl hd rfl ?_
 replace hd := (eq_of_beq hd)
 replace h := h.1 hd
 refine gR 7 rfl ?_
 refine go_loop m ?_
 exact gJ (h K _ hK (by omega)) [0, 1, 2, 3] [] rfl hK ⟨⟨_, rfl, .rfl⟩, ⟨_, rfl, .rfl⟩, ⟨_, rfl, .rfl⟩, ⟨_, rfl, .rfl⟩, trivial⟩ ⟨⟨_, rfl, ⟨rfl, rfl, (an _ V.str (fun _ => rfl) l3v1).symm⟩⟩, ⟨⟨_, rfl, ⟨rfl, rfl, (eO _ l3v2).symm⟩⟩, ⟨⟨_, rfl, ⟨rfl, ah.rfl⟩⟩, ⟨⟨_, rfl, ⟨rfl, ah.rfl⟩⟩, trivial⟩⟩⟩⟩ rfl
 refine gF 94 rfl hd rfl ?_
 replace hd := (ne_of_beq_false hd)
 replace h := h.2 hd
 refine gR 18 rfl ?_
 refine gFR 3 rfl (i5 _ (fun _ => rfl) _) rfl rfl ?_
 refine gFR 2 rfl (co _) rfl rfl ?_
 subst h
 refine ab (F' := (mkF 109 0 [(4, .ptr 0 0)])) (H' := ⟨1, [(0, .var 29 [.int .i64 ((Tree.node p0.kind p0.text l3v1 l3v2).kind), .str ((Tree.node p0.kind p0.text l3v1 l3v2).text), .row 1 (List.map V.str ((Tree.node p0.kind p0.text l3v1 l3v2).leads)), .row 4 (kidsV ((Tree.node p0.kind p0.text l3v1 l3v2).kids))])]⟩) [0] [] rfl hK ⟨⟨_, rfl, .rfl⟩, trivial⟩ ⟨⟨_, rfl, ⟨rfl, ah.rfl⟩⟩, trivial⟩ rfl ?_
 exact ac aa (rs := [.cell 4 29]) rfl rfl rfl
theorem fI (m : Nat) (p0 : Tree) (l4v1 : (List (List UInt8))) (i4v2 : Nat) (l4v3 : (List Tree)) (r0 : Tree) (h : ((i4v2 < l4v1.length) → ∃ (s4_1 : (List UInt8)), l4v1[i4v2]? = some s4_1 ∧ ee m p0 (l4v1.set i4v2 []) (i4v2 + 1) l4v3 r0) ∧ ((¬ i4v2 < l4v1.length) → (Tree.node p0.kind p0.text l4v1 l4v3) = r0)) : ee (m + 1) p0 l4v1 i4v2 l4v3 r0 := by
 intro K j1 hK hj1
 obtain ⟨j1, rfl⟩ : ∃ j, j1 = j + 1 := ⟨j1 - 1, by omega⟩
 refine gR 7 rfl ?_
 refine gV 77 (.int .i64 ((l4v1.length : Nat) : Int)) rfl (bc (aV V.str _)) rfl ?_
 refine gLO 3 rfl (aV V.str _) fun hl37 => ?_
 refine gR 3 rfl ?_
 refine gB 78 rfl rfl rfl (fun hd => ?_) (fun hd => ?_)
 replace hd := (cO hd)
 replace h := h.1 hd
 refine gR 9 rfl ?_
 obtain ⟨s4_1, hxs4_1, h⟩ := h
 refine gY (yIO aa rfl rfl rfl rfl (by have := (mapget (f := V.str) hxs4_1); exact (List.getElem?_eq_some_iff.1 this).1)) rfl rfl ?_
 refine gDo (.set 3 (.row 9 1 (List.map V.str (l4v1.set i4v2 [])))) (dSe aa rfl rfl rfl rfl (mapget (f := V.str) hxs4_1) rfl (mP V.str l4v1 i4v2 [])) (okS rfl) rfl rfl rfl ?_
 refine gR 6 rfl ?_
 refine gV 80 (.int .i64 ((i4v2 + 1 : Nat) : Int)) rfl (ar (by have := hl37; omega) (by omega)) rfl ?_
 refine gR 2 rfl ?_
 refine aq ?_
 exact gJ (h K _ hK (by omega)) [0, 1, 2, 3] [] rfl hK ⟨⟨_, rfl, .rfl⟩, ⟨_, rfl, .rfl⟩, ⟨_, rfl, .rfl⟩, ⟨_, rfl, .rfl⟩, trivial⟩ ⟨⟨_, rfl, ⟨rfl, rfl, (an _ V.str (fun _ => rfl) (l4v1.set i4v2 [])).symm⟩⟩, ⟨⟨_, rfl, ⟨rfl, rfl, (eO _ l4v3).symm⟩⟩, ⟨⟨_, rfl, ⟨rfl, ah.rfl⟩⟩, ⟨⟨_, rfl, ⟨rfl, ah.rfl⟩⟩, trivial⟩⟩⟩⟩ rfl
 replace hd := (cI hd)
 replace h := h.2 hd
 refine gR 3 rfl ?_
 refine av ?_
 refine gR 17 rfl ?_
 refine gFR 3 rfl (i5 _ (fun _ => rfl) _) rfl rfl ?_
 refine gFR 2 rfl (co _) rfl rfl ?_
 subst h
 refine ab (F' := (mkF 109 0 [(4, .ptr 0 0)])) (H' := ⟨1, [(0, .var 29 [.int .i64 ((Tree.node p0.kind p0.text l4v1 l4v3).kind), .str ((Tree.node p0.kind p0.text l4v1 l4v3).text), .row 1 (List.map V.str ((Tree.node p0.kind p0.text l4v1 l4v3).leads)), .row 4 (kidsV ((Tree.node p0.kind p0.text l4v1 l4v3).kids))])]⟩) [0] [] rfl hK ⟨⟨_, rfl, .rfl⟩, trivial⟩ ⟨⟨_, rfl, ⟨rfl, ah.rfl⟩⟩, trivial⟩ rfl ?_
 exact ac aa (rs := [.cell 4 29]) rfl rfl rfl
theorem fN (m : Nat) (p0 : Tree) (l5v1 : (List (List UInt8))) (i5v2 : Nat) (l5v3 : (List Tree)) (r0 : Tree) (h : ((i5v2 < l5v1.length) → ∃ (s5_1 : (List UInt8)), l5v1[i5v2]? = some s5_1 ∧ de m p0 (l5v1.set i5v2 []) (i5v2 + 1) l5v3 r0) ∧ ((¬ i5v2 < l5v1.length) → (Tree.node p0.kind p0.text l5v1 l5v3) = r0)) : de (m + 1) p0 l5v1 i5v2 l5v3 r0 := by
 intro K j1 hK hj1
 obtain ⟨j1, rfl⟩ : ∃ j, j1 = j + 1 := ⟨j1 - 1, by omega⟩
 refine gR 7 rfl ?_
 refine gV 98 (.int .i64 ((l5v1.length : Nat) : Int)) rfl (bc (aV V.str _)) rfl ?_
 refine gLO 3 rfl (aV V.str _) fun hl38 => ?_
 refine gR 3 rfl ?_
 refine gB 99 rfl rfl rfl (fun hd => ?_) (fun hd => ?_)
 replace hd := (cO hd)
 replace h := h.1 hd
 refine gR 9 rfl ?_
 obtain ⟨s5_1, hxs5_1, h⟩ := h
 refine gY (yIO aa rfl rfl rfl rfl (by have := (mapget (f := V.str) hxs5_1); exact (List.getElem?_eq_some_iff.1 this).1)) rfl rfl ?_
 refine gDo (.set 3 (.row 9 1 (List.map V.str (l5v1.set i5v2 [])))) (dSe aa rfl rfl rfl rfl (mapget (f := V.str) hxs5_1) rfl (mP V.str l5v1 i5v2 [])) (okS rfl) rfl rfl rfl ?_
 refine gR 6 rfl ?_
 refine gV 101 (.int .i64 ((i5v2 + 1 : Nat) : Int)) rfl (ar (by have := hl38; omega) (by omega)) rfl ?_
 refine gR 2 rfl ?_
 refine aq ?_
 exact gJ (h K _ hK (by omega)) [0, 1, 2, 3] [] rfl hK ⟨⟨_, rfl, .rfl⟩, ⟨_, rfl, .rfl⟩, ⟨_, rfl, .rfl⟩, ⟨_, rfl, .rfl⟩, trivial⟩ ⟨⟨_, rfl, ⟨rfl, rfl, (an _ V.str (fun _ => rfl) (l5v1.set i5v2 [])).symm⟩⟩, ⟨⟨_, rfl, ⟨rfl, rfl, (eO _ l5v3).symm⟩⟩, ⟨⟨_, rfl, ⟨rfl, ah.rfl⟩⟩, ⟨⟨_, rfl, ⟨rfl, ah.rfl⟩⟩, trivial⟩⟩⟩⟩ rfl
 replace hd := (cI hd)
 replace h := h.2 hd
 refine gR 3 rfl ?_
 refine av ?_
 refine gR 17 rfl ?_
 refine gFR 3 rfl (i5 _ (fun _ => rfl) _) rfl rfl ?_
 refine gFR 2 rfl (co _) rfl rfl ?_
 subst h
 refine ab (F' := (mkF 109 0 [(4, .ptr 0 0)])) (H' := ⟨1, [(0, .var 29 [.int .i64 ((Tree.node p0.kind p0.text l5v1 l5v3).kind), .str ((Tree.node p0.kind p0.text l5v1 l5v3).text), .row 1 (List.map V.str ((Tree.node p0.kind p0.text l5v1 l5v3).leads)), .row 4 (kidsV ((Tree.node p0.kind p0.text l5v1 l5v3).kids))])]⟩) [0] [] rfl hK ⟨⟨_, rfl, .rfl⟩, trivial⟩ ⟨⟨_, rfl, ⟨rfl, ah.rfl⟩⟩, trivial⟩ rfl ?_
 exact ac aa (rs := [.cell 4 29]) rfl rfl rfl
theorem jv (m : Nat) (p0 : Tree) (r0 : Tree) (h : ∃ (b0_1 : Bool), cj p0 b0_1 ∧ ((b0_1 = false) → (Tree.node 0 [] [] []) = r0) ∧ ((b0_1 = true) → ∃ (t0_2 : Tree), eC p0 [] t0_2 ∧ t0_2 = r0)) : gw p0 r0 := by
 refine ⟨rfl, rfl, ?_⟩
 refine ak 9 [] Tryz.func43 rfl rfl rfl (aA rfl) fun K hK => ?_
 refine gR 3 rfl ?_
 refine gFP 0 rfl rfl rfl rfl ?_
 refine gR 7 rfl ?_
 obtain ⟨b0_1, hs3, h⟩ := h
 refine gC0 hs3 (by kernel_rfl) rfl rfl .rfl rfl ?_
 refine gR 3 rfl ?_
 refine gB 5 rfl rfl rfl (fun hd => ?_) (fun hd => ?_)
 replace hd := (bM hd)
 replace h := h.1 hd
 refine gR 9 rfl ?_
 subst h
 refine ab (F' := (mkF 9 0 [(2, .ptr 0 0)])) (H' := ⟨1, [(0, .var 29 [.int .i64 ((Tree.node 0 [] [] []).kind), .str ((Tree.node 0 [] [] []).text), .row 1 (List.map V.str ((Tree.node 0 [] [] []).leads)), .row 4 (kidsV ((Tree.node 0 [] [] []).kids))])]⟩) [1] [] rfl hK ⟨⟨_, rfl, .rfl⟩, trivial⟩ ⟨⟨_, rfl, ⟨rfl, (.cons .rfl (.cons .rfl (.cons (.nil 1) (.cons (.nil 4) .nil))))⟩⟩, trivial⟩ rfl ?_
 exact ac aa (rs := [.cell 2 29]) rfl rfl rfl
 replace hd := (bL hd)
 replace h := h.2 hd
 refine gR 6 rfl ?_
 obtain ⟨t0_2, hs4, h⟩ := h
 refine gC0 hs4 (by kernel_rfl) rfl rfl .rfl rfl ?_
 refine gR 4 rfl ?_
 subst h
 refine ab (F' := (mkF 9 0 [(2, .ptr 0 0)])) (H' := ⟨1, [(0, .var 29 [.int .i64 t0_2.kind, .str t0_2.text, .row 1 (List.map V.str t0_2.leads), .row 4 (kidsV t0_2.kids)])]⟩) [1] [] rfl hK ⟨⟨_, rfl, .rfl⟩, trivial⟩ ⟨⟨_, rfl, ⟨rfl, ah.rfl⟩⟩, trivial⟩ rfl ?_
 exact ac aa (rs := [.cell 2 29]) rfl rfl rfl
theorem fa (m : Nat) (p0 : Tree) (r0 : Bool) (h : ∃ (b0_1 : Bool), dW p0 b0_1 ∧ ((b0_1 = true) → ∃ (b0_2 : Bool), eY p0 b0_2 ∧ ((b0_2 = true) → ∃ (n0_3 : Int), fE p0 n0_3 ∧ ((n0_3 ≤ 40) → ∃ (s0_4 : (List UInt8)), ik p0 s0_4 ∧ decide (((s0_4.length : Nat) : Int) ≤ 4096) = r0) ∧ ((¬ n0_3 ≤ 40) → false = r0)) ∧ ((b0_2 = false) → false = r0)) ∧ ((b0_1 = false) → false = r0)) : d7 p0 r0 := by
 refine ⟨rfl, rfl, ?_⟩
 refine ak 20 [] Tryz.func23 rfl rfl rfl (aA rfl) fun K hK => ?_
 refine gR 3 rfl ?_
 refine gFP 0 rfl rfl rfl rfl ?_
 refine gR 6 rfl ?_
 obtain ⟨b0_1, hs5, h⟩ := h
 refine gC0 hs5 (by kernel_rfl) rfl rfl .rfl rfl ?_
 refine gR 1 rfl ?_
 refine gB 5 rfl rfl rfl (fun hd => ?_) (fun hd => ?_)
 refine gT 4 rfl hd rfl ?_
 replace h := h.1 hd
 refine gR 1 rfl ?_
 obtain ⟨b0_2, hs6, h⟩ := h
 refine gC0 hs6 (by kernel_rfl) rfl rfl .rfl rfl ?_
 refine gR 2 rfl ?_
 refine gB 9 rfl rfl rfl (fun hd => ?_) (fun hd => ?_)
 refine gT 8 rfl hd rfl ?_
 replace h := h.1 hd
 refine gR 1 rfl ?_
 obtain ⟨n0_3, hs7, h⟩ := h
 refine gC0 hs7 (by kernel_rfl) rfl rfl .rfl rfl ?_
 refine gR 3 rfl ?_
 refine gB 14 rfl rfl rfl (fun hd => ?_) (fun hd => ?_)
 refine gT 13 rfl hd rfl ?_
 replace hd := (of_decide_eq_true hd)
 replace h := h.1 hd
 refine gR 1 rfl ?_
 obtain ⟨s0_4, hs8, h⟩ := h
 refine gC0 hs8 (by kernel_rfl) rfl rfl .rfl rfl ?_
 refine gR 7 rfl ?_
 subst h
 refine ab (F' := (mkF 20 0 [(2, .bool (decide (((s0_4.length : Nat) : Int) ≤ 4096)))])) (H' := ⟨0, []⟩) [] [] rfl hK ⟨⟨_, rfl, .rfl⟩, trivial⟩ trivial rfl ?_
 exact ac aa (rs := [.tmp 2]) rfl rfl rfl
 refine gF 13 rfl hd rfl ?_
 replace hd := (of_decide_eq_false hd)
 replace h := h.2 hd
 refine gR 9 rfl ?_
 subst h
 refine ab (F' := (mkF 20 0 [(2, .bool false)])) (H' := ⟨0, []⟩) [] [] rfl hK ⟨⟨_, rfl, .rfl⟩, trivial⟩ trivial rfl ?_
 exact ac aa (rs := [.tmp 2]) rfl rfl rfl
 refine gF 8 rfl hd rfl ?_
 replace h := h.2 hd
 refine gR 14 rfl ?_
 subst h
 refine ab (F' := (mkF 20 0 [(2, .bool false)])) (H' := ⟨0, []⟩) [] [] rfl hK ⟨⟨_, rfl, .rfl⟩, trivial⟩ trivial rfl ?_
 exact ac aa (rs := [.tmp 2]) rfl rfl rfl
 refine gF 4 rfl hd rfl ?_
 replace h := h.2 hd
 refine gR 18 rfl ?_
 subst h
 refine ab (F' := (mkF 20 0 [(2, .bool false)])) (H' := ⟨0, []⟩) [] [] rfl hK ⟨⟨_, rfl, .rfl⟩, trivial⟩ trivial rfl ?_
 exact ac aa (rs := [.tmp 2]) rfl rfl rfl
theorem iO (m : Nat) (p0 : Tree) (r0 : Bool) (h : ∃ (b0_1 : Bool), cj p0 b0_1 ∧ ((b0_1 = true) → ∃ (b0_2 : Bool), fw p0 b0_2 ∧ b0_2 = r0) ∧ ((b0_1 = false) → false = r0)) : dW p0 r0 := by
 refine ⟨rfl, rfl, ?_⟩
 refine ak 9 [] Tryz.func45 rfl rfl rfl (aA rfl) fun K hK => ?_
 refine gR 3 rfl ?_
 refine gFP 0 rfl rfl rfl rfl ?_
 refine gR 6 rfl ?_
 obtain ⟨b0_1, hs3, h⟩ := h
 refine gC0 hs3 (by kernel_rfl) rfl rfl .rfl rfl ?_
 refine gR 1 rfl ?_
 refine gB 5 rfl rfl rfl (fun hd => ?_) (fun hd => ?_)
 refine gT 4 rfl hd rfl ?_
 replace h := h.1 hd
 refine gR 1 rfl ?_
 obtain ⟨b0_2, hs4, h⟩ := h
 refine gC0 hs4 (by kernel_rfl) rfl rfl .rfl rfl ?_
 refine gR 5 rfl ?_
 subst h
 refine ab (F' := (mkF 9 0 [(2, .bool b0_2)])) (H' := ⟨0, []⟩) [] [] rfl hK ⟨⟨_, rfl, .rfl⟩, trivial⟩ trivial rfl ?_
 exact ac aa (rs := [.tmp 2]) rfl rfl rfl
 refine gF 4 rfl hd rfl ?_
 replace h := h.2 hd
 refine gR 7 rfl ?_
 subst h
 refine ab (F' := (mkF 9 0 [(2, .bool false)])) (H' := ⟨0, []⟩) [] [] rfl hK ⟨⟨_, rfl, .rfl⟩, trivial⟩ trivial rfl ?_
 exact ac aa (rs := [.tmp 2]) rfl rfl rfl
def cJ (m : Nat) (p0 : Tree) (i1v1 : Nat) (r0 : Bool) : Prop := ∀ (K : Ctx) (j1 : Nat), au K [] → m ≤ j1 → Go Tryz.prog K (bodyPost Tryz.prog Tryz.f75 (SP K (fun u _ => u = .bool r0))) (.code (cL (cK (cB (cA (cB (cB (ae Tryz.f75)))))))) [.loop (cL (cK (cB (cA (cB (cB (ae Tryz.f75))))))) j1, .blk 0, .seq (cB (cB (cB (ae Tryz.f75))))] 50 (mkF 50 0 [(1, .box (ai p0) 0), (3, .int .i64 ((i1v1 : Nat) : Int))]) ⟨0, []⟩
def eU (m : Nat) (p0 : Tree) (i2v1 : Nat) (r0 : Bool) : Prop := ∀ (K : Ctx) (j1 : Nat), au K [] → m ≤ j1 → Go Tryz.prog K (bodyPost Tryz.prog Tryz.f75 (SP K (fun u _ => u = .bool r0))) (.code (cL (cK (cB (cA (cB (cB (cB (ae Tryz.f75))))))))) [.loop (cL (cK (cB (cA (cB (cB (cB (ae Tryz.f75)))))))) j1, .blk 2, .seq (cB (cB (cB (cB (ae Tryz.f75)))))] 50 (mkF 50 0 [(1, .box (ai p0) 0), (4, .int .i64 ((i2v1 : Nat) : Int))]) ⟨0, []⟩
theorem k8 (m : Nat) (p0 : Tree) (r0 : Bool) (h : ∃ (n0_1 : Int), d6 p0.kind ((p0.kids.length : Nat) : Int) n0_1 ∧ ((((p0.leads.length : Nat) : Int) ≠ n0_1) → false = r0) ∧ ((((p0.leads.length : Nat) : Int) = n0_1) → cJ m p0 0 r0)) : fw p0 r0 := by
 refine ⟨rfl, rfl, ?_⟩
 refine ak 50 [] Tryz.func75 rfl rfl rfl (aA rfl) fun K hK => ?_
 refine gR 3 rfl ?_
 refine gFP 0 rfl rfl rfl rfl ?_
 refine gR 5 rfl ?_
 refine gDs [] 10 10 rfl (by kernel_rfl) (by kernel_rfl) ?_
 refine gDr [(0, 2), (1, 2), (2, 2)] (by kernel_rfl) rfl rfl ?_
 refine gV 7 (.int .i64 ((p0.leads.length : Nat) : Int)) rfl (bc (aV V.str _)) rfl ?_
 refine gLB 6 rfl (aV V.str _) fun hl35 => ?_
 refine gDr [(3, 2), (4, 2), (5, 0), (6, 0), (7, 0)] (by kernel_rfl) rfl rfl ?_
 refine gV 12 (.int .i64 ((p0.kids.length : Nat) : Int)) rfl (bc (aD _)) rfl ?_
 refine gLB 11 rfl (aD _) fun hl36 => ?_
 obtain ⟨n0_1, hs37, h⟩ := h
 refine br 8 hs37 (by kernel_rfl) rfl (by kernel_rfl) rfl rfl .rfl rfl rfl ?_
 refine gDr [(9, 0)] (by kernel_rfl) rfl rfl ?_
 refine gDe (by kernel_rfl) ?_
 refine gR 1 rfl ?_
 refine gB 14 rfl rfl rfl (fun hd => ?_) (fun hd => ?_)
 replace hd := (fe hd)
 replace h := h.1 hd
 refine gR 8 rfl ?_
 subst h
 refine ab (F' := (mkF 50 0 [(2, .bool false)])) (H' := ⟨0, []⟩) [] [] rfl hK ⟨⟨_, rfl, .rfl⟩, trivial⟩ trivial rfl ?_
 exact ac aa (rs := [.tmp 2]) rfl rfl rfl
 replace hd := (dA hd)
 replace h := h.2 hd
 refine gR 10 rfl ?_
 refine go_loop m ?_
 exact gJ (h K _ hK (by omega)) [] [] rfl hK ⟨⟨_, rfl, .rfl⟩, ⟨_, rfl, .rfl⟩, trivial⟩ trivial rfl
theorem dq (m : Nat) (p0 : Tree) (i1v1 : Nat) (r0 : Bool) (h : ((i1v1 < p0.leads.length) → ∃ (s1_1 : (List UInt8)), p0.leads[i1v1]? = some s1_1 ∧ ((p0.kind = 1) → ∃ (b1_2 : Bool), hV s1_1 (((i1v1 : Nat) : Int) == 2) b1_2 ∧ ((b1_2 = false) → false = r0) ∧ ((b1_2 = true) → cJ m p0 (i1v1 + 1) r0)) ∧ ((p0.kind ≠ 1) → ∃ (b1_3 : Bool), hV s1_1 false b1_3 ∧ ((b1_3 = false) → false = r0) ∧ ((b1_3 = true) → cJ m p0 (i1v1 + 1) r0))) ∧ ((¬ i1v1 < p0.leads.length) → eU m p0 0 r0)) : cJ (m + 1) p0 i1v1 r0 := by
 intro K j1 hK hj1
 obtain ⟨j1, rfl⟩ : ∃ j, j1 = j + 1 := ⟨j1 - 1, by omega⟩
 refine gR 7 rfl ?_
 refine gV 18 (.int .i64 ((p0.leads.length : Nat) : Int)) rfl (bc (aV V.str _)) rfl ?_
 refine gLB 17 rfl (aV V.str _) fun hl38 => ?_
 refine gR 3 rfl ?_
 refine gB 19 rfl rfl rfl (fun hd => ?_) (fun hd => ?_)
 replace hd := (cO hd)
 replace h := h.1 hd
 refine gR 6 rfl ?_
 refine gDs [] 14 14 rfl (by kernel_rfl) (by kernel_rfl) ?_
 refine gDr [(0, 2), (1, 2), (2, 2)] (by kernel_rfl) rfl rfl ?_
 obtain ⟨s1_1, hxs1_1, h⟩ := h
 refine gYd 3 rfl (by kernel_rfl) (aK (mapget (f := V.str) hxs1_1) aa rfl rfl rfl rfl) rfl rfl ?_
 refine gDr [(4, 2), (5, 0), (6, 0), (7, 0), (8, 0)] (by kernel_rfl) rfl rfl ?_
 refine gB 30 rfl rfl rfl (fun hd => ?_) (fun hd => ?_)
 refine gT 29 rfl hd rfl ?_
 replace hd := (eq_of_beq hd)
 replace h := h.1 hd
 refine gDr [(9, 0), (10, 0), (11, 0)] (by kernel_rfl) rfl rfl ?_
 obtain ⟨b1_2, hs39, h⟩ := h
 refine br 12 hs39 (by kernel_rfl) rfl (by kernel_rfl) rfl rfl .rfl rfl rfl ?_
 refine gDr [(13, 0)] (by kernel_rfl) rfl rfl ?_
 refine gDe (by kernel_rfl) ?_
 refine gR 1 rfl ?_
 refine gB 35 rfl rfl rfl (fun hd => ?_) (fun hd => ?_)
 replace hd := (bM hd)
 replace h := h.1 hd
 refine gR 9 rfl ?_
 refine aM ?_
 refine gR 2 rfl ?_
 subst h
 refine ab (F' := (mkF 50 0 [(2, .bool false)])) (H' := ⟨0, []⟩) [] [] rfl hK ⟨⟨_, rfl, .rfl⟩, trivial⟩ trivial rfl ?_
 exact ac aa (rs := [.tmp 2]) rfl rfl rfl
 replace hd := (bL hd)
 replace h := h.2 hd
 refine gR 7 rfl ?_
 refine gV 21 (.int .i64 ((i1v1 + 1 : Nat) : Int)) rfl (ar (by have := hl38; omega) (by omega)) rfl ?_
 refine gR 2 rfl ?_
 refine aq ?_
 exact gJ (h K _ hK (by omega)) [] [] rfl hK ⟨⟨_, rfl, .rfl⟩, ⟨_, rfl, .rfl⟩, trivial⟩ trivial rfl
 refine gF 29 rfl hd rfl ?_
 replace hd := (ne_of_beq_false hd)
 replace h := h.2 hd
 refine gDr [(9, 0), (10, 0), (11, 0)] (by kernel_rfl) rfl rfl ?_
 obtain ⟨b1_3, hs40, h⟩ := h
 refine br 12 hs40 (by kernel_rfl) rfl (by kernel_rfl) rfl rfl .rfl rfl rfl ?_
 refine gDr [(13, 0)] (by kernel_rfl) rfl rfl ?_
 refine gDe (by kernel_rfl) ?_
 refine gR 1 rfl ?_
 refine gB 35 rfl rfl rfl (fun hd => ?_) (fun hd => ?_)
 replace hd := (bM hd)
 replace h := h.1 hd
 refine gR 9 rfl ?_
 refine aM ?_
 refine gR 2 rfl ?_
 subst h
 refine ab (F' := (mkF 50 0 [(2, .bool false)])) (H' := ⟨0, []⟩) [] [] rfl hK ⟨⟨_, rfl, .rfl⟩, trivial⟩ trivial rfl ?_
 exact ac aa (rs := [.tmp 2]) rfl rfl rfl
 replace hd := (bL hd)
 replace h := h.2 hd
 refine gR 7 rfl ?_
 refine gV 21 (.int .i64 ((i1v1 + 1 : Nat) : Int)) rfl (ar (by have := hl38; omega) (by omega)) rfl ?_
 refine gR 2 rfl ?_
 refine aq ?_
 exact gJ (h K _ hK (by omega)) [] [] rfl hK ⟨⟨_, rfl, .rfl⟩, ⟨_, rfl, .rfl⟩, trivial⟩ trivial rfl
 replace hd := (cI hd)
 replace h := h.2 hd
 refine gR 3 rfl ?_
 refine av ?_
 refine gR 9 rfl ?_
 refine go_loop m ?_
 exact gJ (h K _ hK (by omega)) [] [] rfl hK ⟨⟨_, rfl, .rfl⟩, ⟨_, rfl, .rfl⟩, trivial⟩ trivial rfl
theorem eJ (m : Nat) (p0 : Tree) (i2v1 : Nat) (r0 : Bool) (h : ((i2v1 < p0.kids.length) → ∃ (t2_1 : Tree), p0.kids[i2v1]? = some t2_1 ∧ ∃ (b2_2 : Bool), fw t2_1 b2_2 ∧ ((b2_2 = false) → false = r0) ∧ ((b2_2 = true) → eU m p0 (i2v1 + 1) r0)) ∧ ((¬ i2v1 < p0.kids.length) → true = r0)) : eU (m + 1) p0 i2v1 r0 := by
 intro K j1 hK hj1
 obtain ⟨j1, rfl⟩ : ∃ j, j1 = j + 1 := ⟨j1 - 1, by omega⟩
 refine gR 7 rfl ?_
 refine gV 39 (.int .i64 ((p0.kids.length : Nat) : Int)) rfl (bc (aD _)) rfl ?_
 refine gLB 38 rfl (aD _) fun hl41 => ?_
 refine gR 3 rfl ?_
 refine gB 40 rfl rfl rfl (fun hd => ?_) (fun hd => ?_)
 replace hd := (cO hd)
 replace h := h.1 hd
 refine gR 10 rfl ?_
 obtain ⟨t2_1, hxt2_1, h⟩ := h
 refine gY (aK (am hxt2_1) aa rfl rfl rfl rfl) rfl rfl ?_
 refine gR 1 rfl ?_
 obtain ⟨b2_2, hs42, h⟩ := h
 refine gC0 hs42 (by kernel_rfl) rfl rfl .rfl rfl ?_
 refine gR 3 rfl ?_
 refine gB 49 rfl rfl rfl (fun hd => ?_) (fun hd => ?_)
 replace hd := (bM hd)
 replace h := h.1 hd
 refine gR 9 rfl ?_
 refine aM ?_
 refine gR 2 rfl ?_
 subst h
 refine ab (F' := (mkF 50 0 [(2, .bool false)])) (H' := ⟨0, []⟩) [] [] rfl hK ⟨⟨_, rfl, .rfl⟩, trivial⟩ trivial rfl ?_
 exact ac aa (rs := [.tmp 2]) rfl rfl rfl
 replace hd := (bL hd)
 replace h := h.2 hd
 refine gR 7 rfl ?_
 refine gV 42 (.int .i64 ((i2v1 + 1 : Nat) : Int)) rfl (ar (by have := hl41; omega) (by omega)) rfl ?_
 refine gR 2 rfl ?_
 refine aq ?_
 exact gJ (h K _ hK (by omega)) [] [] rfl hK ⟨⟨_, rfl, .rfl⟩, ⟨_, rfl, .rfl⟩, trivial⟩ trivial rfl
 replace hd := (cI hd)
 replace h := h.2 hd
 refine gR 3 rfl ?_
 refine av ?_
 refine gR 8 rfl ?_
 subst h
 refine ab (F' := (mkF 50 0 [(2, .bool true)])) (H' := ⟨0, []⟩) [] [] rfl hK ⟨⟨_, rfl, .rfl⟩, trivial⟩ trivial rfl ?_
 exact ac aa (rs := [.tmp 2]) rfl rfl rfl
def az (m : Nat) (p0 : Tree) (i1v1 : Nat) (r0 : Bool) : Prop := ∀ (K : Ctx) (j1 : Nat), au K [] → m ≤ j1 → Go Tryz.prog K (bodyPost Tryz.prog Tryz.f46 (SP K (fun u _ => u = .bool r0))) (.code (cL (cK (cB (cA (cB (cB (cB (ae Tryz.f46))))))))) [.loop (cL (cK (cB (cA (cB (cB (cB (ae Tryz.f46)))))))) j1, .blk 0, .seq (cB (cB (cB (cB (ae Tryz.f46)))))] 54 (mkF 54 0 [(1, .box (ai p0) 0), (3, .int .i64 ((p0.kids.length : Nat) : Int)), (4, .int .i64 ((i1v1 : Nat) : Int))]) ⟨0, []⟩
theorem jY (m : Nat) (p0 : Tree) (r0 : Bool) (h : ((p0.kind = 1) → ((40 < ((p0.kids.length : Nat) : Int)) → false = r0) ∧ ((¬ 40 < ((p0.kids.length : Nat) : Int)) → ((p0.kind = 2) → ((10 < ((p0.kids.length : Nat) : Int)) → false = r0) ∧ ((¬ 10 < ((p0.kids.length : Nat) : Int)) → ((p0.kind = 16) → ((8 < ((p0.kids.length : Nat) : Int)) → false = r0) ∧ ((¬ 8 < ((p0.kids.length : Nat) : Int)) → ((p0.kind = 18) → ((16 < ((p0.kids.length : Nat) : Int)) → false = r0) ∧ ((¬ 16 < ((p0.kids.length : Nat) : Int)) → az m p0 0 r0)) ∧ ((p0.kind ≠ 18) → az m p0 0 r0))) ∧ ((p0.kind ≠ 16) → ((p0.kind = 18) → ((16 < ((p0.kids.length : Nat) : Int)) → false = r0) ∧ ((¬ 16 < ((p0.kids.length : Nat) : Int)) → az m p0 0 r0)) ∧ ((p0.kind ≠ 18) → az m p0 0 r0)))) ∧ ((p0.kind ≠ 2) → ((p0.kind = 16) → ((8 < ((p0.kids.length : Nat) : Int)) → false = r0) ∧ ((¬ 8 < ((p0.kids.length : Nat) : Int)) → ((p0.kind = 18) → ((16 < ((p0.kids.length : Nat) : Int)) → false = r0) ∧ ((¬ 16 < ((p0.kids.length : Nat) : Int)) → az m p0 0 r0)) ∧ ((p0.kind ≠ 18) → az m p0 0 r0))) ∧ ((p0.kind ≠ 16) → ((p0.kind = 18) → ((16 < ((p0.kids.length : Nat) : Int)) → false = r0) ∧ ((¬ 16 < ((p0.kids.length : Nat) : Int)) → az m p0 0 r0)) ∧ ((p0.kind ≠ 18) → az m p0 0 r0))))) ∧ ((p0.kind ≠ 1) → ((p0.kind = 2) → ((10 < ((p0.kids.length : Nat) : Int)) → false = r0) ∧ ((¬ 10 < ((p0.kids.length : Nat) : Int)) → ((p0.kind = 16) → ((8 < ((p0.kids.length : Nat) : Int)) → false = r0) ∧ ((¬ 8 < ((p0.kids.length : Nat) : Int)) → ((p0.kind = 18) → ((16 < ((p0.kids.length : Nat) : Int)) → false = r0) ∧ ((¬ 16 < ((p0.kids.length : Nat) : Int)) → az m p0 0 r0)) ∧ ((p0.kind ≠ 18) → az m p0 0 r0))) ∧ ((p0.kind ≠ 16) → ((p0.kind = 18) → ((16 < ((p0.kids.length : Nat) : Int)) → false = r0) ∧ ((¬ 16 < ((p0.kids.length : Nat) : Int)) → az m p0 0 r0)) ∧ ((p0.kind ≠ 18) → az m p0 0 r0)))) ∧ ((p0.kind ≠ 2) → ((p0.kind = 16) → ((8 < ((p0.kids.length : Nat) : Int)) → false = r0) ∧ ((¬ 8 < ((p0.kids.length : Nat) : Int)) → ((p0.kind = 18) → ((16 < ((p0.kids.length : Nat) : Int)) → false = r0) ∧ ((¬ 16 < ((p0.kids.length : Nat) : Int)) → az m p0 0 r0)) ∧ ((p0.kind ≠ 18) → az m p0 0 r0))) ∧ ((p0.kind ≠ 16) → ((p0.kind = 18) → ((16 < ((p0.kids.length : Nat) : Int)) → false = r0) ∧ ((¬ 16 < ((p0.kids.length : Nat) : Int)) → az m p0 0 r0)) ∧ ((p0.kind ≠ 18) → az m p0 0 r0))))) : eY p0 r0 := by
 refine ⟨rfl, rfl, ?_⟩
 refine ak 54 [] Tryz.func46 rfl rfl rfl (aA rfl) fun K hK => ?_
 refine gR 3 rfl ?_
 refine gFP 0 rfl rfl rfl rfl ?_
 refine gR 8 rfl ?_
 refine gV 7 (.int .i64 ((p0.kids.length : Nat) : Int)) rfl (bc (aD _)) rfl ?_
 refine gLB 6 rfl (aD _) fun hl5 => ?_
 refine gR 10 rfl ?_
 refine gB 11 rfl rfl rfl (fun hd => ?_) (fun hd => ?_)
 refine gT 10 rfl hd rfl ?_
 replace hd := (eq_of_beq hd)
 replace h := h.1 hd
 refine gR 4 rfl ?_
 refine gB 15 rfl rfl rfl (fun hd => ?_) (fun hd => ?_)
 refine gT 14 rfl hd rfl ?_
 replace hd := (of_decide_eq_true hd)
 replace h := h.1 hd
 refine gR 36 rfl ?_
 subst h
 refine ab (F' := (mkF 54 0 [(2, .bool false)])) (H' := ⟨0, []⟩) [] [] rfl hK ⟨⟨_, rfl, .rfl⟩, trivial⟩ trivial rfl ?_
 exact ac aa (rs := [.tmp 2]) rfl rfl rfl
 refine gF 14 rfl hd rfl ?_
 replace hd := (of_decide_eq_false hd)
 replace h := h.2 hd
 refine gR 4 rfl ?_
 refine gB 19 rfl rfl rfl (fun hd => ?_) (fun hd => ?_)
 refine gT 18 rfl hd rfl ?_
 replace hd := (eq_of_beq hd)
 replace h := h.1 hd
 refine gR 5 rfl ?_
 refine gB 24 rfl rfl rfl (fun hd => ?_) (fun hd => ?_)
 refine gT 23 rfl hd rfl ?_
 replace hd := (of_decide_eq_true hd)
 replace h := h.1 hd
 refine gR 27 rfl ?_
 subst h
 refine ab (F' := (mkF 54 0 [(2, .bool false)])) (H' := ⟨0, []⟩) [] [] rfl hK ⟨⟨_, rfl, .rfl⟩, trivial⟩ trivial rfl ?_
 exact ac aa (rs := [.tmp 2]) rfl rfl rfl
 refine gF 23 rfl hd rfl ?_
 replace hd := (of_decide_eq_false hd)
 replace h := h.2 hd
 refine gR 4 rfl ?_
 refine gB 28 rfl rfl rfl (fun hd => ?_) (fun hd => ?_)
 refine gT 27 rfl hd rfl ?_
 replace hd := (eq_of_beq hd)
 replace h := h.1 hd
 refine gR 5 rfl ?_
 refine gB 33 rfl rfl rfl (fun hd => ?_) (fun hd => ?_)
 refine gT 32 rfl hd rfl ?_
 replace hd := (of_decide_eq_true hd)
 replace h := h.1 hd
 refine gR 18 rfl ?_
 subst h
 refine ab (F' := (mkF 54 0 [(2, .bool false)])) (H' := ⟨0, []⟩) [] [] rfl hK ⟨⟨_, rfl, .rfl⟩, trivial⟩ trivial rfl ?_
 exact ac aa (rs := [.tmp 2]) rfl rfl rfl
 refine gF 32 rfl hd rfl ?_
 replace hd := (of_decide_eq_false hd)
 replace h := h.2 hd
 refine gR 4 rfl ?_
 refine gB 37 rfl rfl rfl (fun hd => ?_) (fun hd => ?_)
 refine gT 36 rfl hd rfl ?_
 replace hd := (eq_of_beq hd)
 replace h := h.1 hd
 refine gR 6 rfl ?_
 refine gB 41 rfl rfl rfl (fun hd => ?_) (fun hd => ?_)
 replace hd := (of_decide_eq_true hd)
 replace h := h.1 hd
 refine gR 8 rfl ?_
 subst h
 refine ab (F' := (mkF 54 0 [(2, .bool false)])) (H' := ⟨0, []⟩) [] [] rfl hK ⟨⟨_, rfl, .rfl⟩, trivial⟩ trivial rfl ?_
 exact ac aa (rs := [.tmp 2]) rfl rfl rfl
 replace hd := (of_decide_eq_false hd)
 replace h := h.2 hd
 refine gR 10 rfl ?_
 refine go_loop m ?_
 exact gJ (h K _ hK (by omega)) [] [] rfl hK ⟨⟨_, rfl, .rfl⟩, ⟨_, rfl, .rfl⟩, ⟨_, rfl, .rfl⟩, trivial⟩ trivial rfl
 refine gF 36 rfl hd rfl ?_
 replace hd := (ne_of_beq_false hd)
 replace h := h.2 hd
 refine gR 16 rfl ?_
 refine go_loop m ?_
 exact gJ (h K _ hK (by omega)) [] [] rfl hK ⟨⟨_, rfl, .rfl⟩, ⟨_, rfl, .rfl⟩, ⟨_, rfl, .rfl⟩, trivial⟩ trivial rfl
 refine gF 27 rfl hd rfl ?_
 replace hd := (ne_of_beq_false hd)
 replace h := h.2 hd
 refine gR 9 rfl ?_
 refine gB 37 rfl rfl rfl (fun hd => ?_) (fun hd => ?_)
 refine gT 36 rfl hd rfl ?_
 replace hd := (eq_of_beq hd)
 replace h := h.1 hd
 refine gR 6 rfl ?_
 refine gB 41 rfl rfl rfl (fun hd => ?_) (fun hd => ?_)
 replace hd := (of_decide_eq_true hd)
 replace h := h.1 hd
 refine gR 8 rfl ?_
 subst h
 refine ab (F' := (mkF 54 0 [(2, .bool false)])) (H' := ⟨0, []⟩) [] [] rfl hK ⟨⟨_, rfl, .rfl⟩, trivial⟩ trivial rfl ?_
 exact ac aa (rs := [.tmp 2]) rfl rfl rfl
 replace hd := (of_decide_eq_false hd)
 replace h := h.2 hd
 refine gR 10 rfl ?_
 refine go_loop m ?_
 exact gJ (h K _ hK (by omega)) [] [] rfl hK ⟨⟨_, rfl, .rfl⟩, ⟨_, rfl, .rfl⟩, ⟨_, rfl, .rfl⟩, trivial⟩ trivial rfl
 refine gF 36 rfl hd rfl ?_
 replace hd := (ne_of_beq_false hd)
 replace h := h.2 hd
 refine gR 16 rfl ?_
 refine go_loop m ?_
 exact gJ (h K _ hK (by omega)) [] [] rfl hK ⟨⟨_, rfl, .rfl⟩, ⟨_, rfl, .rfl⟩, ⟨_, rfl, .rfl⟩, trivial⟩ trivial rfl
 refine gF 18 rfl hd rfl ?_
 replace hd := (ne_of_beq_false hd)
 replace h := h.2 hd
 refine gR 9 rfl ?_
 refine gB 28 rfl rfl rfl (fun hd => ?_) (fun hd => ?_)
 refine gT 27 rfl hd rfl ?_
 replace hd := (eq_of_beq hd)
 replace h := h.1 hd
 refine gR 5 rfl ?_
 refine gB 33 rfl rfl rfl (fun hd => ?_) (fun hd => ?_)
 refine gT 32 rfl hd rfl ?_
 replace hd := (of_decide_eq_true hd)
 replace h := h.1 hd
 refine gR 18 rfl ?_
 subst h
 refine ab (F' := (mkF 54 0 [(2, .bool false)])) (H' := ⟨0, []⟩) [] [] rfl hK ⟨⟨_, rfl, .rfl⟩, trivial⟩ trivial rfl ?_
 exact ac aa (rs := [.tmp 2]) rfl rfl rfl
 refine gF 32 rfl hd rfl ?_
 replace hd := (of_decide_eq_false hd)
 replace h := h.2 hd
 refine gR 4 rfl ?_
 refine gB 37 rfl rfl rfl (fun hd => ?_) (fun hd => ?_)
 refine gT 36 rfl hd rfl ?_
 replace hd := (eq_of_beq hd)
 replace h := h.1 hd
 refine gR 6 rfl ?_
 refine gB 41 rfl rfl rfl (fun hd => ?_) (fun hd => ?_)
 replace hd := (of_decide_eq_true hd)
 replace h := h.1 hd
 refine gR 8 rfl ?_
 subst h
 refine ab (F' := (mkF 54 0 [(2, .bool false)])) (H' := ⟨0, []⟩) [] [] rfl hK ⟨⟨_, rfl, .rfl⟩, trivial⟩ trivial rfl ?_
 exact ac aa (rs := [.tmp 2]) rfl rfl rfl
 replace hd := (of_decide_eq_false hd)
 replace h := h.2 hd
 refine gR 10 rfl ?_
 refine go_loop m ?_
 exact gJ (h K _ hK (by omega)) [] [] rfl hK ⟨⟨_, rfl, .rfl⟩, ⟨_, rfl, .rfl⟩, ⟨_, rfl, .rfl⟩, trivial⟩ trivial rfl
 refine gF 36 rfl hd rfl ?_
 replace hd := (ne_of_beq_false hd)
 replace h := h.2 hd
 refine gR 16 rfl ?_
 refine go_loop m ?_
 exact gJ (h K _ hK (by omega)) [] [] rfl hK ⟨⟨_, rfl, .rfl⟩, ⟨_, rfl, .rfl⟩, ⟨_, rfl, .rfl⟩, trivial⟩ trivial rfl
 refine gF 27 rfl hd rfl ?_
 replace hd := (ne_of_beq_false hd)
 replace h := h.2 hd
 refine gR 9 rfl ?_
 refine gB 37 rfl rfl rfl (fun hd => ?_) (fun hd => ?_)
 refine gT 36 rfl hd rfl ?_
 replace hd := (eq_of_beq hd)
 replace h := h.1 hd
 refine gR 6 rfl ?_
 refine gB 41 rfl rfl rfl (fun hd => ?_) (fun hd => ?_)
 replace hd := (of_decide_eq_true hd)
 replace h := h.1 hd
 refine gR 8 rfl ?_
 subst h
 refine ab (F' := (mkF 54 0 [(2, .bool false)])) (H' := ⟨0, []⟩) [] [] rfl hK ⟨⟨_, rfl, .rfl⟩, trivial⟩ trivial rfl ?_
 exact ac aa (rs := [.tmp 2]) rfl rfl rfl
 replace hd := (of_decide_eq_false hd)
 replace h := h.2 hd
 refine gR 10 rfl ?_
 refine go_loop m ?_
 exact gJ (h K _ hK (by omega)) [] [] rfl hK ⟨⟨_, rfl, .rfl⟩, ⟨_, rfl, .rfl⟩, ⟨_, rfl, .rfl⟩, trivial⟩ trivial rfl
 refine gF 36 rfl hd rfl ?_
 replace hd := (ne_of_beq_false hd)
 replace h := h.2 hd
 refine gR 16 rfl ?_
 refine go_loop m ?_
 exact gJ (h K _ hK (by omega)) [] [] rfl hK ⟨⟨_, rfl, .rfl⟩, ⟨_, rfl, .rfl⟩, ⟨_, rfl, .rfl⟩, trivial⟩ trivial rfl
 refine gF 10 rfl hd rfl ?_
 replace hd := (ne_of_beq_false hd)
 replace h := h.2 hd
 refine gR 8 rfl ?_
 refine gB 19 rfl rfl rfl (fun hd => ?_) (fun hd => ?_)
 refine gT 18 rfl hd rfl ?_
 replace hd := (eq_of_beq hd)
 replace h := h.1 hd
 refine gR 5 rfl ?_
 refine gB 24 rfl rfl rfl (fun hd => ?_) (fun hd => ?_)
 refine gT 23 rfl hd rfl ?_
 replace hd := (of_decide_eq_true hd)
 replace h := h.1 hd
 refine gR 27 rfl ?_
 subst h
 refine ab (F' := (mkF 54 0 [(2, .bool false)])) (H' := ⟨0, []⟩) [] [] rfl hK ⟨⟨_, rfl, .rfl⟩, trivial⟩ trivial rfl ?_
 exact ac aa (rs := [.tmp 2]) rfl rfl rfl
 refine gF 23 rfl hd rfl ?_
 replace hd := (of_decide_eq_false hd)
 replace h := h.2 hd
 refine gR 4 rfl ?_
 refine gB 28 rfl rfl rfl (fun hd => ?_) (fun hd => ?_)
 refine gT 27 rfl hd rfl ?_
 replace hd := (eq_of_beq hd)
 replace h := h.1 hd
 refine gR 5 rfl ?_
 refine gB 33 rfl rfl rfl (fun hd => ?_) (fun hd => ?_)
 refine gT 32 rfl hd rfl ?_
 replace hd := (of_decide_eq_true hd)
 replace h := h.1 hd
 refine gR 18 rfl ?_
 subst h
 refine ab (F' := (mkF 54 0 [(2, .bool false)])) (H' := ⟨0, []⟩) [] [] rfl hK ⟨⟨_, rfl, .rfl⟩, trivial⟩ trivial rfl ?_
 exact ac aa (rs := [.tmp 2]) rfl rfl rfl
 refine gF 32 rfl hd rfl ?_
 replace hd := (of_decide_eq_false hd)
 replace h := h.2 hd
 refine gR 4 rfl ?_
 refine gB 37 rfl rfl rfl (fun hd => ?_) (fun hd => ?_)
 refine gT 36 rfl hd rfl ?_
 replace hd := (eq_of_beq hd)
 replace h := h.1 hd
 refine gR 6 rfl ?_
 refine gB 41 rfl rfl rfl (fun hd => ?_) (fun hd => ?_)
 replace hd := (of_decide_eq_true hd)
 replace h := h.1 hd
 refine gR 8 rfl ?_
 subst h
 refine ab (F' := (mkF 54 0 [(2, .bool false)])) (H' := ⟨0, []⟩) [] [] rfl hK ⟨⟨_, rfl, .rfl⟩, trivial⟩ trivial rfl ?_
 exact ac aa (rs := [.tmp 2]) rfl rfl rfl
 replace hd := (of_decide_eq_false hd)
 replace h := h.2 hd
 refine gR 10 rfl ?_
 refine go_loop m ?_
 exact gJ (h K _ hK (by omega)) [] [] rfl hK ⟨⟨_, rfl, .rfl⟩, ⟨_, rfl, .rfl⟩, ⟨_, rfl, .rfl⟩, trivial⟩ trivial rfl
 refine gF 36 rfl hd rfl ?_
 replace hd := (ne_of_beq_false hd)
 replace h := h.2 hd
 refine gR 16 rfl ?_
 refine go_loop m ?_
 exact gJ (h K _ hK (by omega)) [] [] rfl hK ⟨⟨_, rfl, .rfl⟩, ⟨_, rfl, .rfl⟩, ⟨_, rfl, .rfl⟩, trivial⟩ trivial rfl
 refine gF 27 rfl hd rfl ?_
 replace hd := (ne_of_beq_false hd)
 replace h := h.2 hd
 refine gR 9 rfl ?_
 refine gB 37 rfl rfl rfl (fun hd => ?_) (fun hd => ?_)
 refine gT 36 rfl hd rfl ?_
 replace hd := (eq_of_beq hd)
 replace h := h.1 hd
 refine gR 6 rfl ?_
 refine gB 41 rfl rfl rfl (fun hd => ?_) (fun hd => ?_)
 replace hd := (of_decide_eq_true hd)
 replace h := h.1 hd
 refine gR 8 rfl ?_
 subst h
 refine ab (F' := (mkF 54 0 [(2, .bool false)])) (H' := ⟨0, []⟩) [] [] rfl hK ⟨⟨_, rfl, .rfl⟩, trivial⟩ trivial rfl ?_
 exact ac aa (rs := [.tmp 2]) rfl rfl rfl
 replace hd := (of_decide_eq_false hd)
 replace h := h.2 hd
 refine gR 10 rfl ?_
 refine go_loop m ?_
 exact gJ (h K _ hK (by omega)) [] [] rfl hK ⟨⟨_, rfl, .rfl⟩, ⟨_, rfl, .rfl⟩, ⟨_, rfl, .rfl⟩, trivial⟩ trivial rfl
 refine gF 36 rfl hd rfl ?_
 replace hd := (ne_of_beq_false hd)
 replace h := h.2 hd
 refine gR 16 rfl ?_
 refine go_loop m ?_
 exact gJ (h K _ hK (by omega)) [] [] rfl hK ⟨⟨_, rfl, .rfl⟩, ⟨_, rfl, .rfl⟩, ⟨_, rfl, .rfl⟩, trivial⟩ trivial rfl
 refine gF 18 rfl hd rfl ?_
 replace hd := (ne_of_beq_false hd)
 replace h := h.2 hd
 refine gR 9 rfl ?_
 refine gB 28 rfl rfl rfl (fun hd => ?_) (fun hd => ?_)
 refine gT 27 rfl hd rfl ?_
 replace hd := (eq_of_beq hd)
 replace h := h.1 hd
 refine gR 5 rfl ?_
 refine gB 33 rfl rfl rfl (fun hd => ?_) (fun hd => ?_)
 refine gT 32 rfl hd rfl ?_
 replace hd := (of_decide_eq_true hd)
 replace h := h.1 hd
 refine gR 18 rfl ?_
 subst h
 refine ab (F' := (mkF 54 0 [(2, .bool false)])) (H' := ⟨0, []⟩) [] [] rfl hK ⟨⟨_, rfl, .rfl⟩, trivial⟩ trivial rfl ?_
 exact ac aa (rs := [.tmp 2]) rfl rfl rfl
 refine gF 32 rfl hd rfl ?_
 replace hd := (of_decide_eq_false hd)
 replace h := h.2 hd
 refine gR 4 rfl ?_
 refine gB 37 rfl rfl rfl (fun hd => ?_) (fun hd => ?_)
 refine gT 36 rfl hd rfl ?_
 replace hd := (eq_of_beq hd)
 replace h := h.1 hd
 refine gR 6 rfl ?_
 refine gB 41 rfl rfl rfl (fun hd => ?_) (fun hd => ?_)
 replace hd := (of_decide_eq_true hd)
 replace h := h.1 hd
 refine gR 8 rfl ?_
 subst h
 refine ab (F' := (mkF 54 0 [(2, .bool false)])) (H' := ⟨0, []⟩) [] [] rfl hK ⟨⟨_, rfl, .rfl⟩, trivial⟩ trivial rfl ?_
 exact ac aa (rs := [.tmp 2]) rfl rfl rfl
 replace hd := (of_decide_eq_false hd)
 replace h := h.2 hd
 refine gR 10 rfl ?_
 refine go_loop m ?_
 exact gJ (h K _ hK (by omega)) [] [] rfl hK ⟨⟨_, rfl, .rfl⟩, ⟨_, rfl, .rfl⟩, ⟨_, rfl, .rfl⟩, trivial⟩ trivial rfl
 refine gF 36 rfl hd rfl ?_
 replace hd := (ne_of_beq_false hd)
 replace h := h.2 hd
 refine gR 16 rfl ?_
 refine go_loop m ?_
 exact gJ (h K _ hK (by omega)) [] [] rfl hK ⟨⟨_, rfl, .rfl⟩, ⟨_, rfl, .rfl⟩, ⟨_, rfl, .rfl⟩, trivial⟩ trivial rfl
 refine gF 27 rfl hd rfl ?_
 replace hd := (ne_of_beq_false hd)
 replace h := h.2 hd
 refine gR 9 rfl ?_
 refine gB 37 rfl rfl rfl (fun hd => ?_) (fun hd => ?_)
 refine gT 36 rfl hd rfl ?_
 replace hd := (eq_of_beq hd)
 replace h := h.1 hd
 refine gR 6 rfl ?_
 refine gB 41 rfl rfl rfl (fun hd => ?_) (fun hd => ?_)
 replace hd := (of_decide_eq_true hd)
 replace h := h.1 hd
 refine gR 8 rfl ?_
 subst h
 refine ab (F' := (mkF 54 0 [(2, .bool false)])) (H' := ⟨0, []⟩) [] [] rfl hK ⟨⟨_, rfl, .rfl⟩, trivial⟩ trivial rfl ?_
 exact ac aa (rs := [.tmp 2]) rfl rfl rfl
 replace hd := (of_decide_eq_false hd)
 replace h := h.2 hd
 refine gR 10 rfl ?_
 refine go_loop m ?_
 exact gJ (h K _ hK (by omega)) [] [] rfl hK ⟨⟨_, rfl, .rfl⟩, ⟨_, rfl, .rfl⟩, ⟨_, rfl, .rfl⟩, trivial⟩ trivial rfl
 refine gF 36 rfl hd rfl ?_
 replace hd := (ne_of_beq_false hd)
 replace h := h.2 hd
 refine gR 16 rfl ?_
 refine go_loop m ?_
 exact gJ (h K _ hK (by omega)) [] [] rfl hK ⟨⟨_, rfl, .rfl⟩, ⟨_, rfl, .rfl⟩, ⟨_, rfl, .rfl⟩, trivial⟩ trivial rfl
theorem eh (m : Nat) (p0 : Tree) (i1v1 : Nat) (r0 : Bool) (h : ((i1v1 < p0.kids.length) → ∃ (t1_1 : Tree), p0.kids[i1v1]? = some t1_1 ∧ ∃ (b1_2 : Bool), eY t1_1 b1_2 ∧ ((b1_2 = false) → false = r0) ∧ ((b1_2 = true) → i1v1 + 1 ≤ 9223372036854775807 ∧ az m p0 (i1v1 + 1) r0)) ∧ ((¬ i1v1 < p0.kids.length) → true = r0)) : az (m + 1) p0 i1v1 r0 := by
 intro K j1 hK hj1
 obtain ⟨j1, rfl⟩ : ∃ j, j1 = j + 1 := ⟨j1 - 1, by omega⟩
 refine gR 8 rfl ?_
 refine gB 44 rfl rfl rfl (fun hd => ?_) (fun hd => ?_)
 replace hd := (cO hd)
 replace h := h.1 hd
 refine gR 10 rfl ?_
 obtain ⟨t1_1, hxt1_1, h⟩ := h
 refine gY (aK (am hxt1_1) aa rfl rfl rfl rfl) rfl rfl ?_
 refine gR 1 rfl ?_
 obtain ⟨b1_2, hs6, h⟩ := h
 refine gC0 hs6 (by kernel_rfl) rfl rfl .rfl rfl ?_
 refine gR 3 rfl ?_
 refine gB 53 rfl rfl rfl (fun hd => ?_) (fun hd => ?_)
 replace hd := (bM hd)
 replace h := h.1 hd
 refine gR 9 rfl ?_
 refine aM ?_
 refine gR 2 rfl ?_
 subst h
 refine ab (F' := (mkF 54 0 [(2, .bool false)])) (H' := ⟨0, []⟩) [] [] rfl hK ⟨⟨_, rfl, .rfl⟩, trivial⟩ trivial rfl ?_
 exact ac aa (rs := [.tmp 2]) rfl rfl rfl
 replace hd := (bL hd)
 replace h := h.2 hd
 refine gR 6 rfl ?_
 obtain ⟨hb, h⟩ := h
 refine gR 1 rfl ?_
 refine gV 46 (.int .i64 ((i1v1 + 1 : Nat) : Int)) rfl (ar (by omega) (by omega)) rfl ?_
 refine gR 2 rfl ?_
 refine aq ?_
 exact gJ (h K _ hK (by omega)) [] [] rfl hK ⟨⟨_, rfl, .rfl⟩, ⟨_, rfl, .rfl⟩, ⟨_, rfl, .rfl⟩, trivial⟩ trivial rfl
 replace hd := (cI hd)
 replace h := h.2 hd
 refine gR 3 rfl ?_
 refine av ?_
 refine gR 8 rfl ?_
 subst h
 refine ab (F' := (mkF 54 0 [(2, .bool true)])) (H' := ⟨0, []⟩) [] [] rfl hK ⟨⟨_, rfl, .rfl⟩, trivial⟩ trivial rfl ?_
 exact ac aa (rs := [.tmp 2]) rfl rfl rfl
def eR (m : Nat) (p0 : Tree) (z1v1 : Int) (i1v2 : Nat) (r0 : Int) : Prop := ∀ (K : Ctx) (j1 : Nat), au K [] → m ≤ j1 → Go Tryz.prog K (bodyPost Tryz.prog Tryz.f47 (SP K (fun u _ => u = .int .i64 r0))) (.code (cL (cK (cB (cA (cB (cB (ae Tryz.f47)))))))) [.loop (cL (cK (cB (cA (cB (cB (ae Tryz.f47))))))) j1, .blk 0, .seq (cB (cB (cB (ae Tryz.f47))))] 22 (mkF 22 0 [(1, .box (ai p0) 0), (3, .int .i64 z1v1), (4, .int .i64 ((i1v2 : Nat) : Int))]) ⟨0, []⟩
theorem oQ (m : Nat) (p0 : Tree) (r0 : Int) (h : eR m p0 0 0 r0) : fE p0 r0 := by
 refine ⟨rfl, rfl, ?_⟩
 refine ak 22 [] Tryz.func47 rfl rfl rfl (aA rfl) fun K hK => ?_
 refine gR 3 rfl ?_
 refine gFP 0 rfl rfl rfl rfl ?_
 refine gR 15 rfl ?_
 refine go_loop m ?_
 exact gJ (h K _ hK (by omega)) [] [] rfl hK ⟨⟨_, rfl, .rfl⟩, ⟨_, rfl, .rfl⟩, ⟨_, rfl, .rfl⟩, trivial⟩ trivial rfl
theorem gE (m : Nat) (p0 : Tree) (z1v1 : Int) (i1v2 : Nat) (r0 : Int) (h : ((i1v2 < p0.kids.length) → ∃ (t1_1 : Tree), p0.kids[i1v2]? = some t1_1 ∧ ∃ (n1_2 : Int), fE t1_1 n1_2 ∧ eR m p0 (max z1v1 n1_2) (i1v2 + 1) r0) ∧ ((¬ i1v2 < p0.kids.length) → InI (z1v1 + 1) ∧ (z1v1 + 1) = r0)) : eR (m + 1) p0 z1v1 i1v2 r0 := by
 intro K j1 hK hj1
 obtain ⟨j1, rfl⟩ : ∃ j, j1 = j + 1 := ⟨j1 - 1, by omega⟩
 refine gR 7 rfl ?_
 refine gV 8 (.int .i64 ((p0.kids.length : Nat) : Int)) rfl (bc (aD _)) rfl ?_
 refine gLB 7 rfl (aD _) fun hl5 => ?_
 refine gR 3 rfl ?_
 refine gB 9 rfl rfl rfl (fun hd => ?_) (fun hd => ?_)
 replace hd := (cO hd)
 replace h := h.1 hd
 refine gR 10 rfl ?_
 obtain ⟨t1_1, hxt1_1, h⟩ := h
 refine gY (aK (am hxt1_1) aa rfl rfl rfl rfl) rfl rfl ?_
 refine gR 1 rfl ?_
 obtain ⟨n1_2, hs6, h⟩ := h
 refine gC0 hs6 (by kernel_rfl) rfl rfl .rfl rfl ?_
 refine gR 8 rfl ?_
 refine gV 11 (.int .i64 ((i1v2 + 1 : Nat) : Int)) rfl (ar (by have := hl5; omega) (by omega)) rfl ?_
 refine gR 2 rfl ?_
 refine aq ?_
 exact gJ (h K _ hK (by omega)) [] [] rfl hK ⟨⟨_, rfl, .rfl⟩, ⟨_, rfl, .rfl⟩, ⟨_, rfl, .rfl⟩, trivial⟩ trivial rfl
 replace hd := (cI hd)
 replace h := h.2 hd
 refine gR 3 rfl ?_
 refine av ?_
 refine gR 5 rfl ?_
 obtain ⟨hb, h⟩ := h
 refine gR 1 rfl ?_
 refine gV 21 (.int .i64 (z1v1 + 1)) rfl (ar hb rfl) rfl ?_
 refine gR 4 rfl ?_
 subst h
 refine ab (F' := (mkF 22 0 [(2, .int .i64 (z1v1 + 1))])) (H' := ⟨0, []⟩) [] [] rfl hK ⟨⟨_, rfl, .rfl⟩, trivial⟩ trivial rfl ?_
 exact ac aa (rs := [.tmp 2]) rfl rfl rfl
def bZ (m : Nat) (r0_2 : (List GSemvcsref02Piece)) (s1v1 : (List UInt8)) (i1v2 : Nat) (r0 : (List UInt8)) : Prop := ∀ (K : Ctx) (j1 : Nat), au K [] → m ≤ j1 → Go Tryz.prog K (bodyPost Tryz.prog Tryz.f48 (SP K (fun u _ => u = .str r0))) (.code (cL (cK (cB (cA (cB (cB (cB (cB (ae Tryz.f48)))))))))) [.loop (cL (cK (cB (cA (cB (cB (cB (cB (ae Tryz.f48))))))))) j1, .blk 0, .seq (cB (cB (cB (cB (cB (ae Tryz.f48))))))] 57 (mkF 57 0 [(3, .row 2 (List.map GSemvcsref02Piece.w r0_2)), (4, .str s1v1), (5, .int .i64 ((i1v2 : Nat) : Int))]) ⟨0, []⟩
theorem kL (m : Nat) (p0 : Tree) (r0 : (List UInt8)) (h : ∃ (b0_1 : Bool), dW p0 b0_1 ∧ ((b0_1 = false) → [] = r0) ∧ ((b0_1 = true) → ∃ (r0_2 : (List GSemvcsref02Piece)), k7 p0 r0_2 ∧ bZ m r0_2 [] 0 r0)) : ik p0 r0 := by
 refine ⟨rfl, rfl, ?_⟩
 refine ak 57 [] Tryz.func48 rfl rfl rfl (aA rfl) fun K hK => ?_
 refine gR 3 rfl ?_
 refine gFP 0 rfl rfl rfl rfl ?_
 refine gR 7 rfl ?_
 obtain ⟨b0_1, hs8, h⟩ := h
 refine gC0 hs8 (by kernel_rfl) rfl rfl .rfl rfl ?_
 refine gR 3 rfl ?_
 refine gB 8 rfl rfl rfl (fun hd => ?_) (fun hd => ?_)
 replace hd := (bM hd)
 replace h := h.1 hd
 refine gR 8 rfl ?_
 subst h
 refine ab (F' := (mkF 57 0 [(2, .str [])])) (H' := ⟨0, []⟩) [] [] rfl hK ⟨⟨_, rfl, .rfl⟩, trivial⟩ trivial rfl ?_
 exact ac aa (rs := [.tmp 2]) rfl rfl rfl
 replace hd := (bL hd)
 replace h := h.2 hd
 refine gR 6 rfl ?_
 obtain ⟨r0_2, hs9, h⟩ := h
 refine gC0 hs9 (by kernel_rfl) rfl rfl .rfl rfl ?_
 refine gR 15 rfl ?_
 refine go_loop m ?_
 exact gJ (h K _ hK (by omega)) [] [] rfl hK ⟨⟨_, rfl, .rfl⟩, ⟨_, rfl, .rfl⟩, ⟨_, rfl, .rfl⟩, trivial⟩ trivial rfl
theorem cx (m : Nat) (r0_2 : (List GSemvcsref02Piece)) (s1v1 : (List UInt8)) (i1v2 : Nat) (r0 : (List UInt8)) (h : ((i1v2 < r0_2.length) → ((0 < ((i1v2 : Nat) : Int)) → ∃ (x1_1 : GSemvcsref02Piece), r0_2[i1v2]? = some x1_1 ∧ ((x1_1.Lead = []) → InI (((i1v2 : Nat) : Int) - 1) ∧ ∃ (k1_2 : Nat), (((i1v2 : Nat) : Int) - 1) = ((k1_2 : Nat) : Int) ∧ ∃ (x1_3 : GSemvcsref02Piece), r0_2[k1_2]? = some x1_3 ∧ ∃ (x1_4 : GSemvcsref02Piece), r0_2[i1v2]? = some x1_4 ∧ ∃ (b1_5 : Bool), li x1_3.Text x1_4.Text b1_5 ∧ ((b1_5 = true) → s1v1.length + [32].length ≤ 9223372036854775807 ∧ ∃ (x1_6 : GSemvcsref02Piece), r0_2[i1v2]? = some x1_6 ∧ (s1v1 ++ [32]).length + x1_6.Lead.length ≤ 9223372036854775807 ∧ ∃ (x1_7 : GSemvcsref02Piece), r0_2[i1v2]? = some x1_7 ∧ ((s1v1 ++ [32]) ++ x1_6.Lead).length + x1_7.Text.length ≤ 9223372036854775807 ∧ bZ m r0_2 (((s1v1 ++ [32]) ++ x1_6.Lead) ++ x1_7.Text) (i1v2 + 1) r0) ∧ ((b1_5 = false) → ∃ (x1_8 : GSemvcsref02Piece), r0_2[i1v2]? = some x1_8 ∧ s1v1.length + x1_8.Lead.length ≤ 9223372036854775807 ∧ ∃ (x1_9 : GSemvcsref02Piece), r0_2[i1v2]? = some x1_9 ∧ (s1v1 ++ x1_8.Lead).length + x1_9.Text.length ≤ 9223372036854775807 ∧ bZ m r0_2 ((s1v1 ++ x1_8.Lead) ++ x1_9.Text) (i1v2 + 1) r0)) ∧ ((x1_1.Lead ≠ []) → ∃ (x1_10 : GSemvcsref02Piece), r0_2[i1v2]? = some x1_10 ∧ s1v1.length + x1_10.Lead.length ≤ 9223372036854775807 ∧ ∃ (x1_11 : GSemvcsref02Piece), r0_2[i1v2]? = some x1_11 ∧ (s1v1 ++ x1_10.Lead).length + x1_11.Text.length ≤ 9223372036854775807 ∧ bZ m r0_2 ((s1v1 ++ x1_10.Lead) ++ x1_11.Text) (i1v2 + 1) r0)) ∧ ((¬ 0 < ((i1v2 : Nat) : Int)) → ∃ (x1_12 : GSemvcsref02Piece), r0_2[i1v2]? = some x1_12 ∧ s1v1.length + x1_12.Lead.length ≤ 9223372036854775807 ∧ ∃ (x1_13 : GSemvcsref02Piece), r0_2[i1v2]? = some x1_13 ∧ (s1v1 ++ x1_12.Lead).length + x1_13.Text.length ≤ 9223372036854775807 ∧ bZ m r0_2 ((s1v1 ++ x1_12.Lead) ++ x1_13.Text) (i1v2 + 1) r0)) ∧ ((¬ i1v2 < r0_2.length) → s1v1 = r0)) : bZ (m + 1) r0_2 s1v1 i1v2 r0 := by
 intro K j1 hK hj1
 obtain ⟨j1, rfl⟩ : ∃ j, j1 = j + 1 := ⟨j1 - 1, by omega⟩
 refine gR 6 rfl ?_
 refine gV 13 (.int .i64 ((r0_2.length : Nat) : Int)) rfl (bc (aV GSemvcsref02Piece.w _)) rfl ?_
 refine gLB 12 rfl (aV GSemvcsref02Piece.w _) fun hl10 => ?_
 refine gR 3 rfl ?_
 refine gB 14 rfl rfl rfl (fun hd => ?_) (fun hd => ?_)
 replace hd := (cO hd)
 replace h := h.1 hd
 refine gR 7 rfl ?_
 refine gDs [] 24 24 rfl (by kernel_rfl) (by kernel_rfl) ?_
 refine gDr [(0, 0), (1, 0), (2, 0)] (by kernel_rfl) rfl rfl ?_
 refine gB 19 rfl rfl rfl (fun hd => ?_) (fun hd => ?_)
 refine gT 18 rfl hd rfl ?_
 replace hd := (of_decide_eq_true hd)
 replace h := h.1 hd
 refine gDr [(3, 2), (4, 0)] (by kernel_rfl) rfl rfl ?_
 obtain ⟨x1_1, hxx1_1, h⟩ := h
 refine dF 5 rfl (by kernel_rfl) (aK (mapget (f := GSemvcsref02Piece.w) hxx1_1) aa rfl rfl rfl rfl) rfl rfl ?_
 refine gDr [(6, 0), (7, 0), (8, 0), (9, 0), (10, 0)] (by kernel_rfl) rfl rfl ?_
 refine gB 27 rfl rfl rfl (fun hd => ?_) (fun hd => ?_)
 refine gT 26 rfl hd rfl ?_
 replace hd := (eq_of_beq hd)
 replace h := h.1 hd
 refine gDr [(11, 2), (12, 2)] (by kernel_rfl) rfl rfl ?_
 obtain ⟨hb, h⟩ := h
 refine gDr [(13, 2)] (by kernel_rfl) rfl rfl ?_
 refine gV 30 (.int .i64 (((i1v2 : Nat) : Int) - 1)) rfl (ar hb rfl) rfl ?_
 obtain ⟨k1_2, ek1_2, h⟩ := h
 refine gV 30 (.int .i64 ((k1_2 : Nat) : Int)) rfl (cw ek1_2) rfl ?_
 obtain ⟨x1_3, hxx1_3, h⟩ := h
 refine gYd 14 rfl (by kernel_rfl) (aK (mapget (f := GSemvcsref02Piece.w) hxx1_3) aa rfl rfl rfl rfl) rfl rfl ?_
 refine gDr [(15, 2), (16, 2), (17, 2), (18, 0)] (by kernel_rfl) rfl rfl ?_
 obtain ⟨x1_4, hxx1_4, h⟩ := h
 refine dF 19 rfl (by kernel_rfl) (aK (mapget (f := GSemvcsref02Piece.w) hxx1_4) aa rfl rfl rfl rfl) rfl rfl ?_
 refine gDr [(20, 0), (21, 0)] (by kernel_rfl) rfl rfl ?_
 obtain ⟨b1_5, hs11, h⟩ := h
 refine br 22 hs11 (by kernel_rfl) rfl (by kernel_rfl) rfl rfl .rfl rfl rfl ?_
 refine gDr [(23, 0)] (by kernel_rfl) rfl rfl ?_
 refine gDe (by kernel_rfl) ?_
 refine gR 1 rfl ?_
 refine gB 40 rfl rfl rfl (fun hd => ?_) (fun hd => ?_)
 replace h := h.1 hd
 refine gR 3 rfl ?_
 obtain ⟨hb, h⟩ := h
 refine gY (ox rfl rfl hb) rfl rfl ?_
 refine gR 3 rfl ?_
 refine gDs [] 14 14 rfl (by kernel_rfl) (by kernel_rfl) ?_
 refine gDr [(0, 2), (1, 2), (2, 2)] (by kernel_rfl) rfl rfl ?_
 obtain ⟨x1_6, hxx1_6, h⟩ := h
 refine gYd 3 rfl (by kernel_rfl) (aK (mapget (f := GSemvcsref02Piece.w) hxx1_6) aa rfl rfl rfl rfl) rfl rfl ?_
 refine gDr [(4, 2), (5, 2)] (by kernel_rfl) rfl rfl ?_
 obtain ⟨hb, h⟩ := h
 refine gYd 6 rfl (by kernel_rfl) (ox rfl rfl hb) rfl rfl ?_
 refine gDr [(7, 2), (8, 0)] (by kernel_rfl) rfl rfl ?_
 obtain ⟨x1_7, hxx1_7, h⟩ := h
 refine dF 9 rfl (by kernel_rfl) (aK (mapget (f := GSemvcsref02Piece.w) hxx1_7) aa rfl rfl rfl rfl) rfl rfl ?_
 refine gDr [(10, 0), (11, 0)] (by kernel_rfl) rfl rfl ?_
 obtain ⟨hb, h⟩ := h
 refine dF 12 rfl (by kernel_rfl) (ox rfl rfl hb) rfl rfl ?_
 refine gDr [(13, 0)] (by kernel_rfl) rfl rfl ?_
 refine gDe (by kernel_rfl) ?_
 refine gR 5 rfl ?_
 refine gV 16 (.int .i64 ((i1v2 + 1 : Nat) : Int)) rfl (ar (by have := hl10; omega) (by omega)) rfl ?_
 refine gR 2 rfl ?_
 refine aq ?_
 exact gJ (h K _ hK (by omega)) [] [] rfl hK ⟨⟨_, rfl, .rfl⟩, ⟨_, rfl, .rfl⟩, ⟨_, rfl, .rfl⟩, trivial⟩ trivial rfl
 replace h := h.2 hd
 refine gR 3 rfl ?_
 refine gDs [] 14 14 rfl (by kernel_rfl) (by kernel_rfl) ?_
 refine gDr [(0, 2), (1, 2), (2, 2)] (by kernel_rfl) rfl rfl ?_
 obtain ⟨x1_8, hxx1_8, h⟩ := h
 refine gYd 3 rfl (by kernel_rfl) (aK (mapget (f := GSemvcsref02Piece.w) hxx1_8) aa rfl rfl rfl rfl) rfl rfl ?_
 refine gDr [(4, 2), (5, 2)] (by kernel_rfl) rfl rfl ?_
 obtain ⟨hb, h⟩ := h
 refine gYd 6 rfl (by kernel_rfl) (ox rfl rfl hb) rfl rfl ?_
 refine gDr [(7, 2), (8, 0)] (by kernel_rfl) rfl rfl ?_
 obtain ⟨x1_9, hxx1_9, h⟩ := h
 refine dF 9 rfl (by kernel_rfl) (aK (mapget (f := GSemvcsref02Piece.w) hxx1_9) aa rfl rfl rfl rfl) rfl rfl ?_
 refine gDr [(10, 0), (11, 0)] (by kernel_rfl) rfl rfl ?_
 obtain ⟨hb, h⟩ := h
 refine dF 12 rfl (by kernel_rfl) (ox rfl rfl hb) rfl rfl ?_
 refine gDr [(13, 0)] (by kernel_rfl) rfl rfl ?_
 refine gDe (by kernel_rfl) ?_
 refine gR 5 rfl ?_
 refine gV 16 (.int .i64 ((i1v2 + 1 : Nat) : Int)) rfl (ar (by have := hl10; omega) (by omega)) rfl ?_
 refine gR 2 rfl ?_
 refine aq ?_
 exact gJ (h K _ hK (by omega)) [] [] rfl hK ⟨⟨_, rfl, .rfl⟩, ⟨_, rfl, .rfl⟩, ⟨_, rfl, .rfl⟩, trivial⟩ trivial rfl
 refine gF 26 rfl hd rfl ?_
 replace hd := (ne_of_beq_false hd)
 replace h := h.2 hd
 refine gDr [(11, 2), (12, 2), (13, 2), (14, 2), (15, 2), (16, 2), (17, 2), (18, 0), (19, 0), (20, 0), (21, 0), (22, 0), (23, 0)] (by kernel_rfl) rfl rfl ?_
 refine gDe (by kernel_rfl) ?_
 refine gR 4 rfl ?_
 refine gDs [] 14 14 rfl (by kernel_rfl) (by kernel_rfl) ?_
 refine gDr [(0, 2), (1, 2), (2, 2)] (by kernel_rfl) rfl rfl ?_
 obtain ⟨x1_10, hxx1_10, h⟩ := h
 refine gYd 3 rfl (by kernel_rfl) (aK (mapget (f := GSemvcsref02Piece.w) hxx1_10) aa rfl rfl rfl rfl) rfl rfl ?_
 refine gDr [(4, 2), (5, 2)] (by kernel_rfl) rfl rfl ?_
 obtain ⟨hb, h⟩ := h
 refine gYd 6 rfl (by kernel_rfl) (ox rfl rfl hb) rfl rfl ?_
 refine gDr [(7, 2), (8, 0)] (by kernel_rfl) rfl rfl ?_
 obtain ⟨x1_11, hxx1_11, h⟩ := h
 refine dF 9 rfl (by kernel_rfl) (aK (mapget (f := GSemvcsref02Piece.w) hxx1_11) aa rfl rfl rfl rfl) rfl rfl ?_
 refine gDr [(10, 0), (11, 0)] (by kernel_rfl) rfl rfl ?_
 obtain ⟨hb, h⟩ := h
 refine dF 12 rfl (by kernel_rfl) (ox rfl rfl hb) rfl rfl ?_
 refine gDr [(13, 0)] (by kernel_rfl) rfl rfl ?_
 refine gDe (by kernel_rfl) ?_
 refine gR 5 rfl ?_
 refine gV 16 (.int .i64 ((i1v2 + 1 : Nat) : Int)) rfl (ar (by have := hl10; omega) (by omega)) rfl ?_
 refine gR 2 rfl ?_
 refine aq ?_
 exact gJ (h K _ hK (by omega)) [] [] rfl hK ⟨⟨_, rfl, .rfl⟩, ⟨_, rfl, .rfl⟩, ⟨_, rfl, .rfl⟩, trivial⟩ trivial rfl
 refine gF 18 rfl hd rfl ?_
 replace hd := (of_decide_eq_false hd)
 replace h := h.2 hd
 refine gDr [(3, 2), (4, 0), (5, 0), (6, 0), (7, 0), (8, 0), (9, 0), (10, 0), (11, 2), (12, 2), (13, 2), (14, 2), (15, 2), (16, 2), (17, 2), (18, 0), (19, 0), (20, 0), (21, 0), (22, 0), (23, 0)] (by kernel_rfl) rfl rfl ?_
 refine gDe (by kernel_rfl) ?_
 refine gR 4 rfl ?_
 refine gDs [] 14 14 rfl (by kernel_rfl) (by kernel_rfl) ?_
 refine gDr [(0, 2), (1, 2), (2, 2)] (by kernel_rfl) rfl rfl ?_
 obtain ⟨x1_12, hxx1_12, h⟩ := h
 refine gYd 3 rfl (by kernel_rfl) (aK (mapget (f := GSemvcsref02Piece.w) hxx1_12) aa rfl rfl rfl rfl) rfl rfl ?_
 refine gDr [(4, 2), (5, 2)] (by kernel_rfl) rfl rfl ?_
 obtain ⟨hb, h⟩ := h
 refine gYd 6 rfl (by kernel_rfl) (ox rfl rfl hb) rfl rfl ?_
 refine gDr [(7, 2), (8, 0)] (by kernel_rfl) rfl rfl ?_
 obtain ⟨x1_13, hxx1_13, h⟩ := h
 refine dF 9 rfl (by kernel_rfl) (aK (mapget (f := GSemvcsref02Piece.w) hxx1_13) aa rfl rfl rfl rfl) rfl rfl ?_
 refine gDr [(10, 0), (11, 0)] (by kernel_rfl) rfl rfl ?_
 obtain ⟨hb, h⟩ := h
 refine dF 12 rfl (by kernel_rfl) (ox rfl rfl hb) rfl rfl ?_
 refine gDr [(13, 0)] (by kernel_rfl) rfl rfl ?_
 refine gDe (by kernel_rfl) ?_
 refine gR 5 rfl ?_
 refine gV 16 (.int .i64 ((i1v2 + 1 : Nat) : Int)) rfl (ar (by have := hl10; omega) (by omega)) rfl ?_
 refine gR 2 rfl ?_
 refine aq ?_
 exact gJ (h K _ hK (by omega)) [] [] rfl hK ⟨⟨_, rfl, .rfl⟩, ⟨_, rfl, .rfl⟩, ⟨_, rfl, .rfl⟩, trivial⟩ trivial rfl
 replace hd := (cI hd)
 replace h := h.2 hd
 refine gR 3 rfl ?_
 refine av ?_
 refine gR 9 rfl ?_
 subst h
 refine ab (F' := (mkF 57 0 [(2, .str s1v1)])) (H' := ⟨0, []⟩) [] [] rfl hK ⟨⟨_, rfl, .rfl⟩, trivial⟩ trivial rfl ?_
 exact ac aa (rs := [.tmp 2]) rfl rfl rfl
theorem nP (m : Nat) (p0 : Tree) (r0 : (List GSemvcsref02Piece)) (h : ∃ (r0_1 : (List GSemvcsref02Piece)), ay ([] : List GSemvcsref02Piece) p0 r0_1 ∧ r0_1 = r0) : k7 p0 r0 := by
 refine ⟨rfl, rfl, ?_⟩
 refine ak 5 [] Tryz.func76 rfl rfl rfl (aA rfl) fun K hK => ?_
 refine gR 3 rfl ?_
 refine gFP 0 rfl rfl rfl rfl ?_
 refine gR 6 rfl ?_
 obtain ⟨r0_1, hs2, h⟩ := h
 refine gCn 0 103 2 hs2 [1] (by kernel_rfl) rfl rfl rfl rfl .rfl ⟨⟨_, rfl, ⟨rfl, rfl, rfl⟩⟩, trivial⟩ rfl ?_
 rintro _ _ ⟨rfl, rfl⟩
 refine gHR 3 (List.map GSemvcsref02Piece.w r0_1) rfl (an _ GSemvcsref02Piece.w (fun _ => rfl) r0_1) rfl ?_
 refine gR 4 rfl ?_
 refine gFR 3 rfl (i5 _ (fun _ => rfl) _) rfl rfl ?_
 subst h
 refine ab (F' := (mkF 5 0 [(2, .row 2 (List.map GSemvcsref02Piece.w r0_1))])) (H' := ⟨0, []⟩) [] [] rfl hK ⟨⟨_, rfl, .rfl⟩, trivial⟩ trivial rfl ?_
 exact ac aa (rs := [.tmp 2]) rfl rfl rfl
def j5 (m : Nat) (p0 : (List GSemvcsref02Piece)) (p1 : Tree) (r0 : (List GSemvcsref02Piece)) : Prop := ∀ (K : Ctx), au K [] → Go Tryz.prog K (bodyPost Tryz.prog Tryz.f106 (SP K (fun u G => u = .sl 1 ∧ G = ⟨2, [(1, .row 103 2 (List.map GSemvcsref02Piece.w r0))]⟩))) (.code (cT (cB (cK (cB (cA (cB (cB (ae Tryz.f106))))))))) [.blk 0, .seq (cB (cB (cB (ae Tryz.f106))))] 365 (mkF 365 0 [(0, .sl 0), (3, .box (ai p1) 0), (5, .int .i64 ((p1.kids.length : Nat) : Int))]) ⟨1, [(0, .row 103 2 (List.map GSemvcsref02Piece.w p0))]⟩
def kh (m : Nat) (p0 : (List GSemvcsref02Piece)) (p1 : Tree) (r0 : (List GSemvcsref02Piece)) : Prop := ∀ (K : Ctx), au K [] → Go Tryz.prog K (bodyPost Tryz.prog Tryz.f106 (SP K (fun u G => u = .sl 1 ∧ G = ⟨2, [(1, .row 103 2 (List.map GSemvcsref02Piece.w r0))]⟩))) (.code (cE (cB (cK (cB (cA (cB (cB (ae Tryz.f106))))))))) [.blk 0, .seq (cB (cB (cB (ae Tryz.f106))))] 365 (mkF 365 0 [(0, .sl 0), (3, .box (ai p1) 0), (5, .int .i64 ((p1.kids.length : Nat) : Int)), (11, .int .i64 p1.kind)]) ⟨1, [(0, .row 103 2 (List.map GSemvcsref02Piece.w p0))]⟩
def dx (m : Nat) (p1 : Tree) (l3v1 : (List GSemvcsref02Piece)) (i3v2 : Nat) (r0 : (List GSemvcsref02Piece)) : Prop := ∀ (K : Ctx) (j1 : Nat), au K [] → m ≤ j1 → Go Tryz.prog K (bodyPost Tryz.prog Tryz.f106 (SP K (fun u G => u = .sl 1 ∧ G = ⟨2, [(1, .row 103 2 (List.map GSemvcsref02Piece.w r0))]⟩))) (.code (cL (cK (cB (cA (cB (cT (cB (cK (cB (cA (cB (cB (ae Tryz.f106)))))))))))))) [.loop (cL (cK (cB (cA (cB (cT (cB (cK (cB (cA (cB (cB (ae Tryz.f106))))))))))))) j1, .blk 1, .seq (cB (cB (cT (cB (cK (cB (cA (cB (cB (ae Tryz.f106)))))))))), .blk 0, .seq (cB (cB (cB (ae Tryz.f106))))] 365 (mkF 365 0 [(0, .sl 0), (3, .box (ai p1) 0), (5, .int .i64 ((p1.kids.length : Nat) : Int)), (6, .int .i64 ((i3v2 : Nat) : Int))]) ⟨1, [(0, .row 103 2 (List.map GSemvcsref02Piece.w l3v1))]⟩
def j7 (m : Nat) (p0 : (List GSemvcsref02Piece)) (p1 : Tree) (r0 : (List GSemvcsref02Piece)) : Prop := ∀ (K : Ctx), au K [] → Go Tryz.prog K (bodyPost Tryz.prog Tryz.f106 (SP K (fun u G => u = .sl 1 ∧ G = ⟨2, [(1, .row 103 2 (List.map GSemvcsref02Piece.w r0))]⟩))) (.code (cT (cB (cE (cB (cK (cB (cA (cB (cB (ae Tryz.f106))))))))))) [.blk 0, .seq (cB (cB (cB (ae Tryz.f106))))] 365 (mkF 365 0 [(0, .sl 0), (3, .box (ai p1) 0), (5, .int .i64 ((p1.kids.length : Nat) : Int))]) ⟨1, [(0, .row 103 2 (List.map GSemvcsref02Piece.w p0))]⟩
def j9 (m : Nat) (p0 : (List GSemvcsref02Piece)) (p1 : Tree) (r0 : (List GSemvcsref02Piece)) : Prop := ∀ (K : Ctx), au K [] → Go Tryz.prog K (bodyPost Tryz.prog Tryz.f106 (SP K (fun u G => u = .sl 1 ∧ G = ⟨2, [(1, .row 103 2 (List.map GSemvcsref02Piece.w r0))]⟩))) (.code (cE (cB (cE (cB (cK (cB (cA (cB (cB (ae Tryz.f106))))))))))) [.blk 0, .seq (cB (cB (cB (ae Tryz.f106))))] 365 (mkF 365 0 [(0, .sl 0), (3, .box (ai p1) 0), (5, .int .i64 ((p1.kids.length : Nat) : Int)), (11, .int .i64 p1.kind)]) ⟨1, [(0, .row 103 2 (List.map GSemvcsref02Piece.w p0))]⟩
def j8 (m : Nat) (p0 : (List GSemvcsref02Piece)) (p1 : Tree) (r0 : (List GSemvcsref02Piece)) : Prop := ∀ (K : Ctx), au K [] → Go Tryz.prog K (bodyPost Tryz.prog Tryz.f106 (SP K (fun u G => u = .sl 1 ∧ G = ⟨2, [(1, .row 103 2 (List.map GSemvcsref02Piece.w r0))]⟩))) (.code (cT (cB (cE (cB (cE (cB (cK (cB (cA (cB (cB (ae Tryz.f106))))))))))))) [.blk 0, .seq (cB (cB (cB (ae Tryz.f106))))] 365 (mkF 365 0 [(0, .sl 0), (3, .box (ai p1) 0)]) ⟨1, [(0, .row 103 2 (List.map GSemvcsref02Piece.w p0))]⟩
def kf (m : Nat) (p0 : (List GSemvcsref02Piece)) (p1 : Tree) (r0 : (List GSemvcsref02Piece)) : Prop := ∀ (K : Ctx), au K [] → Go Tryz.prog K (bodyPost Tryz.prog Tryz.f106 (SP K (fun u G => u = .sl 1 ∧ G = ⟨2, [(1, .row 103 2 (List.map GSemvcsref02Piece.w r0))]⟩))) (.code (cE (cB (cE (cB (cE (cB (cK (cB (cA (cB (cB (ae Tryz.f106))))))))))))) [.blk 0, .seq (cB (cB (cB (ae Tryz.f106))))] 365 (mkF 365 0 [(0, .sl 0), (3, .box (ai p1) 0), (5, .int .i64 ((p1.kids.length : Nat) : Int)), (11, .int .i64 p1.kind)]) ⟨1, [(0, .row 103 2 (List.map GSemvcsref02Piece.w p0))]⟩
def kl (m : Nat) (p0 : (List GSemvcsref02Piece)) (p1 : Tree) (r0 : (List GSemvcsref02Piece)) : Prop := ∀ (K : Ctx), au K [] → Go Tryz.prog K (bodyPost Tryz.prog Tryz.f106 (SP K (fun u G => u = .sl 1 ∧ G = ⟨2, [(1, .row 103 2 (List.map GSemvcsref02Piece.w r0))]⟩))) (.code (cT (cB (cE (cB (cE (cB (cE (cB (cK (cB (cA (cB (cB (ae Tryz.f106))))))))))))))) [.blk 0, .seq (cB (cB (cB (ae Tryz.f106))))] 365 (mkF 365 0 [(0, .sl 0), (3, .box (ai p1) 0)]) ⟨1, [(0, .row 103 2 (List.map GSemvcsref02Piece.w p0))]⟩
def km (m : Nat) (p0 : (List GSemvcsref02Piece)) (p1 : Tree) (r0 : (List GSemvcsref02Piece)) : Prop := ∀ (K : Ctx), au K [] → Go Tryz.prog K (bodyPost Tryz.prog Tryz.f106 (SP K (fun u G => u = .sl 1 ∧ G = ⟨2, [(1, .row 103 2 (List.map GSemvcsref02Piece.w r0))]⟩))) (.code (cE (cB (cE (cB (cE (cB (cE (cB (cK (cB (cA (cB (cB (ae Tryz.f106))))))))))))))) [.blk 0, .seq (cB (cB (cB (ae Tryz.f106))))] 365 (mkF 365 0 [(0, .sl 0), (3, .box (ai p1) 0), (5, .int .i64 ((p1.kids.length : Nat) : Int)), (11, .int .i64 p1.kind)]) ⟨1, [(0, .row 103 2 (List.map GSemvcsref02Piece.w p0))]⟩
def j3 (m : Nat) (p0 : (List GSemvcsref02Piece)) (p1 : Tree) (r0 : (List GSemvcsref02Piece)) : Prop := ∀ (K : Ctx), au K [] → Go Tryz.prog K (bodyPost Tryz.prog Tryz.f106 (SP K (fun u G => u = .sl 1 ∧ G = ⟨2, [(1, .row 103 2 (List.map GSemvcsref02Piece.w r0))]⟩))) (.code (cE (cB (cE (cB (cE (cB (cE (cB (cE (cB (cK (cB (cA (cB (cB (ae Tryz.f106))))))))))))))))) [.blk 0, .seq (cB (cB (cB (ae Tryz.f106))))] 365 (mkF 365 0 [(0, .sl 0), (3, .box (ai p1) 0), (5, .int .i64 ((p1.kids.length : Nat) : Int)), (11, .int .i64 p1.kind)]) ⟨1, [(0, .row 103 2 (List.map GSemvcsref02Piece.w p0))]⟩
def jI (m : Nat) (p0 : (List GSemvcsref02Piece)) (p1 : Tree) (r0 : (List GSemvcsref02Piece)) : Prop := ∀ (K : Ctx), au K [] → Go Tryz.prog K (bodyPost Tryz.prog Tryz.f106 (SP K (fun u G => u = .sl 1 ∧ G = ⟨2, [(1, .row 103 2 (List.map GSemvcsref02Piece.w r0))]⟩))) (.code (cE (cB (cE (cB (cE (cB (cE (cB (cE (cB (cE (cB (cK (cB (cA (cB (cB (ae Tryz.f106))))))))))))))))))) [.blk 0, .seq (cB (cB (cB (ae Tryz.f106))))] 365 (mkF 365 0 [(0, .sl 0), (3, .box (ai p1) 0), (5, .int .i64 ((p1.kids.length : Nat) : Int)), (11, .int .i64 p1.kind)]) ⟨1, [(0, .row 103 2 (List.map GSemvcsref02Piece.w p0))]⟩
def jk (m : Nat) (p0 : (List GSemvcsref02Piece)) (p1 : Tree) (r0 : (List GSemvcsref02Piece)) : Prop := ∀ (K : Ctx), au K [] → Go Tryz.prog K (bodyPost Tryz.prog Tryz.f106 (SP K (fun u G => u = .sl 1 ∧ G = ⟨2, [(1, .row 103 2 (List.map GSemvcsref02Piece.w r0))]⟩))) (.code (cE (cB (cE (cB (cE (cB (cE (cB (cE (cB (cE (cB (cE (cB (cK (cB (cA (cB (cB (ae Tryz.f106))))))))))))))))))))) [.blk 0, .seq (cB (cB (cB (ae Tryz.f106))))] 365 (mkF 365 0 [(0, .sl 0), (3, .box (ai p1) 0), (5, .int .i64 ((p1.kids.length : Nat) : Int)), (11, .int .i64 p1.kind)]) ⟨1, [(0, .row 103 2 (List.map GSemvcsref02Piece.w p0))]⟩
def jF (m : Nat) (p0 : (List GSemvcsref02Piece)) (p1 : Tree) (r0 : (List GSemvcsref02Piece)) : Prop := ∀ (K : Ctx), au K [] → Go Tryz.prog K (bodyPost Tryz.prog Tryz.f106 (SP K (fun u G => u = .sl 1 ∧ G = ⟨2, [(1, .row 103 2 (List.map GSemvcsref02Piece.w r0))]⟩))) (.code (cE (cB (cE (cB (cE (cB (cE (cB (cE (cB (cE (cB (cE (cB (cE (cB (cK (cB (cA (cB (cB (ae Tryz.f106))))))))))))))))))))))) [.blk 0, .seq (cB (cB (cB (ae Tryz.f106))))] 365 (mkF 365 0 [(0, .sl 0), (3, .box (ai p1) 0), (5, .int .i64 ((p1.kids.length : Nat) : Int)), (11, .int .i64 p1.kind)]) ⟨1, [(0, .row 103 2 (List.map GSemvcsref02Piece.w p0))]⟩
def js (m : Nat) (p0 : (List GSemvcsref02Piece)) (p1 : Tree) (r0 : (List GSemvcsref02Piece)) : Prop := ∀ (K : Ctx), au K [] → Go Tryz.prog K (bodyPost Tryz.prog Tryz.f106 (SP K (fun u G => u = .sl 1 ∧ G = ⟨2, [(1, .row 103 2 (List.map GSemvcsref02Piece.w r0))]⟩))) (.code (cE (cB (cE (cB (cE (cB (cE (cB (cE (cB (cE (cB (cE (cB (cE (cB (cE (cB (cK (cB (cA (cB (cB (ae Tryz.f106))))))))))))))))))))))))) [.blk 0, .seq (cB (cB (cB (ae Tryz.f106))))] 365 (mkF 365 0 [(0, .sl 0), (3, .box (ai p1) 0), (5, .int .i64 ((p1.kids.length : Nat) : Int)), (11, .int .i64 p1.kind)]) ⟨1, [(0, .row 103 2 (List.map GSemvcsref02Piece.w p0))]⟩
def ju (m : Nat) (p0 : (List GSemvcsref02Piece)) (p1 : Tree) (r0 : (List GSemvcsref02Piece)) : Prop := ∀ (K : Ctx), au K [] → Go Tryz.prog K (bodyPost Tryz.prog Tryz.f106 (SP K (fun u G => u = .sl 1 ∧ G = ⟨2, [(1, .row 103 2 (List.map GSemvcsref02Piece.w r0))]⟩))) (.code (cE (cB (cE (cB (cE (cB (cE (cB (cE (cB (cE (cB (cE (cB (cE (cB (cE (cB (cE (cB (cK (cB (cA (cB (cB (ae Tryz.f106))))))))))))))))))))))))))) [.blk 0, .seq (cB (cB (cB (ae Tryz.f106))))] 365 (mkF 365 0 [(0, .sl 0), (3, .box (ai p1) 0), (5, .int .i64 ((p1.kids.length : Nat) : Int)), (11, .int .i64 p1.kind)]) ⟨1, [(0, .row 103 2 (List.map GSemvcsref02Piece.w p0))]⟩
def jr (m : Nat) (p0 : (List GSemvcsref02Piece)) (p1 : Tree) (r0 : (List GSemvcsref02Piece)) : Prop := ∀ (K : Ctx), au K [] → Go Tryz.prog K (bodyPost Tryz.prog Tryz.f106 (SP K (fun u G => u = .sl 1 ∧ G = ⟨2, [(1, .row 103 2 (List.map GSemvcsref02Piece.w r0))]⟩))) (.code (cT (cB (cE (cB (cE (cB (cE (cB (cE (cB (cE (cB (cE (cB (cE (cB (cE (cB (cE (cB (cE (cB (cK (cB (cA (cB (cB (ae Tryz.f106))))))))))))))))))))))))))))) [.blk 0, .seq (cB (cB (cB (ae Tryz.f106))))] 365 (mkF 365 0 [(0, .sl 0), (3, .box (ai p1) 0)]) ⟨1, [(0, .row 103 2 (List.map GSemvcsref02Piece.w p0))]⟩
def jh (m : Nat) (p0 : (List GSemvcsref02Piece)) (p1 : Tree) (r0 : (List GSemvcsref02Piece)) : Prop := ∀ (K : Ctx), au K [] → Go Tryz.prog K (bodyPost Tryz.prog Tryz.f106 (SP K (fun u G => u = .sl 1 ∧ G = ⟨2, [(1, .row 103 2 (List.map GSemvcsref02Piece.w r0))]⟩))) (.code (cE (cB (cE (cB (cE (cB (cE (cB (cE (cB (cE (cB (cE (cB (cE (cB (cE (cB (cE (cB (cE (cB (cK (cB (cA (cB (cB (ae Tryz.f106))))))))))))))))))))))))))))) [.blk 0, .seq (cB (cB (cB (ae Tryz.f106))))] 365 (mkF 365 0 [(0, .sl 0), (3, .box (ai p1) 0), (5, .int .i64 ((p1.kids.length : Nat) : Int)), (11, .int .i64 p1.kind)]) ⟨1, [(0, .row 103 2 (List.map GSemvcsref02Piece.w p0))]⟩
def jm (m : Nat) (p0 : (List GSemvcsref02Piece)) (p1 : Tree) (r0 : (List GSemvcsref02Piece)) : Prop := ∀ (K : Ctx), au K [] → Go Tryz.prog K (bodyPost Tryz.prog Tryz.f106 (SP K (fun u G => u = .sl 1 ∧ G = ⟨2, [(1, .row 103 2 (List.map GSemvcsref02Piece.w r0))]⟩))) (.code (cT (cB (cE (cB (cE (cB (cE (cB (cE (cB (cE (cB (cE (cB (cE (cB (cE (cB (cE (cB (cE (cB (cE (cB (cK (cB (cA (cB (cB (ae Tryz.f106))))))))))))))))))))))))))))))) [.blk 0, .seq (cB (cB (cB (ae Tryz.f106))))] 365 (mkF 365 0 [(0, .sl 0), (3, .box (ai p1) 0), (5, .int .i64 ((p1.kids.length : Nat) : Int))]) ⟨1, [(0, .row 103 2 (List.map GSemvcsref02Piece.w p0))]⟩
def jt (m : Nat) (p0 : (List GSemvcsref02Piece)) (p1 : Tree) (r0 : (List GSemvcsref02Piece)) : Prop := ∀ (K : Ctx), au K [] → Go Tryz.prog K (bodyPost Tryz.prog Tryz.f106 (SP K (fun u G => u = .sl 1 ∧ G = ⟨2, [(1, .row 103 2 (List.map GSemvcsref02Piece.w r0))]⟩))) (.code (cE (cB (cE (cB (cE (cB (cE (cB (cE (cB (cE (cB (cE (cB (cE (cB (cE (cB (cE (cB (cE (cB (cE (cB (cK (cB (cA (cB (cB (ae Tryz.f106))))))))))))))))))))))))))))))) [.blk 0, .seq (cB (cB (cB (ae Tryz.f106))))] 365 (mkF 365 0 [(0, .sl 0), (3, .box (ai p1) 0), (5, .int .i64 ((p1.kids.length : Nat) : Int)), (11, .int .i64 p1.kind)]) ⟨1, [(0, .row 103 2 (List.map GSemvcsref02Piece.w p0))]⟩
def jg (m : Nat) (p0 : (List GSemvcsref02Piece)) (p1 : Tree) (r0 : (List GSemvcsref02Piece)) : Prop := ∀ (K : Ctx), au K [] → Go Tryz.prog K (bodyPost Tryz.prog Tryz.f106 (SP K (fun u G => u = .sl 1 ∧ G = ⟨2, [(1, .row 103 2 (List.map GSemvcsref02Piece.w r0))]⟩))) (.code (cE (cB (cE (cB (cE (cB (cE (cB (cE (cB (cE (cB (cE (cB (cE (cB (cE (cB (cE (cB (cE (cB (cE (cB (cE (cB (cK (cB (cA (cB (cB (ae Tryz.f106))))))))))))))))))))))))))))))))) [.blk 0, .seq (cB (cB (cB (ae Tryz.f106))))] 365 (mkF 365 0 [(0, .sl 0), (3, .box (ai p1) 0), (5, .int .i64 ((p1.kids.length : Nat) : Int)), (11, .int .i64 p1.kind)]) ⟨1, [(0, .row 103 2 (List.map GSemvcsref02Piece.w p0))]⟩
def jp (m : Nat) (p0 : (List GSemvcsref02Piece)) (p1 : Tree) (r0 : (List GSemvcsref02Piece)) : Prop := ∀ (K : Ctx), au K [] → Go Tryz.prog K (bodyPost Tryz.prog Tryz.f106 (SP K (fun u G => u = .sl 1 ∧ G = ⟨2, [(1, .row 103 2 (List.map GSemvcsref02Piece.w r0))]⟩))) (.code (cT (cB (cE (cB (cE (cB (cE (cB (cE (cB (cE (cB (cE (cB (cE (cB (cE (cB (cE (cB (cE (cB (cE (cB (cE (cB (cE (cB (cK (cB (cA (cB (cB (ae Tryz.f106))))))))))))))))))))))))))))))))))) [.blk 0, .seq (cB (cB (cB (ae Tryz.f106))))] 365 (mkF 365 0 [(0, .sl 0), (3, .box (ai p1) 0), (5, .int .i64 ((p1.kids.length : Nat) : Int))]) ⟨1, [(0, .row 103 2 (List.map GSemvcsref02Piece.w p0))]⟩
def jC (m : Nat) (p0 : (List GSemvcsref02Piece)) (p1 : Tree) (r0 : (List GSemvcsref02Piece)) : Prop := ∀ (K : Ctx), au K [] → Go Tryz.prog K (bodyPost Tryz.prog Tryz.f106 (SP K (fun u G => u = .sl 1 ∧ G = ⟨2, [(1, .row 103 2 (List.map GSemvcsref02Piece.w r0))]⟩))) (.code (cE (cB (cE (cB (cE (cB (cE (cB (cE (cB (cE (cB (cE (cB (cE (cB (cE (cB (cE (cB (cE (cB (cE (cB (cE (cB (cE (cB (cK (cB (cA (cB (cB (ae Tryz.f106))))))))))))))))))))))))))))))))))) [.blk 0, .seq (cB (cB (cB (ae Tryz.f106))))] 365 (mkF 365 0 [(0, .sl 0), (3, .box (ai p1) 0), (11, .int .i64 p1.kind)]) ⟨1, [(0, .row 103 2 (List.map GSemvcsref02Piece.w p0))]⟩
def jw (m : Nat) (p0 : (List GSemvcsref02Piece)) (p1 : Tree) (r0 : (List GSemvcsref02Piece)) : Prop := ∀ (K : Ctx), au K [] → Go Tryz.prog K (bodyPost Tryz.prog Tryz.f106 (SP K (fun u G => u = .sl 1 ∧ G = ⟨2, [(1, .row 103 2 (List.map GSemvcsref02Piece.w r0))]⟩))) (.code (cT (cB (cE (cB (cE (cB (cE (cB (cE (cB (cE (cB (cE (cB (cE (cB (cE (cB (cE (cB (cE (cB (cE (cB (cE (cB (cE (cB (cE (cB (cK (cB (cA (cB (cB (ae Tryz.f106))))))))))))))))))))))))))))))))))))) [.blk 0, .seq (cB (cB (cB (ae Tryz.f106))))] 365 (mkF 365 0 [(0, .sl 0), (3, .box (ai p1) 0)]) ⟨1, [(0, .row 103 2 (List.map GSemvcsref02Piece.w p0))]⟩
def jx (m : Nat) (p0 : (List GSemvcsref02Piece)) (p1 : Tree) (r0 : (List GSemvcsref02Piece)) : Prop := ∀ (K : Ctx), au K [] → Go Tryz.prog K (bodyPost Tryz.prog Tryz.f106 (SP K (fun u G => u = .sl 1 ∧ G = ⟨2, [(1, .row 103 2 (List.map GSemvcsref02Piece.w r0))]⟩))) (.code (cE (cB (cE (cB (cE (cB (cE (cB (cE (cB (cE (cB (cE (cB (cE (cB (cE (cB (cE (cB (cE (cB (cE (cB (cE (cB (cE (cB (cE (cB (cK (cB (cA (cB (cB (ae Tryz.f106))))))))))))))))))))))))))))))))))))) [.blk 0, .seq (cB (cB (cB (ae Tryz.f106))))] 365 (mkF 365 0 [(0, .sl 0), (3, .box (ai p1) 0), (11, .int .i64 p1.kind)]) ⟨1, [(0, .row 103 2 (List.map GSemvcsref02Piece.w p0))]⟩
def jB (m : Nat) (p0 : (List GSemvcsref02Piece)) (p1 : Tree) (r0 : (List GSemvcsref02Piece)) : Prop := ∀ (K : Ctx), au K [] → Go Tryz.prog K (bodyPost Tryz.prog Tryz.f106 (SP K (fun u G => u = .sl 1 ∧ G = ⟨2, [(1, .row 103 2 (List.map GSemvcsref02Piece.w r0))]⟩))) (.code (cT (cB (cE (cB (cE (cB (cE (cB (cE (cB (cE (cB (cE (cB (cE (cB (cE (cB (cE (cB (cE (cB (cE (cB (cE (cB (cE (cB (cE (cB (cE (cB (cK (cB (cA (cB (cB (ae Tryz.f106))))))))))))))))))))))))))))))))))))))) [.blk 0, .seq (cB (cB (cB (ae Tryz.f106))))] 365 (mkF 365 0 [(0, .sl 0), (3, .box (ai p1) 0)]) ⟨1, [(0, .row 103 2 (List.map GSemvcsref02Piece.w p0))]⟩
def jj (m : Nat) (p0 : (List GSemvcsref02Piece)) (p1 : Tree) (r0 : (List GSemvcsref02Piece)) : Prop := ∀ (K : Ctx), au K [] → Go Tryz.prog K (bodyPost Tryz.prog Tryz.f106 (SP K (fun u G => u = .sl 1 ∧ G = ⟨2, [(1, .row 103 2 (List.map GSemvcsref02Piece.w r0))]⟩))) (.code (cE (cB (cE (cB (cE (cB (cE (cB (cE (cB (cE (cB (cE (cB (cE (cB (cE (cB (cE (cB (cE (cB (cE (cB (cE (cB (cE (cB (cE (cB (cE (cB (cK (cB (cA (cB (cB (ae Tryz.f106))))))))))))))))))))))))))))))))))))))) [.blk 0, .seq (cB (cB (cB (ae Tryz.f106))))] 365 (mkF 365 0 [(0, .sl 0), (3, .box (ai p1) 0), (11, .int .i64 p1.kind)]) ⟨1, [(0, .row 103 2 (List.map GSemvcsref02Piece.w p0))]⟩
def jH (m : Nat) (p0 : (List GSemvcsref02Piece)) (p1 : Tree) (r0 : (List GSemvcsref02Piece)) : Prop := ∀ (K : Ctx), au K [] → Go Tryz.prog K (bodyPost Tryz.prog Tryz.f106 (SP K (fun u G => u = .sl 1 ∧ G = ⟨2, [(1, .row 103 2 (List.map GSemvcsref02Piece.w r0))]⟩))) (.code (cT (cB (cE (cB (cE (cB (cE (cB (cE (cB (cE (cB (cE (cB (cE (cB (cE (cB (cE (cB (cE (cB (cE (cB (cE (cB (cE (cB (cE (cB (cE (cB (cE (cB (cK (cB (cA (cB (cB (ae Tryz.f106))))))))))))))))))))))))))))))))))))))))) [.blk 0, .seq (cB (cB (cB (ae Tryz.f106))))] 365 (mkF 365 0 [(0, .sl 0), (3, .box (ai p1) 0)]) ⟨1, [(0, .row 103 2 (List.map GSemvcsref02Piece.w p0))]⟩
def jy (m : Nat) (p0 : (List GSemvcsref02Piece)) (p1 : Tree) (r0 : (List GSemvcsref02Piece)) : Prop := ∀ (K : Ctx), au K [] → Go Tryz.prog K (bodyPost Tryz.prog Tryz.f106 (SP K (fun u G => u = .sl 1 ∧ G = ⟨2, [(1, .row 103 2 (List.map GSemvcsref02Piece.w r0))]⟩))) (.code (cE (cB (cE (cB (cE (cB (cE (cB (cE (cB (cE (cB (cE (cB (cE (cB (cE (cB (cE (cB (cE (cB (cE (cB (cE (cB (cE (cB (cE (cB (cE (cB (cE (cB (cK (cB (cA (cB (cB (ae Tryz.f106))))))))))))))))))))))))))))))))))))))))) [.blk 0, .seq (cB (cB (cB (ae Tryz.f106))))] 365 (mkF 365 0 [(0, .sl 0), (3, .box (ai p1) 0), (11, .int .i64 p1.kind)]) ⟨1, [(0, .row 103 2 (List.map GSemvcsref02Piece.w p0))]⟩
def jn (m : Nat) (p0 : (List GSemvcsref02Piece)) (p1 : Tree) (r0 : (List GSemvcsref02Piece)) : Prop := ∀ (K : Ctx), au K [] → Go Tryz.prog K (bodyPost Tryz.prog Tryz.f106 (SP K (fun u G => u = .sl 1 ∧ G = ⟨2, [(1, .row 103 2 (List.map GSemvcsref02Piece.w r0))]⟩))) (.code (cT (cB (cE (cB (cE (cB (cE (cB (cE (cB (cE (cB (cE (cB (cE (cB (cE (cB (cE (cB (cE (cB (cE (cB (cE (cB (cE (cB (cE (cB (cE (cB (cE (cB (cE (cB (cK (cB (cA (cB (cB (ae Tryz.f106))))))))))))))))))))))))))))))))))))))))))) [.blk 0, .seq (cB (cB (cB (ae Tryz.f106))))] 365 (mkF 365 0 [(0, .sl 0), (3, .box (ai p1) 0)]) ⟨1, [(0, .row 103 2 (List.map GSemvcsref02Piece.w p0))]⟩
theorem ax (m : Nat) (p0 : (List GSemvcsref02Piece)) (p1 : Tree) (r0 : (List GSemvcsref02Piece)) (h : ((p1.kind = 1) → j5 m p0 p1 r0) ∧ ((p1.kind ≠ 1) → kh m p0 p1 r0)) : ay p0 p1 r0 := by
 refine ak 365 [] Tryz.func106 rfl rfl rfl (aA rfl) fun K hK => ?_
 refine gR 3 rfl ?_
 refine gFP 1 rfl rfl rfl rfl ?_
 refine gR 8 rfl ?_
 refine gV 9 (.int .i64 ((p1.kids.length : Nat) : Int)) rfl (bc (aD _)) rfl ?_
 refine gLB 8 rfl (aD _) fun hl115 => ?_
 refine gR 17 rfl ?_
 refine gB 12 rfl rfl rfl (fun hd => ?_) (fun hd => ?_)
 refine gT 13 rfl hd rfl ?_
 replace hd := (eq_of_beq hd)
 replace h := h.1 hd
 refine gR 1 rfl ?_
 exact gJ (h K hK) [0] [] rfl hK ⟨⟨_, rfl, .rfl⟩, ⟨_, rfl, .rfl⟩, ⟨_, rfl, .rfl⟩, trivial⟩ ⟨⟨_, rfl, ⟨rfl, rfl, (an _ GSemvcsref02Piece.w (fun _ => rfl) p0).symm⟩⟩, trivial⟩ rfl
 refine gF 13 rfl hd rfl ?_
 replace hd := (ne_of_beq_false hd)
 replace h := h.2 hd
 refine gR 1 rfl ?_
 exact gJ (h K hK) [0] [] rfl hK ⟨⟨_, rfl, .rfl⟩, ⟨_, rfl, .rfl⟩, ⟨_, rfl, .rfl⟩, ⟨_, rfl, .rfl⟩, trivial⟩ ⟨⟨_, rfl, ⟨rfl, rfl, (an _ GSemvcsref02Piece.w (fun _ => rfl) p0).symm⟩⟩, trivial⟩ rfl
theorem nJ (m : Nat) (p0 : (List GSemvcsref02Piece)) (p1 : Tree) (r0 : (List GSemvcsref02Piece)) (h : ∃ (s1_1 : (List UInt8)), aj p1 0 s1_1 ∧ ∃ (s1_2 : (List UInt8)), aj p1 1 s1_2 ∧ (p0 ++ [(GSemvcsref02Piece.mk s1_1 [109, 111, 100, 117, 108, 101]), (GSemvcsref02Piece.mk s1_2 p1.text)]).length ≤ 1000000000 ∧ dx m p1 (p0 ++ [(GSemvcsref02Piece.mk s1_1 [109, 111, 100, 117, 108, 101]), (GSemvcsref02Piece.mk s1_2 p1.text)]) 0 r0) : j5 (m + 1) p0 p1 r0 := by
 intro K hK
 refine gR 1 rfl ?_
 refine gDs [] 12 12 rfl (by kernel_rfl) (by kernel_rfl) ?_
 refine gDr [(0, 2), (1, 2), (4, 2), (6, 2), (7, 2)] (by kernel_rfl) rfl rfl ?_
 obtain ⟨s1_1, hs116, h⟩ := h
 refine br 2 hs116 (by kernel_rfl) rfl (by kernel_rfl) rfl rfl .rfl rfl rfl ?_
 refine gDr [(3, 2)] (by kernel_rfl) rfl rfl ?_
 obtain ⟨s1_2, hs117, h⟩ := h
 refine br 5 hs117 (by kernel_rfl) rfl (by kernel_rfl) rfl rfl .rfl rfl rfl ?_
 refine gDr [(8, 0), (9, 0)] (by kernel_rfl) rfl rfl ?_
 obtain ⟨hb, h⟩ := h
 refine cW 10 (.repl 0 (.row 103 2 (List.map GSemvcsref02Piece.w (p0 ++ [(GSemvcsref02Piece.mk s1_1 [109, 111, 100, 117, 108, 101]), (GSemvcsref02Piece.mk s1_2 p1.text)])))) rfl (by kernel_rfl) (bN aa rfl rfl rfl rfl rfl (List.map_append (f := GSemvcsref02Piece.w) (l₁ := p0) (l₂ := [(GSemvcsref02Piece.mk s1_1 [109, 111, 100, 117, 108, 101]), (GSemvcsref02Piece.mk s1_2 p1.text)])).symm (by rw [aV]; exact hb)) (okR rfl) rfl (by kernel_rfl) rfl rfl ?_
 refine gDr [(11, 0)] (by kernel_rfl) rfl rfl ?_
 refine gDe (by kernel_rfl) ?_
 refine gR 8 rfl ?_
 refine go_loop m ?_
 exact gJ (h K _ hK (by omega)) [2] [] rfl hK ⟨⟨_, rfl, .rfl⟩, ⟨_, rfl, .rfl⟩, ⟨_, rfl, .rfl⟩, ⟨_, rfl, .rfl⟩, trivial⟩ ⟨⟨_, rfl, ⟨rfl, rfl, (an _ GSemvcsref02Piece.w (fun _ => rfl) (p0 ++ [(GSemvcsref02Piece.mk s1_1 [109, 111, 100, 117, 108, 101]), (GSemvcsref02Piece.mk s1_2 p1.text)])).symm⟩⟩, trivial⟩ rfl
theorem aB (m : Nat) (p0 : (List GSemvcsref02Piece)) (p1 : Tree) (r0 : (List GSemvcsref02Piece)) (h : ((p1.kind = 2) → j7 m p0 p1 r0) ∧ ((p1.kind ≠ 2) → j9 m p0 p1 r0)) : kh (m + 1) p0 p1 r0 := by
 intro K hK
 refine gR 6 rfl ?_
 refine gB 43 rfl rfl rfl (fun hd => ?_) (fun hd => ?_)
 refine gT 44 rfl hd rfl ?_
 replace hd := (eq_of_beq hd)
 replace h := h.1 hd
 refine gR 1 rfl ?_
 exact gJ (h K hK) [0] [] rfl hK ⟨⟨_, rfl, .rfl⟩, ⟨_, rfl, .rfl⟩, ⟨_, rfl, .rfl⟩, trivial⟩ ⟨⟨_, rfl, ⟨rfl, rfl, (an _ GSemvcsref02Piece.w (fun _ => rfl) p0).symm⟩⟩, trivial⟩ rfl
 refine gF 44 rfl hd rfl ?_
 replace hd := (ne_of_beq_false hd)
 replace h := h.2 hd
 refine gR 1 rfl ?_
 exact gJ (h K hK) [0] [] rfl hK ⟨⟨_, rfl, .rfl⟩, ⟨_, rfl, .rfl⟩, ⟨_, rfl, .rfl⟩, ⟨_, rfl, .rfl⟩, trivial⟩ ⟨⟨_, rfl, ⟨rfl, rfl, (an _ GSemvcsref02Piece.w (fun _ => rfl) p0).symm⟩⟩, trivial⟩ rfl
theorem jE (m : Nat) (p1 : Tree) (l3v1 : (List GSemvcsref02Piece)) (i3v2 : Nat) (r0 : (List GSemvcsref02Piece)) (h : ((i3v2 < p1.kids.length) → ∃ (t3_1 : Tree), p1.kids[i3v2]? = some t3_1 ∧ ∃ (r3_2 : (List GSemvcsref02Piece)), ay l3v1 t3_1 r3_2 ∧ i3v2 + 1 ≤ 9223372036854775807 ∧ dx m p1 r3_2 (i3v2 + 1) r0) ∧ ((¬ i3v2 < p1.kids.length) → ∃ (s3_3 : (List UInt8)), aj p1 2 s3_3 ∧ (l3v1 ++ [(GSemvcsref02Piece.mk s3_3 [])]).length ≤ 1000000000 ∧ (l3v1 ++ [(GSemvcsref02Piece.mk s3_3 [])]) = r0)) : dx (m + 1) p1 l3v1 i3v2 r0 := by
 intro K j1 hK hj1
 obtain ⟨j1, rfl⟩ : ∃ j, j1 = j + 1 := ⟨j1 - 1, by omega⟩
 refine gR 8 rfl ?_
 refine gB 27 rfl rfl rfl (fun hd => ?_) (fun hd => ?_)
 replace hd := (cO hd)
 replace h := h.1 hd
 refine gR 10 rfl ?_
 obtain ⟨t3_1, hxt3_1, h⟩ := h
 refine gY (aK (am hxt3_1) aa rfl rfl rfl rfl) rfl rfl ?_
 refine gR 1 rfl ?_
 obtain ⟨r3_2, hs118, h⟩ := h
 refine gC hs118 [0] (by kernel_rfl) rfl rfl .rfl ⟨⟨_, rfl, ⟨rfl, rfl, (an _ GSemvcsref02Piece.w (fun _ => rfl) l3v1).symm⟩⟩, trivial⟩ rfl ?_
 rintro _ _ ⟨rfl, rfl⟩
 refine gHR 2 (List.map GSemvcsref02Piece.w r3_2) rfl (an _ GSemvcsref02Piece.w (fun _ => rfl) r3_2) rfl ?_
 refine gR 6 rfl ?_
 obtain ⟨hb, h⟩ := h
 refine gR 1 rfl ?_
 refine gV 29 (.int .i64 ((i3v2 + 1 : Nat) : Int)) rfl (ar (by omega) (by omega)) rfl ?_
 refine gR 2 rfl ?_
 refine aq ?_
 exact gJ (h K _ hK (by omega)) [2] [] rfl hK ⟨⟨_, rfl, .rfl⟩, ⟨_, rfl, .rfl⟩, ⟨_, rfl, .rfl⟩, ⟨_, rfl, .rfl⟩, trivial⟩ ⟨⟨_, rfl, ⟨rfl, rfl, (an _ GSemvcsref02Piece.w (fun _ => rfl) r3_2).symm⟩⟩, trivial⟩ rfl
 replace hd := (cI hd)
 replace h := h.2 hd
 refine gR 3 rfl ?_
 refine av ?_
 refine gR 6 rfl ?_
 obtain ⟨s3_3, hs119, h⟩ := h
 refine gC0 hs119 (by kernel_rfl) rfl rfl .rfl rfl ?_
 refine gR 2 rfl ?_
 obtain ⟨hb, h⟩ := h
 refine gDo (.repl 0 (.row 103 2 (List.map GSemvcsref02Piece.w (l3v1 ++ [(GSemvcsref02Piece.mk s3_3 [])])))) (bN aa rfl rfl rfl rfl rfl (apM GSemvcsref02Piece.w l3v1 (GSemvcsref02Piece.mk s3_3 [])) (by rw [aV]; exact hb)) (okR rfl) rfl rfl rfl ?_
 refine gR 6 rfl ?_
 subst h
 refine ab (F' := (mkF 365 0 [(4, .sl 1)])) (H' := ⟨2, [(1, .row 103 2 (List.map GSemvcsref02Piece.w (l3v1 ++ [(GSemvcsref02Piece.mk s3_3 [])])))]⟩) [1000, 2] [] rfl hK ⟨⟨_, rfl, .rfl⟩, trivial⟩ ⟨⟨_, rfl, ⟨rfl, rfl, (an _ GSemvcsref02Piece.w (fun _ => rfl) (l3v1 ++ [(GSemvcsref02Piece.mk s3_3 [])])).symm⟩⟩, trivial⟩ rfl ?_
 exact aC [] aa (rs := [.tmp 4]) rfl rfl ⟨rfl, rfl⟩
theorem nK (m : Nat) (p0 : (List GSemvcsref02Piece)) (p1 : Tree) (r0 : (List GSemvcsref02Piece)) (h : ∃ (s4_1 : (List UInt8)), aj p1 0 s4_1 ∧ ∃ (s4_2 : (List UInt8)), aj p1 1 s4_2 ∧ ∃ (s4_3 : (List UInt8)), aj p1 2 s4_3 ∧ (p0 ++ [(GSemvcsref02Piece.mk s4_1 [100, 101, 102]), (GSemvcsref02Piece.mk s4_2 p1.text), (GSemvcsref02Piece.mk s4_3 [40])]).length ≤ 1000000000 ∧ InI (((p1.kids.length : Nat) : Int) - 2) ∧ ∃ (r4_4 : (List GSemvcsref02Piece)), dO (p0 ++ [(GSemvcsref02Piece.mk s4_1 [100, 101, 102]), (GSemvcsref02Piece.mk s4_2 p1.text), (GSemvcsref02Piece.mk s4_3 [40])]) p1 0 (((p1.kids.length : Nat) : Int) - 2) 6 r4_4 ∧ ∃ (s4_5 : (List UInt8)), aj p1 3 s4_5 ∧ ∃ (s4_6 : (List UInt8)), aj p1 4 s4_6 ∧ (r4_4 ++ [(GSemvcsref02Piece.mk s4_5 [41]), (GSemvcsref02Piece.mk s4_6 [58])]).length ≤ 1000000000 ∧ InI (((p1.kids.length : Nat) : Int) - 2) ∧ ∃ (k4_7 : Nat), (((p1.kids.length : Nat) : Int) - 2) = ((k4_7 : Nat) : Int) ∧ ∃ (t4_8 : Tree), p1.kids[k4_7]? = some t4_8 ∧ ∃ (r4_9 : (List GSemvcsref02Piece)), ay (r4_4 ++ [(GSemvcsref02Piece.mk s4_5 [41]), (GSemvcsref02Piece.mk s4_6 [58])]) t4_8 r4_9 ∧ ∃ (s4_10 : (List UInt8)), aj p1 5 s4_10 ∧ (r4_9 ++ [(GSemvcsref02Piece.mk s4_10 [61])]).length ≤ 1000000000 ∧ InI (((p1.kids.length : Nat) : Int) - 1) ∧ ∃ (k4_11 : Nat), (((p1.kids.length : Nat) : Int) - 1) = ((k4_11 : Nat) : Int) ∧ ∃ (t4_12 : Tree), p1.kids[k4_11]? = some t4_12 ∧ ∃ (r4_13 : (List GSemvcsref02Piece)), ay (r4_9 ++ [(GSemvcsref02Piece.mk s4_10 [61])]) t4_12 r4_13 ∧ r4_13 = r0) : j7 (m + 1) p0 p1 r0 := by
 intro K hK
 refine gR 1 rfl ?_
 refine gDs [] 15 15 rfl (by kernel_rfl) (by kernel_rfl) ?_
 refine gDr [(0, 2), (1, 2), (4, 2), (6, 2), (7, 2), (9, 2)] (by kernel_rfl) rfl rfl ?_
 obtain ⟨s4_1, hs120, h⟩ := h
 refine br 2 hs120 (by kernel_rfl) rfl (by kernel_rfl) rfl rfl .rfl rfl rfl ?_
 refine gDr [(3, 2)] (by kernel_rfl) rfl rfl ?_
 obtain ⟨s4_2, hs121, h⟩ := h
 refine br 5 hs121 (by kernel_rfl) rfl (by kernel_rfl) rfl rfl .rfl rfl rfl ?_
 refine gDr [(8, 2)] (by kernel_rfl) rfl rfl ?_
 obtain ⟨s4_3, hs122, h⟩ := h
 refine br 10 hs122 (by kernel_rfl) rfl (by kernel_rfl) rfl rfl .rfl rfl rfl ?_
 refine gDr [(11, 0), (12, 0)] (by kernel_rfl) rfl rfl ?_
 obtain ⟨hb, h⟩ := h
 refine cW 13 (.repl 0 (.row 103 2 (List.map GSemvcsref02Piece.w (p0 ++ [(GSemvcsref02Piece.mk s4_1 [100, 101, 102]), (GSemvcsref02Piece.mk s4_2 p1.text), (GSemvcsref02Piece.mk s4_3 [40])])))) rfl (by kernel_rfl) (bN aa rfl rfl rfl rfl rfl (List.map_append (f := GSemvcsref02Piece.w) (l₁ := p0) (l₂ := [(GSemvcsref02Piece.mk s4_1 [100, 101, 102]), (GSemvcsref02Piece.mk s4_2 p1.text), (GSemvcsref02Piece.mk s4_3 [40])])).symm (by rw [aV]; exact hb)) (okR rfl) rfl (by kernel_rfl) rfl rfl ?_
 refine gDr [(14, 0)] (by kernel_rfl) rfl rfl ?_
 refine gDe (by kernel_rfl) ?_
 refine gR 6 rfl ?_
 obtain ⟨hb, h⟩ := h
 refine gR 1 rfl ?_
 refine gV 62 (.int .i64 (((p1.kids.length : Nat) : Int) - 2)) rfl (ar hb rfl) rfl ?_
 obtain ⟨r4_4, hs123, h⟩ := h
 refine gC hs123 [2] (by kernel_rfl) rfl rfl .rfl ⟨⟨_, rfl, ⟨rfl, rfl, (an _ GSemvcsref02Piece.w (fun _ => rfl) (p0 ++ [(GSemvcsref02Piece.mk s4_1 [100, 101, 102]), (GSemvcsref02Piece.mk s4_2 p1.text), (GSemvcsref02Piece.mk s4_3 [40])])).symm⟩⟩, trivial⟩ rfl ?_
 rintro _ _ ⟨rfl, rfl⟩
 refine gHR 4 (List.map GSemvcsref02Piece.w r4_4) rfl (an _ GSemvcsref02Piece.w (fun _ => rfl) r4_4) rfl ?_
 refine gR 4 rfl ?_
 refine gDs [] 10 10 rfl (by kernel_rfl) (by kernel_rfl) ?_
 refine gDr [(0, 2), (1, 2), (4, 2)] (by kernel_rfl) rfl rfl ?_
 obtain ⟨s4_5, hs124, h⟩ := h
 refine br 2 hs124 (by kernel_rfl) rfl (by kernel_rfl) rfl rfl .rfl rfl rfl ?_
 refine gDr [(3, 2)] (by kernel_rfl) rfl rfl ?_
 obtain ⟨s4_6, hs125, h⟩ := h
 refine br 5 hs125 (by kernel_rfl) rfl (by kernel_rfl) rfl rfl .rfl rfl rfl ?_
 refine gDr [(6, 0), (7, 0)] (by kernel_rfl) rfl rfl ?_
 obtain ⟨hb, h⟩ := h
 refine cW 8 (.repl 4 (.row 103 2 (List.map GSemvcsref02Piece.w (r4_4 ++ [(GSemvcsref02Piece.mk s4_5 [41]), (GSemvcsref02Piece.mk s4_6 [58])])))) rfl (by kernel_rfl) (bN aa rfl rfl rfl rfl rfl (List.map_append (f := GSemvcsref02Piece.w) (l₁ := r4_4) (l₂ := [(GSemvcsref02Piece.mk s4_5 [41]), (GSemvcsref02Piece.mk s4_6 [58])])).symm (by rw [aV]; exact hb)) (okR rfl) rfl (by kernel_rfl) rfl rfl ?_
 refine gDr [(9, 0)] (by kernel_rfl) rfl rfl ?_
 refine gDe (by kernel_rfl) ?_
 refine gR 2 rfl ?_
 refine gDs [] 14 14 rfl (by kernel_rfl) (by kernel_rfl) ?_
 refine gDr [(0, 2), (1, 2), (2, 2), (3, 2)] (by kernel_rfl) rfl rfl ?_
 obtain ⟨hb, h⟩ := h
 refine gDr [(4, 2)] (by kernel_rfl) rfl rfl ?_
 refine gV 77 (.int .i64 (((p1.kids.length : Nat) : Int) - 2)) rfl (ar hb rfl) rfl ?_
 obtain ⟨k4_7, ek4_7, h⟩ := h
 refine gV 77 (.int .i64 ((k4_7 : Nat) : Int)) rfl (cw ek4_7) rfl ?_
 obtain ⟨t4_8, hxt4_8, h⟩ := h
 refine gYd 5 rfl (by kernel_rfl) (aK (am hxt4_8) aa rfl rfl rfl rfl) rfl rfl ?_
 refine gDr [(6, 2), (8, 2)] (by kernel_rfl) rfl rfl ?_
 obtain ⟨r4_9, hs126, h⟩ := h
 refine gDC 7 hs126 [6] (by kernel_rfl) rfl (by kernel_rfl) rfl rfl .rfl ⟨⟨_, rfl, ⟨rfl, rfl, (an _ GSemvcsref02Piece.w (fun _ => rfl) (r4_4 ++ [(GSemvcsref02Piece.mk s4_5 [41]), (GSemvcsref02Piece.mk s4_6 [58])])).symm⟩⟩, trivial⟩ (by kernel_rfl) rfl ?_
 rintro _ _ ⟨rfl, rfl⟩
 refine gHR 8 (List.map GSemvcsref02Piece.w r4_9) rfl (an _ GSemvcsref02Piece.w (fun _ => rfl) r4_9) rfl ?_
 obtain ⟨s4_10, hs127, h⟩ := h
 refine br 9 hs127 (by kernel_rfl) rfl (by kernel_rfl) rfl rfl .rfl rfl rfl ?_
 refine gDr [(10, 0), (11, 0)] (by kernel_rfl) rfl rfl ?_
 obtain ⟨hb, h⟩ := h
 refine cW 12 (.repl 8 (.row 103 2 (List.map GSemvcsref02Piece.w (r4_9 ++ [(GSemvcsref02Piece.mk s4_10 [61])])))) rfl (by kernel_rfl) (bN aa rfl rfl rfl rfl rfl (apM GSemvcsref02Piece.w r4_9 (GSemvcsref02Piece.mk s4_10 [61])) (by rw [aV]; exact hb)) (okR rfl) rfl (by kernel_rfl) rfl rfl ?_
 refine gDr [(13, 0)] (by kernel_rfl) rfl rfl ?_
 refine gDe (by kernel_rfl) ?_
 refine gR 1 rfl ?_
 refine ab (F' := (mkF 365 0 [(0, .sl 0), (3, .box (ai p1) 0), (5, .int .i64 ((p1.kids.length : Nat) : Int))])) (H' := ⟨1, [(0, .row 103 2 (List.map GSemvcsref02Piece.w (r4_9 ++ [(GSemvcsref02Piece.mk s4_10 [61])])))]⟩) [10] [] rfl hK ⟨⟨_, rfl, .rfl⟩, ⟨_, rfl, .rfl⟩, ⟨_, rfl, .rfl⟩, trivial⟩ ⟨⟨_, rfl, ⟨rfl, rfl, (an _ GSemvcsref02Piece.w (fun _ => rfl) (r4_9 ++ [(GSemvcsref02Piece.mk s4_10 [61])])).symm⟩⟩, trivial⟩ rfl ?_
 refine gR 6 rfl ?_
 obtain ⟨hb, h⟩ := h
 refine gR 1 rfl ?_
 refine gV 90 (.int .i64 (((p1.kids.length : Nat) : Int) - 1)) rfl (ar hb rfl) rfl ?_
 obtain ⟨k4_11, ek4_11, h⟩ := h
 refine gV 90 (.int .i64 ((k4_11 : Nat) : Int)) rfl (cw ek4_11) rfl ?_
 obtain ⟨t4_12, hxt4_12, h⟩ := h
 refine gY (aK (am hxt4_12) aa rfl rfl rfl rfl) rfl rfl ?_
 refine gR 1 rfl ?_
 obtain ⟨r4_13, hs128, h⟩ := h
 refine gC hs128 [0] (by kernel_rfl) rfl rfl .rfl ⟨⟨_, rfl, ⟨rfl, rfl, (an _ GSemvcsref02Piece.w (fun _ => rfl) (r4_9 ++ [(GSemvcsref02Piece.mk s4_10 [61])])).symm⟩⟩, trivial⟩ rfl ?_
 rintro _ _ ⟨rfl, rfl⟩
 refine gHR 2 (List.map GSemvcsref02Piece.w r4_13) rfl (an _ GSemvcsref02Piece.w (fun _ => rfl) r4_13) rfl ?_
 refine gR 6 rfl ?_
 subst h
 refine ab (F' := (mkF 365 0 [(4, .sl 1)])) (H' := ⟨2, [(1, .row 103 2 (List.map GSemvcsref02Piece.w r4_13))]⟩) [1000, 2] [] rfl hK ⟨⟨_, rfl, .rfl⟩, trivial⟩ ⟨⟨_, rfl, ⟨rfl, rfl, (an _ GSemvcsref02Piece.w (fun _ => rfl) r4_13).symm⟩⟩, trivial⟩ rfl ?_
 exact aC [] aa (rs := [.tmp 4]) rfl rfl ⟨rfl, rfl⟩
theorem aE (m : Nat) (p0 : (List GSemvcsref02Piece)) (p1 : Tree) (r0 : (List GSemvcsref02Piece)) (h : ((p1.kind = 3) → j8 m p0 p1 r0) ∧ ((p1.kind ≠ 3) → kf m p0 p1 r0)) : j9 (m + 1) p0 p1 r0 := by
 intro K hK
 refine gR 6 rfl ?_
 refine gB 94 rfl rfl rfl (fun hd => ?_) (fun hd => ?_)
 refine gT 95 rfl hd rfl ?_
 replace hd := (eq_of_beq hd)
 replace h := h.1 hd
 refine gR 1 rfl ?_
 exact gJ (h K hK) [0] [] rfl hK ⟨⟨_, rfl, .rfl⟩, ⟨_, rfl, .rfl⟩, trivial⟩ ⟨⟨_, rfl, ⟨rfl, rfl, (an _ GSemvcsref02Piece.w (fun _ => rfl) p0).symm⟩⟩, trivial⟩ rfl
 refine gF 95 rfl hd rfl ?_
 replace hd := (ne_of_beq_false hd)
 replace h := h.2 hd
 refine gR 1 rfl ?_
 exact gJ (h K hK) [0] [] rfl hK ⟨⟨_, rfl, .rfl⟩, ⟨_, rfl, .rfl⟩, ⟨_, rfl, .rfl⟩, ⟨_, rfl, .rfl⟩, trivial⟩ ⟨⟨_, rfl, ⟨rfl, rfl, (an _ GSemvcsref02Piece.w (fun _ => rfl) p0).symm⟩⟩, trivial⟩ rfl
theorem nE (m : Nat) (p0 : (List GSemvcsref02Piece)) (p1 : Tree) (r0 : (List GSemvcsref02Piece)) (h : ∃ (s6_1 : (List UInt8)), aj p1 0 s6_1 ∧ ∃ (s6_2 : (List UInt8)), aj p1 1 s6_2 ∧ ∃ (s6_3 : (List UInt8)), aj p1 2 s6_3 ∧ (p0 ++ [(GSemvcsref02Piece.mk s6_1 [116, 121, 112, 101]), (GSemvcsref02Piece.mk s6_2 p1.text), (GSemvcsref02Piece.mk s6_3 [61])]).length ≤ 1000000000 ∧ ∃ (t6_4 : Tree), p1.kids[0]? = some t6_4 ∧ ∃ (r6_5 : (List GSemvcsref02Piece)), ay (p0 ++ [(GSemvcsref02Piece.mk s6_1 [116, 121, 112, 101]), (GSemvcsref02Piece.mk s6_2 p1.text), (GSemvcsref02Piece.mk s6_3 [61])]) t6_4 r6_5 ∧ r6_5 = r0) : j8 (m + 1) p0 p1 r0 := by
 intro K hK
 refine gR 1 rfl ?_
 refine gDs [] 15 15 rfl (by kernel_rfl) (by kernel_rfl) ?_
 refine gDr [(0, 2), (1, 2), (4, 2), (6, 2), (7, 2), (9, 2)] (by kernel_rfl) rfl rfl ?_
 obtain ⟨s6_1, hs129, h⟩ := h
 refine br 2 hs129 (by kernel_rfl) rfl (by kernel_rfl) rfl rfl .rfl rfl rfl ?_
 refine gDr [(3, 2)] (by kernel_rfl) rfl rfl ?_
 obtain ⟨s6_2, hs130, h⟩ := h
 refine br 5 hs130 (by kernel_rfl) rfl (by kernel_rfl) rfl rfl .rfl rfl rfl ?_
 refine gDr [(8, 2)] (by kernel_rfl) rfl rfl ?_
 obtain ⟨s6_3, hs131, h⟩ := h
 refine br 10 hs131 (by kernel_rfl) rfl (by kernel_rfl) rfl rfl .rfl rfl rfl ?_
 refine gDr [(11, 0), (12, 0)] (by kernel_rfl) rfl rfl ?_
 obtain ⟨hb, h⟩ := h
 refine cW 13 (.repl 0 (.row 103 2 (List.map GSemvcsref02Piece.w (p0 ++ [(GSemvcsref02Piece.mk s6_1 [116, 121, 112, 101]), (GSemvcsref02Piece.mk s6_2 p1.text), (GSemvcsref02Piece.mk s6_3 [61])])))) rfl (by kernel_rfl) (bN aa rfl rfl rfl rfl rfl (List.map_append (f := GSemvcsref02Piece.w) (l₁ := p0) (l₂ := [(GSemvcsref02Piece.mk s6_1 [116, 121, 112, 101]), (GSemvcsref02Piece.mk s6_2 p1.text), (GSemvcsref02Piece.mk s6_3 [61])])).symm (by rw [aV]; exact hb)) (okR rfl) rfl (by kernel_rfl) rfl rfl ?_
 refine gDr [(14, 0)] (by kernel_rfl) rfl rfl ?_
 refine gDe (by kernel_rfl) ?_
 refine gR 6 rfl ?_
 obtain ⟨t6_4, hxt6_4, h⟩ := h
 refine gY (aK (am hxt6_4) aa rfl rfl rfl rfl) rfl rfl ?_
 refine gR 1 rfl ?_
 obtain ⟨r6_5, hs132, h⟩ := h
 refine gC hs132 [2] (by kernel_rfl) rfl rfl .rfl ⟨⟨_, rfl, ⟨rfl, rfl, (an _ GSemvcsref02Piece.w (fun _ => rfl) (p0 ++ [(GSemvcsref02Piece.mk s6_1 [116, 121, 112, 101]), (GSemvcsref02Piece.mk s6_2 p1.text), (GSemvcsref02Piece.mk s6_3 [61])])).symm⟩⟩, trivial⟩ rfl ?_
 rintro _ _ ⟨rfl, rfl⟩
 refine gHR 4 (List.map GSemvcsref02Piece.w r6_5) rfl (an _ GSemvcsref02Piece.w (fun _ => rfl) r6_5) rfl ?_
 refine gR 6 rfl ?_
 subst h
 refine ab (F' := (mkF 365 0 [(4, .sl 1)])) (H' := ⟨2, [(1, .row 103 2 (List.map GSemvcsref02Piece.w r6_5))]⟩) [1000, 4] [] rfl hK ⟨⟨_, rfl, .rfl⟩, trivial⟩ ⟨⟨_, rfl, ⟨rfl, rfl, (an _ GSemvcsref02Piece.w (fun _ => rfl) r6_5).symm⟩⟩, trivial⟩ rfl ?_
 exact aC [] aa (rs := [.tmp 4]) rfl rfl ⟨rfl, rfl⟩
theorem aH (m : Nat) (p0 : (List GSemvcsref02Piece)) (p1 : Tree) (r0 : (List GSemvcsref02Piece)) (h : ((p1.kind = 4) → kl m p0 p1 r0) ∧ ((p1.kind ≠ 4) → km m p0 p1 r0)) : kf (m + 1) p0 p1 r0 := by
 intro K hK
 refine gR 6 rfl ?_
 refine gB 116 rfl rfl rfl (fun hd => ?_) (fun hd => ?_)
 refine gT 117 rfl hd rfl ?_
 replace hd := (eq_of_beq hd)
 replace h := h.1 hd
 refine gR 1 rfl ?_
 exact gJ (h K hK) [0] [] rfl hK ⟨⟨_, rfl, .rfl⟩, ⟨_, rfl, .rfl⟩, trivial⟩ ⟨⟨_, rfl, ⟨rfl, rfl, (an _ GSemvcsref02Piece.w (fun _ => rfl) p0).symm⟩⟩, trivial⟩ rfl
 refine gF 117 rfl hd rfl ?_
 replace hd := (ne_of_beq_false hd)
 replace h := h.2 hd
 refine gR 1 rfl ?_
 exact gJ (h K hK) [0] [] rfl hK ⟨⟨_, rfl, .rfl⟩, ⟨_, rfl, .rfl⟩, ⟨_, rfl, .rfl⟩, ⟨_, rfl, .rfl⟩, trivial⟩ ⟨⟨_, rfl, ⟨rfl, rfl, (an _ GSemvcsref02Piece.w (fun _ => rfl) p0).symm⟩⟩, trivial⟩ rfl
theorem nH (m : Nat) (p0 : (List GSemvcsref02Piece)) (p1 : Tree) (r0 : (List GSemvcsref02Piece)) (h : ∃ (s8_1 : (List UInt8)), aj p1 0 s8_1 ∧ ∃ (s8_2 : (List UInt8)), aj p1 1 s8_2 ∧ (p0 ++ [(GSemvcsref02Piece.mk s8_1 p1.text), (GSemvcsref02Piece.mk s8_2 [58])]).length ≤ 1000000000 ∧ ∃ (t8_3 : Tree), p1.kids[0]? = some t8_3 ∧ ∃ (r8_4 : (List GSemvcsref02Piece)), ay (p0 ++ [(GSemvcsref02Piece.mk s8_1 p1.text), (GSemvcsref02Piece.mk s8_2 [58])]) t8_3 r8_4 ∧ r8_4 = r0) : kl (m + 1) p0 p1 r0 := by
 intro K hK
 refine gR 1 rfl ?_
 refine gDs [] 12 12 rfl (by kernel_rfl) (by kernel_rfl) ?_
 refine gDr [(0, 2), (1, 2), (3, 2), (4, 2), (6, 2)] (by kernel_rfl) rfl rfl ?_
 obtain ⟨s8_1, hs133, h⟩ := h
 refine br 2 hs133 (by kernel_rfl) rfl (by kernel_rfl) rfl rfl .rfl rfl rfl ?_
 refine gDr [(5, 2)] (by kernel_rfl) rfl rfl ?_
 obtain ⟨s8_2, hs134, h⟩ := h
 refine br 7 hs134 (by kernel_rfl) rfl (by kernel_rfl) rfl rfl .rfl rfl rfl ?_
 refine gDr [(8, 0), (9, 0)] (by kernel_rfl) rfl rfl ?_
 obtain ⟨hb, h⟩ := h
 refine cW 10 (.repl 0 (.row 103 2 (List.map GSemvcsref02Piece.w (p0 ++ [(GSemvcsref02Piece.mk s8_1 p1.text), (GSemvcsref02Piece.mk s8_2 [58])])))) rfl (by kernel_rfl) (bN aa rfl rfl rfl rfl rfl (List.map_append (f := GSemvcsref02Piece.w) (l₁ := p0) (l₂ := [(GSemvcsref02Piece.mk s8_1 p1.text), (GSemvcsref02Piece.mk s8_2 [58])])).symm (by rw [aV]; exact hb)) (okR rfl) rfl (by kernel_rfl) rfl rfl ?_
 refine gDr [(11, 0)] (by kernel_rfl) rfl rfl ?_
 refine gDe (by kernel_rfl) ?_
 refine gR 6 rfl ?_
 obtain ⟨t8_3, hxt8_3, h⟩ := h
 refine gY (aK (am hxt8_3) aa rfl rfl rfl rfl) rfl rfl ?_
 refine gR 1 rfl ?_
 obtain ⟨r8_4, hs135, h⟩ := h
 refine gC hs135 [2] (by kernel_rfl) rfl rfl .rfl ⟨⟨_, rfl, ⟨rfl, rfl, (an _ GSemvcsref02Piece.w (fun _ => rfl) (p0 ++ [(GSemvcsref02Piece.mk s8_1 p1.text), (GSemvcsref02Piece.mk s8_2 [58])])).symm⟩⟩, trivial⟩ rfl ?_
 rintro _ _ ⟨rfl, rfl⟩
 refine gHR 4 (List.map GSemvcsref02Piece.w r8_4) rfl (an _ GSemvcsref02Piece.w (fun _ => rfl) r8_4) rfl ?_
 refine gR 6 rfl ?_
 subst h
 refine ab (F' := (mkF 365 0 [(4, .sl 1)])) (H' := ⟨2, [(1, .row 103 2 (List.map GSemvcsref02Piece.w r8_4))]⟩) [1000, 4] [] rfl hK ⟨⟨_, rfl, .rfl⟩, trivial⟩ ⟨⟨_, rfl, ⟨rfl, rfl, (an _ GSemvcsref02Piece.w (fun _ => rfl) r8_4).symm⟩⟩, trivial⟩ rfl ?_
 exact aC [] aa (rs := [.tmp 4]) rfl rfl ⟨rfl, rfl⟩
theorem aL (m : Nat) (p0 : (List GSemvcsref02Piece)) (p1 : Tree) (r0 : (List GSemvcsref02Piece)) (h : ((p1.kind = 5) → ∃ (s9_1 : (List UInt8)), aj p1 0 s9_1 ∧ (p0 ++ [(GSemvcsref02Piece.mk s9_1 [73, 110, 116])]).length ≤ 1000000000 ∧ (p0 ++ [(GSemvcsref02Piece.mk s9_1 [73, 110, 116])]) = r0) ∧ ((p1.kind ≠ 5) → j3 m p0 p1 r0)) : km (m + 1) p0 p1 r0 := by
 intro K hK
 refine gR 6 rfl ?_
 refine gB 135 rfl rfl rfl (fun hd => ?_) (fun hd => ?_)
 refine gT 136 rfl hd rfl ?_
 replace hd := (eq_of_beq hd)
 replace h := h.1 hd
 refine gR 5 rfl ?_
 obtain ⟨s9_1, hs136, h⟩ := h
 refine gC0 hs136 (by kernel_rfl) rfl rfl .rfl rfl ?_
 refine gR 2 rfl ?_
 obtain ⟨hb, h⟩ := h
 refine gDo (.repl 0 (.row 103 2 (List.map GSemvcsref02Piece.w (p0 ++ [(GSemvcsref02Piece.mk s9_1 [73, 110, 116])])))) (bN aa rfl rfl rfl rfl rfl (apM GSemvcsref02Piece.w p0 (GSemvcsref02Piece.mk s9_1 [73, 110, 116])) (by rw [aV]; exact hb)) (okR rfl) rfl rfl rfl ?_
 refine gR 6 rfl ?_
 subst h
 refine ab (F' := (mkF 365 0 [(4, .sl 1)])) (H' := ⟨2, [(1, .row 103 2 (List.map GSemvcsref02Piece.w (p0 ++ [(GSemvcsref02Piece.mk s9_1 [73, 110, 116])])))]⟩) [1000, 2] [] rfl hK ⟨⟨_, rfl, .rfl⟩, trivial⟩ ⟨⟨_, rfl, ⟨rfl, rfl, (an _ GSemvcsref02Piece.w (fun _ => rfl) (p0 ++ [(GSemvcsref02Piece.mk s9_1 [73, 110, 116])])).symm⟩⟩, trivial⟩ rfl ?_
 exact aC [] aa (rs := [.tmp 4]) rfl rfl ⟨rfl, rfl⟩
 refine gF 136 rfl hd rfl ?_
 replace hd := (ne_of_beq_false hd)
 replace h := h.2 hd
 refine gR 1 rfl ?_
 exact gJ (h K hK) [0] [] rfl hK ⟨⟨_, rfl, .rfl⟩, ⟨_, rfl, .rfl⟩, ⟨_, rfl, .rfl⟩, ⟨_, rfl, .rfl⟩, trivial⟩ ⟨⟨_, rfl, ⟨rfl, rfl, (an _ GSemvcsref02Piece.w (fun _ => rfl) p0).symm⟩⟩, trivial⟩ rfl
theorem aR (m : Nat) (p0 : (List GSemvcsref02Piece)) (p1 : Tree) (r0 : (List GSemvcsref02Piece)) (h : ((p1.kind = 6) → ∃ (s10_1 : (List UInt8)), aj p1 0 s10_1 ∧ (p0 ++ [(GSemvcsref02Piece.mk s10_1 [84, 101, 120, 116])]).length ≤ 1000000000 ∧ (p0 ++ [(GSemvcsref02Piece.mk s10_1 [84, 101, 120, 116])]) = r0) ∧ ((p1.kind ≠ 6) → jI m p0 p1 r0)) : j3 (m + 1) p0 p1 r0 := by
 intro K hK
 refine gR 6 rfl ?_
 refine gB 143 rfl rfl rfl (fun hd => ?_) (fun hd => ?_)
 refine gT 144 rfl hd rfl ?_
 replace hd := (eq_of_beq hd)
 replace h := h.1 hd
 refine gR 5 rfl ?_
 obtain ⟨s10_1, hs137, h⟩ := h
 refine gC0 hs137 (by kernel_rfl) rfl rfl .rfl rfl ?_
 refine gR 2 rfl ?_
 obtain ⟨hb, h⟩ := h
 refine gDo (.repl 0 (.row 103 2 (List.map GSemvcsref02Piece.w (p0 ++ [(GSemvcsref02Piece.mk s10_1 [84, 101, 120, 116])])))) (bN aa rfl rfl rfl rfl rfl (apM GSemvcsref02Piece.w p0 (GSemvcsref02Piece.mk s10_1 [84, 101, 120, 116])) (by rw [aV]; exact hb)) (okR rfl) rfl rfl rfl ?_
 refine gR 6 rfl ?_
 subst h
 refine ab (F' := (mkF 365 0 [(4, .sl 1)])) (H' := ⟨2, [(1, .row 103 2 (List.map GSemvcsref02Piece.w (p0 ++ [(GSemvcsref02Piece.mk s10_1 [84, 101, 120, 116])])))]⟩) [1000, 2] [] rfl hK ⟨⟨_, rfl, .rfl⟩, trivial⟩ ⟨⟨_, rfl, ⟨rfl, rfl, (an _ GSemvcsref02Piece.w (fun _ => rfl) (p0 ++ [(GSemvcsref02Piece.mk s10_1 [84, 101, 120, 116])])).symm⟩⟩, trivial⟩ rfl ?_
 exact aC [] aa (rs := [.tmp 4]) rfl rfl ⟨rfl, rfl⟩
 refine gF 144 rfl hd rfl ?_
 replace hd := (ne_of_beq_false hd)
 replace h := h.2 hd
 refine gR 1 rfl ?_
 exact gJ (h K hK) [0] [] rfl hK ⟨⟨_, rfl, .rfl⟩, ⟨_, rfl, .rfl⟩, ⟨_, rfl, .rfl⟩, ⟨_, rfl, .rfl⟩, trivial⟩ ⟨⟨_, rfl, ⟨rfl, rfl, (an _ GSemvcsref02Piece.w (fun _ => rfl) p0).symm⟩⟩, trivial⟩ rfl
theorem aT (m : Nat) (p0 : (List GSemvcsref02Piece)) (p1 : Tree) (r0 : (List GSemvcsref02Piece)) (h : ((p1.kind = 7) → ∃ (s11_1 : (List UInt8)), aj p1 0 s11_1 ∧ (p0 ++ [(GSemvcsref02Piece.mk s11_1 [66, 111, 111, 108])]).length ≤ 1000000000 ∧ (p0 ++ [(GSemvcsref02Piece.mk s11_1 [66, 111, 111, 108])]) = r0) ∧ ((p1.kind ≠ 7) → jk m p0 p1 r0)) : jI (m + 1) p0 p1 r0 := by
 intro K hK
 refine gR 6 rfl ?_
 refine gB 151 rfl rfl rfl (fun hd => ?_) (fun hd => ?_)
 refine gT 152 rfl hd rfl ?_
 replace hd := (eq_of_beq hd)
 replace h := h.1 hd
 refine gR 5 rfl ?_
 obtain ⟨s11_1, hs138, h⟩ := h
 refine gC0 hs138 (by kernel_rfl) rfl rfl .rfl rfl ?_
 refine gR 2 rfl ?_
 obtain ⟨hb, h⟩ := h
 refine gDo (.repl 0 (.row 103 2 (List.map GSemvcsref02Piece.w (p0 ++ [(GSemvcsref02Piece.mk s11_1 [66, 111, 111, 108])])))) (bN aa rfl rfl rfl rfl rfl (apM GSemvcsref02Piece.w p0 (GSemvcsref02Piece.mk s11_1 [66, 111, 111, 108])) (by rw [aV]; exact hb)) (okR rfl) rfl rfl rfl ?_
 refine gR 6 rfl ?_
 subst h
 refine ab (F' := (mkF 365 0 [(4, .sl 1)])) (H' := ⟨2, [(1, .row 103 2 (List.map GSemvcsref02Piece.w (p0 ++ [(GSemvcsref02Piece.mk s11_1 [66, 111, 111, 108])])))]⟩) [1000, 2] [] rfl hK ⟨⟨_, rfl, .rfl⟩, trivial⟩ ⟨⟨_, rfl, ⟨rfl, rfl, (an _ GSemvcsref02Piece.w (fun _ => rfl) (p0 ++ [(GSemvcsref02Piece.mk s11_1 [66, 111, 111, 108])])).symm⟩⟩, trivial⟩ rfl ?_
 exact aC [] aa (rs := [.tmp 4]) rfl rfl ⟨rfl, rfl⟩
 refine gF 152 rfl hd rfl ?_
 replace hd := (ne_of_beq_false hd)
 replace h := h.2 hd
 refine gR 1 rfl ?_
 exact gJ (h K hK) [0] [] rfl hK ⟨⟨_, rfl, .rfl⟩, ⟨_, rfl, .rfl⟩, ⟨_, rfl, .rfl⟩, ⟨_, rfl, .rfl⟩, trivial⟩ ⟨⟨_, rfl, ⟨rfl, rfl, (an _ GSemvcsref02Piece.w (fun _ => rfl) p0).symm⟩⟩, trivial⟩ rfl
theorem aW (m : Nat) (p0 : (List GSemvcsref02Piece)) (p1 : Tree) (r0 : (List GSemvcsref02Piece)) (h : ((p1.kind = 13) → ∃ (s12_1 : (List UInt8)), aj p1 0 s12_1 ∧ (p0 ++ [(GSemvcsref02Piece.mk s12_1 [116, 114, 117, 101])]).length ≤ 1000000000 ∧ (p0 ++ [(GSemvcsref02Piece.mk s12_1 [116, 114, 117, 101])]) = r0) ∧ ((p1.kind ≠ 13) → jF m p0 p1 r0)) : jk (m + 1) p0 p1 r0 := by
 intro K hK
 refine gR 6 rfl ?_
 refine gB 159 rfl rfl rfl (fun hd => ?_) (fun hd => ?_)
 refine gT 160 rfl hd rfl ?_
 replace hd := (eq_of_beq hd)
 replace h := h.1 hd
 refine gR 5 rfl ?_
 obtain ⟨s12_1, hs139, h⟩ := h
 refine gC0 hs139 (by kernel_rfl) rfl rfl .rfl rfl ?_
 refine gR 2 rfl ?_
 obtain ⟨hb, h⟩ := h
 refine gDo (.repl 0 (.row 103 2 (List.map GSemvcsref02Piece.w (p0 ++ [(GSemvcsref02Piece.mk s12_1 [116, 114, 117, 101])])))) (bN aa rfl rfl rfl rfl rfl (apM GSemvcsref02Piece.w p0 (GSemvcsref02Piece.mk s12_1 [116, 114, 117, 101])) (by rw [aV]; exact hb)) (okR rfl) rfl rfl rfl ?_
 refine gR 6 rfl ?_
 subst h
 refine ab (F' := (mkF 365 0 [(4, .sl 1)])) (H' := ⟨2, [(1, .row 103 2 (List.map GSemvcsref02Piece.w (p0 ++ [(GSemvcsref02Piece.mk s12_1 [116, 114, 117, 101])])))]⟩) [1000, 2] [] rfl hK ⟨⟨_, rfl, .rfl⟩, trivial⟩ ⟨⟨_, rfl, ⟨rfl, rfl, (an _ GSemvcsref02Piece.w (fun _ => rfl) (p0 ++ [(GSemvcsref02Piece.mk s12_1 [116, 114, 117, 101])])).symm⟩⟩, trivial⟩ rfl ?_
 exact aC [] aa (rs := [.tmp 4]) rfl rfl ⟨rfl, rfl⟩
 refine gF 160 rfl hd rfl ?_
 replace hd := (ne_of_beq_false hd)
 replace h := h.2 hd
 refine gR 1 rfl ?_
 exact gJ (h K hK) [0] [] rfl hK ⟨⟨_, rfl, .rfl⟩, ⟨_, rfl, .rfl⟩, ⟨_, rfl, .rfl⟩, ⟨_, rfl, .rfl⟩, trivial⟩ ⟨⟨_, rfl, ⟨rfl, rfl, (an _ GSemvcsref02Piece.w (fun _ => rfl) p0).symm⟩⟩, trivial⟩ rfl
theorem aZ (m : Nat) (p0 : (List GSemvcsref02Piece)) (p1 : Tree) (r0 : (List GSemvcsref02Piece)) (h : ((p1.kind = 14) → ∃ (s13_1 : (List UInt8)), aj p1 0 s13_1 ∧ (p0 ++ [(GSemvcsref02Piece.mk s13_1 [102, 97, 108, 115, 101])]).length ≤ 1000000000 ∧ (p0 ++ [(GSemvcsref02Piece.mk s13_1 [102, 97, 108, 115, 101])]) = r0) ∧ ((p1.kind ≠ 14) → js m p0 p1 r0)) : jF (m + 1) p0 p1 r0 := by
 intro K hK
 refine gR 6 rfl ?_
 refine gB 167 rfl rfl rfl (fun hd => ?_) (fun hd => ?_)
 refine gT 168 rfl hd rfl ?_
 replace hd := (eq_of_beq hd)
 replace h := h.1 hd
 refine gR 5 rfl ?_
 obtain ⟨s13_1, hs140, h⟩ := h
 refine gC0 hs140 (by kernel_rfl) rfl rfl .rfl rfl ?_
 refine gR 2 rfl ?_
 obtain ⟨hb, h⟩ := h
 refine gDo (.repl 0 (.row 103 2 (List.map GSemvcsref02Piece.w (p0 ++ [(GSemvcsref02Piece.mk s13_1 [102, 97, 108, 115, 101])])))) (bN aa rfl rfl rfl rfl rfl (apM GSemvcsref02Piece.w p0 (GSemvcsref02Piece.mk s13_1 [102, 97, 108, 115, 101])) (by rw [aV]; exact hb)) (okR rfl) rfl rfl rfl ?_
 refine gR 6 rfl ?_
 subst h
 refine ab (F' := (mkF 365 0 [(4, .sl 1)])) (H' := ⟨2, [(1, .row 103 2 (List.map GSemvcsref02Piece.w (p0 ++ [(GSemvcsref02Piece.mk s13_1 [102, 97, 108, 115, 101])])))]⟩) [1000, 2] [] rfl hK ⟨⟨_, rfl, .rfl⟩, trivial⟩ ⟨⟨_, rfl, ⟨rfl, rfl, (an _ GSemvcsref02Piece.w (fun _ => rfl) (p0 ++ [(GSemvcsref02Piece.mk s13_1 [102, 97, 108, 115, 101])])).symm⟩⟩, trivial⟩ rfl ?_
 exact aC [] aa (rs := [.tmp 4]) rfl rfl ⟨rfl, rfl⟩
 refine gF 168 rfl hd rfl ?_
 replace hd := (ne_of_beq_false hd)
 replace h := h.2 hd
 refine gR 1 rfl ?_
 exact gJ (h K hK) [0] [] rfl hK ⟨⟨_, rfl, .rfl⟩, ⟨_, rfl, .rfl⟩, ⟨_, rfl, .rfl⟩, ⟨_, rfl, .rfl⟩, trivial⟩ ⟨⟨_, rfl, ⟨rfl, rfl, (an _ GSemvcsref02Piece.w (fun _ => rfl) p0).symm⟩⟩, trivial⟩ rfl
theorem bf (m : Nat) (p0 : (List GSemvcsref02Piece)) (p1 : Tree) (r0 : (List GSemvcsref02Piece)) (h : ((p1.kind = 15) → ∃ (s14_1 : (List UInt8)), aj p1 0 s14_1 ∧ (p0 ++ [(GSemvcsref02Piece.mk s14_1 [63])]).length ≤ 1000000000 ∧ (p0 ++ [(GSemvcsref02Piece.mk s14_1 [63])]) = r0) ∧ ((p1.kind ≠ 15) → ju m p0 p1 r0)) : js (m + 1) p0 p1 r0 := by
 intro K hK
 refine gR 6 rfl ?_
 refine gB 175 rfl rfl rfl (fun hd => ?_) (fun hd => ?_)
 refine gT 176 rfl hd rfl ?_
 replace hd := (eq_of_beq hd)
 replace h := h.1 hd
 refine gR 5 rfl ?_
 obtain ⟨s14_1, hs141, h⟩ := h
 refine gC0 hs141 (by kernel_rfl) rfl rfl .rfl rfl ?_
 refine gR 2 rfl ?_
 obtain ⟨hb, h⟩ := h
 refine gDo (.repl 0 (.row 103 2 (List.map GSemvcsref02Piece.w (p0 ++ [(GSemvcsref02Piece.mk s14_1 [63])])))) (bN aa rfl rfl rfl rfl rfl (apM GSemvcsref02Piece.w p0 (GSemvcsref02Piece.mk s14_1 [63])) (by rw [aV]; exact hb)) (okR rfl) rfl rfl rfl ?_
 refine gR 6 rfl ?_
 subst h
 refine ab (F' := (mkF 365 0 [(4, .sl 1)])) (H' := ⟨2, [(1, .row 103 2 (List.map GSemvcsref02Piece.w (p0 ++ [(GSemvcsref02Piece.mk s14_1 [63])])))]⟩) [1000, 2] [] rfl hK ⟨⟨_, rfl, .rfl⟩, trivial⟩ ⟨⟨_, rfl, ⟨rfl, rfl, (an _ GSemvcsref02Piece.w (fun _ => rfl) (p0 ++ [(GSemvcsref02Piece.mk s14_1 [63])])).symm⟩⟩, trivial⟩ rfl ?_
 exact aC [] aa (rs := [.tmp 4]) rfl rfl ⟨rfl, rfl⟩
 refine gF 176 rfl hd rfl ?_
 replace hd := (ne_of_beq_false hd)
 replace h := h.2 hd
 refine gR 1 rfl ?_
 exact gJ (h K hK) [0] [] rfl hK ⟨⟨_, rfl, .rfl⟩, ⟨_, rfl, .rfl⟩, ⟨_, rfl, .rfl⟩, ⟨_, rfl, .rfl⟩, trivial⟩ ⟨⟨_, rfl, ⟨rfl, rfl, (an _ GSemvcsref02Piece.w (fun _ => rfl) p0).symm⟩⟩, trivial⟩ rfl
theorem bm (m : Nat) (p0 : (List GSemvcsref02Piece)) (p1 : Tree) (r0 : (List GSemvcsref02Piece)) (h : ((p1.kind = 8) → jr m p0 p1 r0) ∧ ((p1.kind ≠ 8) → jh m p0 p1 r0)) : ju (m + 1) p0 p1 r0 := by
 intro K hK
 refine gR 6 rfl ?_
 refine gB 183 rfl rfl rfl (fun hd => ?_) (fun hd => ?_)
 refine gT 184 rfl hd rfl ?_
 replace hd := (eq_of_beq hd)
 replace h := h.1 hd
 refine gR 1 rfl ?_
 exact gJ (h K hK) [0] [] rfl hK ⟨⟨_, rfl, .rfl⟩, ⟨_, rfl, .rfl⟩, trivial⟩ ⟨⟨_, rfl, ⟨rfl, rfl, (an _ GSemvcsref02Piece.w (fun _ => rfl) p0).symm⟩⟩, trivial⟩ rfl
 refine gF 184 rfl hd rfl ?_
 replace hd := (ne_of_beq_false hd)
 replace h := h.2 hd
 refine gR 1 rfl ?_
 exact gJ (h K hK) [0] [] rfl hK ⟨⟨_, rfl, .rfl⟩, ⟨_, rfl, .rfl⟩, ⟨_, rfl, .rfl⟩, ⟨_, rfl, .rfl⟩, trivial⟩ ⟨⟨_, rfl, ⟨rfl, rfl, (an _ GSemvcsref02Piece.w (fun _ => rfl) p0).symm⟩⟩, trivial⟩ rfl
theorem ni (m : Nat) (p0 : (List GSemvcsref02Piece)) (p1 : Tree) (r0 : (List GSemvcsref02Piece)) (h : ∃ (s16_1 : (List UInt8)), aj p1 0 s16_1 ∧ (p0 ++ [(GSemvcsref02Piece.mk s16_1 [91])]).length ≤ 1000000000 ∧ ∃ (t16_2 : Tree), p1.kids[0]? = some t16_2 ∧ ∃ (r16_3 : (List GSemvcsref02Piece)), ay (p0 ++ [(GSemvcsref02Piece.mk s16_1 [91])]) t16_2 r16_3 ∧ ∃ (s16_4 : (List UInt8)), aj p1 1 s16_4 ∧ (r16_3 ++ [(GSemvcsref02Piece.mk s16_4 [93])]).length ≤ 1000000000 ∧ (r16_3 ++ [(GSemvcsref02Piece.mk s16_4 [93])]) = r0) : jr (m + 1) p0 p1 r0 := by
 intro K hK
 refine gR 4 rfl ?_
 obtain ⟨s16_1, hs142, h⟩ := h
 refine gC0 hs142 (by kernel_rfl) rfl rfl .rfl rfl ?_
 refine gR 2 rfl ?_
 obtain ⟨hb, h⟩ := h
 refine gDo (.repl 0 (.row 103 2 (List.map GSemvcsref02Piece.w (p0 ++ [(GSemvcsref02Piece.mk s16_1 [91])])))) (bN aa rfl rfl rfl rfl rfl (apM GSemvcsref02Piece.w p0 (GSemvcsref02Piece.mk s16_1 [91])) (by rw [aV]; exact hb)) (okR rfl) rfl rfl rfl ?_
 refine gR 4 rfl ?_
 refine gDs [] 12 12 rfl (by kernel_rfl) (by kernel_rfl) ?_
 refine gDr [(0, 2), (1, 2), (2, 2)] (by kernel_rfl) rfl rfl ?_
 obtain ⟨t16_2, hxt16_2, h⟩ := h
 refine gYd 3 rfl (by kernel_rfl) (aK (am hxt16_2) aa rfl rfl rfl rfl) rfl rfl ?_
 refine gDr [(4, 2), (6, 2)] (by kernel_rfl) rfl rfl ?_
 obtain ⟨r16_3, hs143, h⟩ := h
 refine gDC 5 hs143 [2] (by kernel_rfl) rfl (by kernel_rfl) rfl rfl .rfl ⟨⟨_, rfl, ⟨rfl, rfl, (an _ GSemvcsref02Piece.w (fun _ => rfl) (p0 ++ [(GSemvcsref02Piece.mk s16_1 [91])])).symm⟩⟩, trivial⟩ (by kernel_rfl) rfl ?_
 rintro _ _ ⟨rfl, rfl⟩
 refine gHR 4 (List.map GSemvcsref02Piece.w r16_3) rfl (an _ GSemvcsref02Piece.w (fun _ => rfl) r16_3) rfl ?_
 obtain ⟨s16_4, hs144, h⟩ := h
 refine br 7 hs144 (by kernel_rfl) rfl (by kernel_rfl) rfl rfl .rfl rfl rfl ?_
 refine gDr [(8, 0), (9, 0)] (by kernel_rfl) rfl rfl ?_
 obtain ⟨hb, h⟩ := h
 refine cW 10 (.repl 4 (.row 103 2 (List.map GSemvcsref02Piece.w (r16_3 ++ [(GSemvcsref02Piece.mk s16_4 [93])])))) rfl (by kernel_rfl) (bN aa rfl rfl rfl rfl rfl (apM GSemvcsref02Piece.w r16_3 (GSemvcsref02Piece.mk s16_4 [93])) (by rw [aV]; exact hb)) (okR rfl) rfl (by kernel_rfl) rfl rfl ?_
 refine gDr [(11, 0)] (by kernel_rfl) rfl rfl ?_
 refine gDe (by kernel_rfl) ?_
 refine gR 4 rfl ?_
 subst h
 refine ab (F' := (mkF 365 0 [(4, .sl 1)])) (H' := ⟨2, [(1, .row 103 2 (List.map GSemvcsref02Piece.w (r16_3 ++ [(GSemvcsref02Piece.mk s16_4 [93])])))]⟩) [1000, 6] [] rfl hK ⟨⟨_, rfl, .rfl⟩, trivial⟩ ⟨⟨_, rfl, ⟨rfl, rfl, (an _ GSemvcsref02Piece.w (fun _ => rfl) (r16_3 ++ [(GSemvcsref02Piece.mk s16_4 [93])])).symm⟩⟩, trivial⟩ rfl ?_
 exact aC [] aa (rs := [.tmp 4]) rfl rfl ⟨rfl, rfl⟩
theorem bF (m : Nat) (p0 : (List GSemvcsref02Piece)) (p1 : Tree) (r0 : (List GSemvcsref02Piece)) (h : ((p1.kind = 16) → jm m p0 p1 r0) ∧ ((p1.kind ≠ 16) → jt m p0 p1 r0)) : jh (m + 1) p0 p1 r0 := by
 intro K hK
 refine gR 6 rfl ?_
 refine gB 202 rfl rfl rfl (fun hd => ?_) (fun hd => ?_)
 refine gT 203 rfl hd rfl ?_
 replace hd := (eq_of_beq hd)
 replace h := h.1 hd
 refine gR 1 rfl ?_
 exact gJ (h K hK) [0] [] rfl hK ⟨⟨_, rfl, .rfl⟩, ⟨_, rfl, .rfl⟩, ⟨_, rfl, .rfl⟩, trivial⟩ ⟨⟨_, rfl, ⟨rfl, rfl, (an _ GSemvcsref02Piece.w (fun _ => rfl) p0).symm⟩⟩, trivial⟩ rfl
 refine gF 203 rfl hd rfl ?_
 replace hd := (ne_of_beq_false hd)
 replace h := h.2 hd
 refine gR 1 rfl ?_
 exact gJ (h K hK) [0] [] rfl hK ⟨⟨_, rfl, .rfl⟩, ⟨_, rfl, .rfl⟩, ⟨_, rfl, .rfl⟩, ⟨_, rfl, .rfl⟩, trivial⟩ ⟨⟨_, rfl, ⟨rfl, rfl, (an _ GSemvcsref02Piece.w (fun _ => rfl) p0).symm⟩⟩, trivial⟩ rfl
theorem na (m : Nat) (p0 : (List GSemvcsref02Piece)) (p1 : Tree) (r0 : (List GSemvcsref02Piece)) (h : ∃ (s18_1 : (List UInt8)), aj p1 0 s18_1 ∧ ∃ (s18_2 : (List UInt8)), aj p1 1 s18_2 ∧ (p0 ++ [(GSemvcsref02Piece.mk s18_1 p1.text), (GSemvcsref02Piece.mk s18_2 [40])]).length ≤ 1000000000 ∧ ∃ (r18_3 : (List GSemvcsref02Piece)), dO (p0 ++ [(GSemvcsref02Piece.mk s18_1 p1.text), (GSemvcsref02Piece.mk s18_2 [40])]) p1 0 ((p1.kids.length : Nat) : Int) 3 r18_3 ∧ ∃ (s18_4 : (List UInt8)), aj p1 2 s18_4 ∧ (r18_3 ++ [(GSemvcsref02Piece.mk s18_4 [41])]).length ≤ 1000000000 ∧ (r18_3 ++ [(GSemvcsref02Piece.mk s18_4 [41])]) = r0) : jm (m + 1) p0 p1 r0 := by
 intro K hK
 refine gR 1 rfl ?_
 refine gDs [] 12 12 rfl (by kernel_rfl) (by kernel_rfl) ?_
 refine gDr [(0, 2), (1, 2), (3, 2), (4, 2), (6, 2)] (by kernel_rfl) rfl rfl ?_
 obtain ⟨s18_1, hs145, h⟩ := h
 refine br 2 hs145 (by kernel_rfl) rfl (by kernel_rfl) rfl rfl .rfl rfl rfl ?_
 refine gDr [(5, 2)] (by kernel_rfl) rfl rfl ?_
 obtain ⟨s18_2, hs146, h⟩ := h
 refine br 7 hs146 (by kernel_rfl) rfl (by kernel_rfl) rfl rfl .rfl rfl rfl ?_
 refine gDr [(8, 0), (9, 0)] (by kernel_rfl) rfl rfl ?_
 obtain ⟨hb, h⟩ := h
 refine cW 10 (.repl 0 (.row 103 2 (List.map GSemvcsref02Piece.w (p0 ++ [(GSemvcsref02Piece.mk s18_1 p1.text), (GSemvcsref02Piece.mk s18_2 [40])])))) rfl (by kernel_rfl) (bN aa rfl rfl rfl rfl rfl (List.map_append (f := GSemvcsref02Piece.w) (l₁ := p0) (l₂ := [(GSemvcsref02Piece.mk s18_1 p1.text), (GSemvcsref02Piece.mk s18_2 [40])])).symm (by rw [aV]; exact hb)) (okR rfl) rfl (by kernel_rfl) rfl rfl ?_
 refine gDr [(11, 0)] (by kernel_rfl) rfl rfl ?_
 refine gDe (by kernel_rfl) ?_
 refine gR 2 rfl ?_
 refine gDs [] 10 10 rfl (by kernel_rfl) (by kernel_rfl) ?_
 refine gDr [(0, 2), (1, 2), (2, 2), (4, 2)] (by kernel_rfl) rfl rfl ?_
 obtain ⟨r18_3, hs147, h⟩ := h
 refine gDC 3 hs147 [2] (by kernel_rfl) rfl (by kernel_rfl) rfl rfl .rfl ⟨⟨_, rfl, ⟨rfl, rfl, (an _ GSemvcsref02Piece.w (fun _ => rfl) (p0 ++ [(GSemvcsref02Piece.mk s18_1 p1.text), (GSemvcsref02Piece.mk s18_2 [40])])).symm⟩⟩, trivial⟩ (by kernel_rfl) rfl ?_
 rintro _ _ ⟨rfl, rfl⟩
 refine gHR 4 (List.map GSemvcsref02Piece.w r18_3) rfl (an _ GSemvcsref02Piece.w (fun _ => rfl) r18_3) rfl ?_
 obtain ⟨s18_4, hs148, h⟩ := h
 refine br 5 hs148 (by kernel_rfl) rfl (by kernel_rfl) rfl rfl .rfl rfl rfl ?_
 refine gDr [(6, 0), (7, 0)] (by kernel_rfl) rfl rfl ?_
 obtain ⟨hb, h⟩ := h
 refine cW 8 (.repl 4 (.row 103 2 (List.map GSemvcsref02Piece.w (r18_3 ++ [(GSemvcsref02Piece.mk s18_4 [41])])))) rfl (by kernel_rfl) (bN aa rfl rfl rfl rfl rfl (apM GSemvcsref02Piece.w r18_3 (GSemvcsref02Piece.mk s18_4 [41])) (by rw [aV]; exact hb)) (okR rfl) rfl (by kernel_rfl) rfl rfl ?_
 refine gDr [(9, 0)] (by kernel_rfl) rfl rfl ?_
 refine gDe (by kernel_rfl) ?_
 refine gR 4 rfl ?_
 subst h
 refine ab (F' := (mkF 365 0 [(4, .sl 1)])) (H' := ⟨2, [(1, .row 103 2 (List.map GSemvcsref02Piece.w (r18_3 ++ [(GSemvcsref02Piece.mk s18_4 [41])])))]⟩) [1000, 6] [] rfl hK ⟨⟨_, rfl, .rfl⟩, trivial⟩ ⟨⟨_, rfl, ⟨rfl, rfl, (an _ GSemvcsref02Piece.w (fun _ => rfl) (r18_3 ++ [(GSemvcsref02Piece.mk s18_4 [41])])).symm⟩⟩, trivial⟩ rfl ?_
 exact aC [] aa (rs := [.tmp 4]) rfl rfl ⟨rfl, rfl⟩
end Go.Proofs.YtiknldgpnhikhaaGreat
