/- Contracts of the functions that the law reaches, part 5. -/
import Derived.Test.YtaoiaeohojfdgaaGreatBb4
set_option linter.unusedVariables false
set_option linter.unusedSimpArgs false
namespace Go.Proofs.YtaoiaeohojfdgaaGreat
open Go.RowKit Lx Sx
set_option maxRecDepth 100000
set_option maxHeartbeats 1000000
def u8i (x : UInt8) : Int := x.toNat
section
variable {S : Nat → Prop} {w : World} {ρ : Nat → Option Value}
theorem CH : ∀ {l : List UInt8} {xs : List Value}, CRel S w ρ 1 (List.map (V.int .u8) (l.map u8i)) xs → xs = Lib.byteCells l
 | [], xs, h => by simp only [List.map_nil, CRel] at h; exact h
 | b :: r, xs, h => by
  simp only [List.map_cons, CRel, VRel] at h
  obtain ⟨x, ys, rfl, _, rfl, h4⟩ := h
  rw [CH h4]; rfl
theorem Au : ∀ l : List UInt8, CRel S w ρ 1 (List.map (V.int .u8) (l.map u8i)) (Lib.byteCells l)
 | [] => by simp only [List.map_nil, CRel]; rfl
 | b :: r => by
  simp only [List.map_cons, CRel]
  exact ⟨.int .u8 b.toNat, Lib.byteCells r, rfl, ⟨rfl, rfl⟩, by simp only [VRel]; rfl, Au r⟩
end
abbrev PrH (x l : List UInt8) : Hp := ⟨2, [(1, .row 5 1 (List.map (V.int .u8) (l.map u8i))), (0, .var 79 [.np 0, .sl 1, .str x])]⟩
theorem yW {S : Nat → Prop} {w : World} {ρ : Nat → Option Value} {x l : List UInt8} {b : Nat} (hr : HRel S w ρ (PrH x l).get) (hb : ρ 0 = some (.pointer (some ⟨b, 0, none⟩))) : ∃ p v, (p = .pointer none ∨ p = .pointer (some ⟨b, 0, none⟩)) ∧ ρ 1 = some v ∧ PrB b p v x w ∧ Buf v l w := by
 obtain ⟨b', cs, h1, hbk, hcs⟩ : fU S w ρ 0 (.var 79 [.np 0, .sl 1, .str x]) := hr.ob 0
 rw [hb] at h1
 simp only [Option.some.injEq, Value.pointer.injEq, Addr.mk.injEq, and_true] at h1
 subst h1
 simp only [LRel, VRel] at hcs
 obtain ⟨p, _, rfl, hp, v, _, rfl, ⟨hv, _⟩, z, _, rfl, rfl, rfl⟩ := hcs
 obtain ⟨v', ys, g1, hown, hc⟩ : fU S w ρ 1 (.row 5 1 (List.map (V.int .u8) (l.map u8i))) := hr.ob 1
 rw [hv] at g1
 cases g1
 have := CH hc
 subst this
 refine ⟨p, v, ?_, hv, hbk, by simpa using hown⟩
 rcases hp with h | ⟨b2, e1, e2⟩
 ·exact .inl h
 ·rw [hb] at e1; cases e1; exact .inr e2
theorem oL (x l : List UInt8) (i : Nat) : (PrH x l).get (i + 2) = .free := by
 unfold Hp.get
 split
 ·rename_i h; simp only [Nat.blt_eq] at h; omega
 ·rfl
theorem CD {x l s : List UInt8} (h : l.length + s.length ≤ 140737488355328) : df (l.map u8i) x s s.length () ((l ++ s).map u8i) x := fun S w ρ xs hr hx => by
  simp only [LRel, VRel] at hx
  obtain ⟨_, _, rfl, ⟨b, hb, rfl⟩, _, _, rfl, rfl, rfl⟩ := hx
  obtain ⟨p, v, hp, hv, hbk, hown⟩ := yW hr hb
  refine (xv hp hbk hown h).mono ?_
  rintro e w' ⟨rfl, v', k1, k2, k3, k4⟩
  have o0 : ∀ k, k = b → own ρ 0 ((PrH x l).get 0) k := fun k e => by rw [e]; exact hb
  have o1 : ∀ k, v.ownBlock = some k → own ρ 1 ((PrH x l).get 1) k := fun k e => ⟨v, hv, e⟩
  have hsz := k4.size
  have hlt := tI hbk
  have n0 : ∀ g, v'.ownBlock = some g → g ≠ b := fun g hg e => Lib.ownBlock_ne k2 k1 (by decide) (e ▸ hg)
  refine ⟨_, S, fun i => match i with | 0 => ρ 0 | 1 => some v' | _ => none, _, PrH x (l ++ s), rfl, ⟨rfl, rfl⟩, ⟨fun i => ?_, fun i k hk hs => ?_, fun i j k hi hj => ?_, fun k hk => Nat.lt_of_lt_of_le (hr.slt k hk) hsz⟩, ⟨k4.mono fun k e => ?_, fun _ h => h, fun _ h => .inl h, fun i k hk => ?_, fun i y hy => ?_⟩, by simp only [VRel, LRel]; exact ⟨_, rfl, _, _, rfl, rfl, _, _, rfl, ⟨rfl, rfl⟩, rfl⟩⟩
  · match i with
    | 0 => exact ⟨b, [.pointer (some ⟨b, 0, none⟩), v', .string ⟨x.toArray⟩], hb, k1, by
        simp only [LRel, VRel]
        refine ⟨_, _, rfl, .inr ⟨b, hb, rfl⟩, _, _, rfl, ⟨rfl, ?_⟩, _, _, rfl, rfl, rfl⟩
        rcases k2.2 with ⟨rfl, _⟩ | ⟨g, cap, cur, rfl, _⟩ <;> rfl⟩
    | 1 => exact ⟨v', _, rfl, by rw [List.length_map, List.length_map]; exact k2, Au _⟩
    | i + 2 => rw [oL]; rfl
  · match i with
    | 0 =>
      have hk' : k = b := by
        have : ρ 0 = some (.pointer (some ⟨k, 0, none⟩)) := hk
        rw [hb] at this; cases this; rfl
      exact hr.sep 0 k (o0 k hk') hs
    | 1 =>
      obtain ⟨q, e1, e2⟩ := hk
      cases e1
      rcases k3 k e2 with h1 | h1
      · exact hr.sep 1 k (o1 k h1) hs
      · have := hr.slt k hs; omega
    | i + 2 => rw [oL] at hk; exact hk
  · have z : ∀ k, own (fun i => match i with | 0 => ρ 0 | 1 => some v' | _ => none) 0 ((PrH x (l ++ s)).get 0) k → own (fun i => match i with | 0 => ρ 0 | 1 => some v' | _ => none) 1 ((PrH x (l ++ s)).get 1) k → False := fun k h0 h1 => by
      have : ρ 0 = some (.pointer (some ⟨k, 0, none⟩)) := h0
      rw [hb] at this
      cases this
      obtain ⟨q, e1, e2⟩ := h1
      cases e1
      exact n0 _ e2 rfl
    match i, j with
    | 0, 0 => rfl
    | 1, 1 => rfl
    | 0, 1 => exact (z k hi hj).elim
    | 1, 0 => exact (z k hj hi).elim
    | i + 2, _ => rw [oL] at hi; exact hi.elim
    | _, j + 2 => rw [oL] at hj; exact hj.elim
  · rcases e with e | e
    · exact ⟨0, o0 k e⟩
    · exact ⟨1, o1 k e⟩
  · match i with
    | 0 =>
      have : ρ 0 = some (.pointer (some ⟨k, 0, none⟩)) := hk
      exact .inl ⟨0, this⟩
    | 1 =>
      obtain ⟨q, e1, e2⟩ := hk
      cases e1
      rcases k3 k e2 with h1 | h1
      · exact .inl ⟨1, o1 k h1⟩
      · exact .inr h1
    | i + 2 => rw [oL] at hk; exact hk.elim
  · match i with
    | 0 => exact hy
    | 1 => cases hy
    | i + 2 => simp only [ru, oL, iI] at hy; cases hy
theorem ET (x l : List UInt8) : kf (l.map u8i) x l := fun S w ρ xs hr hx => by
 simp only [LRel, VRel] at hx
 obtain ⟨_, _, rfl, ⟨b, hb, rfl⟩, rfl⟩ := hx
 obtain ⟨p, v, hp, hv, hbk, hown⟩ := yW hr hb
 refine (uP hbk hown).mono ?_
 rintro e w' ⟨rfl, k4⟩
 have hsz := k4.size
 have hg : ∀ i k (ρ' : Nat → Option Value), ¬ own ρ' i ((⟨2, []⟩ : Hp).get i) k := fun i k ρ' h => by
  unfold Hp.get at h
  split at h <;> exact h
 refine ⟨_, S, fun i => match Nat.blt i 2 with | true => ρ i | false => none, _, ⟨2, []⟩, rfl, ⟨rfl, rfl⟩, ⟨fun i => ?_, fun i k hk => (hg _ _ _ hk).elim, fun i j k hi => (hg _ _ _ hi).elim, fun k hk => Nat.lt_of_lt_of_le (hr.slt k hk) hsz⟩, ⟨k4.mono fun k e => ?_, fun _ h => h, fun _ h => .inl h, fun i k hk => (hg _ _ _ hk).elim, fun i y hy => ?_⟩, by simp only [VRel]⟩
 ·unfold Hp.get
  split
  ·trivial
  ·rename_i h; simp only [fU, h]
 ·rcases e with e | e
  ·exact ⟨0, by rw [e]; exact hb⟩
  ·exact ⟨1, v, hv, e⟩
 ·match i with
  | 0 => exact hy
  | 1 => cases hy
  | i + 2 => simp only [ru, oL, iI] at hy; cases hy
def ah (last lead tok : List UInt8) : List UInt8 := if lead = [] ∧ last ≠ [] ∧ fusesT last tok = true then [32] else lead
abbrev WS := List UInt8 × List UInt8
def mg (lead tok : List UInt8) (s : WS) : WS := (tok, s.2 ++ ah s.1 lead tok ++ tok)
def bi (l : List Pce) (s : WS) : WS := l.foldl (fun s p => mg p.Lead p.Text s) s
theorem mc (s : WS) : bi [] s = s := rfl
theorem dT (p : Pce) (l : List Pce) (s : WS) : bi (p :: l) s = bi l (mg p.Lead p.Text s) := rfl
theorem dU (a b : List Pce) (s : WS) : bi (a ++ b) s = bi b (bi a s) := by simp [bi]
theorem sy : ∀ (r : List Pce) (s : WS), s.2.length ≤ (bi r s).2.length
 | [], s => Nat.le_refl _
 | p :: r, s => by
  have := sy r (mg p.Lead p.Text s)
  rw [dT]
  refine Nat.le_trans ?_ this
  simp only [mg, List.length_append]; omega
abbrev PtW (t : Tree) (s s' : WS) : Prop := aA (s.2.map u8i) s.1 t (s'.2.map u8i) s'.1
abbrev PpW (lead x : List UInt8) (s s' : WS) : Prop := an (s.2.map u8i) s.1 lead x (s'.2.map u8i) s'.1
theorem yd (a b : List UInt8) (ha : a.length ≤ 140737488355328) (hb : b.length ≤ 140737488355328) : sR a b (fusesT a b) := sum0_calls rfl rfl fun S w ρ xs hx => by
 simp only [LRel] at hx
 obtain ⟨x, ys, rfl, h1, y, zs, rfl, h2, rfl⟩ := hx
 simp only [VRel] at h1 h2; subst h1 h2
 exact (DW a b w ha hb).mono fun e w' ⟨h1, h2⟩ => ⟨_, h1, by simp only [VRel], sx h2⟩
theorem zf {lead x : List UInt8} {s : WS} (h : s.2.length + lead.length + x.length ≤ 140737488355328) : dc 1 (s.2.map u8i) s.1 x lead ((s.2 ++ lead ++ x).map u8i) x :=
 rL0_syntax_printer_put 0 _ _ _ _ _ _ ⟨_, _, _, _, CD (by omega), _, _, _, _, CD (by simp only [List.length_append]; omega), rfl, rfl⟩
theorem cH {lead x : List UInt8} {s : WS} {r : List Pce} (ho : s.1.length ≤ 140737488355328) (hN : (bi (⟨lead, x⟩ :: r) s).2.length ≤ 140737488355328) : PpW lead x s (mg lead x s) ∧ (mg lead x s).1.length ≤ 140737488355328 ∧ (bi r (mg lead x s)).2.length ≤ 140737488355328 := by
 have h1 := Nat.le_trans (sy r (mg lead x s)) hN
 simp only [mg, List.length_append] at h1
 refine ⟨?_, by show x.length ≤ 140737488355328; omega, hN⟩
 unfold mg ah at *
 by_cases h2 : lead = []
 ·by_cases h3 : s.1 = []
  ·rw [if_neg (fun h => h.2.1 h3)] at h1 ⊢
   exact fj 1 _ _ _ _ _ _ ⟨fun _ => ⟨fun h => absurd h3 h, fun _ => zf h1⟩, fun h => absurd h2 h⟩
  ·rcases Bool.eq_false_or_eq_true (fusesT s.1 x) with hf | hf
   ·rw [if_pos ⟨h2, h3, hf⟩] at h1 ⊢
    exact fj 1 _ _ _ _ _ _ ⟨fun _ => ⟨fun _ => ⟨_, yd _ _ ho (by omega), fun _ => zf h1, fun h => by rw [hf] at h; cases h⟩, fun h => absurd h h3⟩, fun h => absurd h2 h⟩
   ·rw [if_neg (fun h => by rw [hf] at h; cases h.2.2)] at h1 ⊢
    exact fj 1 _ _ _ _ _ _ ⟨fun _ => ⟨fun _ => ⟨_, yd _ _ ho (by omega), (fun h => by rw [hf] at h; cases h), fun _ => zf h1⟩, fun h => absurd h h3⟩, fun h => absurd h2 h⟩
 ·rw [if_neg (fun h => h2 h.1)] at h1 ⊢
  exact fj 1 _ _ _ _ _ _ ⟨fun h => absurd h h2, fun _ => zf h1⟩
def Tk (t : Tree) : Prop := ∀ s : WS, s.1.length ≤ 140737488355328 → (bi (pcT t) s).2.length ≤ 140737488355328 → PtW t s (bi (pcT t) s) ∧ (bi (pcT t) s).1.length ≤ 140737488355328
theorem nV {u : Tree} {s : WS} {r : List Pce} (hu : Tk u) (ho : s.1.length ≤ 140737488355328) (hN : (bi (pcT u ++ r) s).2.length ≤ 140737488355328) : PtW u s (bi (pcT u) s) ∧ (bi (pcT u) s).1.length ≤ 140737488355328 ∧ (bi r (bi (pcT u) s)).2.length ≤ 140737488355328 := by
 rw [dU] at hN
 obtain ⟨h1, h2⟩ := hu s ho (Nat.le_trans (sy r _) hN)
 exact ⟨h1, h2, hN⟩
theorem bz {ls : List (List UInt8)} {i : Nat} (h : i < ls.length) : ls[i]? = some (ls.getD i []) := by rw [List.getD_eq_getElem?_getD, List.getElem?_eq_getElem h]; rfl
theorem zo {p : Tree} {us : List Tree} {c : Nat} {s : WS} {r : List Pce} (hu : ∀ u ∈ us, Tk u) (hc : 1 ≤ c) (hc2 : c ≤ 10) (hl : c + us.length ≤ p.leads.length + 1) (hb : us.length ≤ 1000000000) (ho : s.1.length ≤ 140737488355328) (hN : (bi (aw p.leads c (pcTs us) 0 ++ r) s).2.length ≤ 140737488355328) :
  S_syntax_printer_list (s.2.map u8i) s.1 p us c ((bi (aw p.leads c (pcTs us) 0) s).2.map u8i) (bi (aw p.leads c (pcTs us) 0) s).1 ∧ (bi (aw p.leads c (pcTs us) 0) s).1.length ≤ 140737488355328 ∧ (bi r (bi (aw p.leads c (pcTs us) 0) s)).2.length ≤ 140737488355328 := by
 have loop : ∀ k i (s : WS), us.length - i ≤ k → s.1.length ≤ 140737488355328 → (bi (aw p.leads c (pcTs (us.drop i)) i) s).2.length ≤ 140737488355328 → cR (k + 1) p us c (s.2.map u8i) s.1 i ((bi (aw p.leads c (pcTs (us.drop i)) i) s).2.map u8i) (bi (aw p.leads c (pcTs (us.drop i)) i) s).1 ∧ (bi (aw p.leads c (pcTs (us.drop i)) i) s).1.length ≤ 140737488355328 := fun k => by
  have fin : ∀ m i (s : WS), ¬ i < us.length → s.1.length ≤ 140737488355328 → cR (m + 1) p us c (s.2.map u8i) s.1 i ((bi (aw p.leads c (pcTs (us.drop i)) i) s).2.map u8i) (bi (aw p.leads c (pcTs (us.drop i)) i) s).1 ∧ (bi (aw p.leads c (pcTs (us.drop i)) i) s).1.length ≤ 140737488355328 := fun m i s hi ho => by
   rw [List.drop_of_length_le (by omega)]
   exact ⟨gE m _ _ _ _ _ _ _ _ ⟨fun h => absurd h hi, fun _ => ⟨rfl, rfl⟩⟩, ho⟩
  induction k with
  | zero => intro i s hi ho _; exact fin 0 i s (by omega) ho
  | succ k ih =>
   intro i s hi ho hN
   rcases aN us i with ⟨u, hu', hlt⟩ | h'
   ·have tk := hu u (List.mem_of_getElem? hu')
    rw [cV hu'] at hN ⊢
    simp only [pcTs, aw] at hN ⊢
    by_cases h0 : 0 < i
    ·rw [if_pos h0, List.cons_append, List.nil_append] at hN ⊢
     obtain ⟨q1, o1, n1⟩ := cH ho hN
     obtain ⟨q2, o2, n2⟩ := nV tk o1 n1
     obtain ⟨q3, o3⟩ := ih (i + 1) _ (by omega) o2 n2
     rw [dT, dU]
     exact ⟨gE (k + 1) _ _ _ _ _ _ _ _ ⟨fun _ => ⟨u, hu', fun _ => ⟨by constructor <;> omega, by constructor <;> omega, c + i - 1, by omega, _, bz (by omega), _, _, q1, _, _, q2, by omega, q3⟩, fun h => absurd (by omega) h⟩, fun h => absurd hlt h⟩, o3⟩
    ·rw [if_neg h0, List.nil_append] at hN ⊢
     obtain ⟨q2, o2, n2⟩ := nV tk ho hN
     obtain ⟨q3, o3⟩ := ih (i + 1) _ (by omega) o2 n2
     rw [dU]
     exact ⟨gE (k + 1) _ _ _ _ _ _ _ _ ⟨fun _ => ⟨u, hu', fun h => absurd h (by omega), fun _ => ⟨_, _, q2, by omega, q3⟩⟩, fun h => absurd hlt h⟩, o3⟩
   ·exact fin _ i s h' ho
 rw [dU] at hN
 obtain ⟨h1, h2⟩ := loop us.length 0 s (by omega) ho (by rw [List.drop_zero]; exact Nat.le_trans (sy r _) hN)
 rw [List.drop_zero] at h1 h2
 exact ⟨pY (us.length + 1) _ _ _ _ _ _ _ h1, h2, hN⟩
section
variable {m : Nat} {t : Tree} {b b' : List Int} {l l' : List UInt8}
theorem tD (h : t.kind = 1 ∨ t.kind = 2 ∨ t.kind = 3 ∨ t.kind = 4) (k : fi b l t b' l') : aA b l t b' l' := by
 have d : cS 1 b l t true b' l' := kD 0 _ _ _ _ _ _ ⟨fun _ => ⟨_, _, k, rfl, rfl⟩, fun h => (by cases h)⟩
 refine rS_syntax_printer_tree 1 _ _ _ _ _ ⟨fun _ => d, fun h1 => ⟨fun _ => d, fun h2 => ⟨fun _ => d, fun h3 => ?_⟩⟩⟩
 rw [show (t.kind == 4) = true from beq_iff_eq.2 (by omega)]; exact d
theorem t0 (h : ¬ (t.kind = 1 ∨ t.kind = 2 ∨ t.kind = 3 ∨ t.kind = 4)) (k : eU m b l t b' l') : aA b l t b' l' :=
 rS_syntax_printer_tree (m + 1) _ _ _ _ _ ⟨fun e => absurd (.inl e) h, fun _ => ⟨fun e => absurd (.inr (.inl e)) h, fun _ => ⟨fun e => absurd (.inr (.inr (.inl e))) h, fun _ => kD m _ _ _ _ _ _ ⟨fun e => absurd (.inr (.inr (.inr (eq_of_beq e)))) h, fun _ => k⟩⟩⟩⟩
theorem t1 (h : t.kind ≠ 17) (k : eX m b l t b' l') : eU (m + 1) b l t b' l' := lb m _ _ _ _ _ ⟨fun e => absurd e h, fun _ => k⟩
theorem t2 (h : t.kind ≠ 8) (k : eQ m b l t b' l') : eX (m + 1) b l t b' l' := lh m _ _ _ _ _ ⟨fun e => absurd e h, fun _ => k⟩
theorem t4 (h : t.kind ≠ 16) (k : eT m b l t b' l') : eQ (m + 1) b l t b' l' := kH m _ _ _ _ _ ⟨fun e => absurd e h, fun _ => k⟩
theorem t6 (h : t.kind ≠ 18) (k : eM m b l t b' l') : eT (m + 1) b l t b' l' := kO m _ _ _ _ _ ⟨fun e => absurd e h, fun _ => k⟩
theorem t8 (h : t.kind ≠ 19) (k : eo m b l t b' l') : eM (m + 1) b l t b' l' := lj m _ _ _ _ _ ⟨fun e => absurd e h, fun _ => k⟩
theorem t10 (h : t.kind ≠ 20) (k : eu m b l t b' l') : eo (m + 1) b l t b' l' := jX m _ _ _ _ _ ⟨fun e => absurd e h, fun _ => k⟩
theorem t12 (h : t.kind ≠ 21) (k : gA m b l t b' l') : eu (m + 1) b l t b' l' := jZ m _ _ _ _ _ ⟨fun e => absurd e h, fun _ => k⟩
end
def fX (k : Int) (s : List UInt8) : List UInt8 :=
 if k = 5 then [73, 110, 116] else if k = 6 then [84, 101, 120, 116] else if k = 7 then [66, 111, 111, 108] else if k = 13 then [116, 114, 117, 101] else if k = 14 then [102, 97, 108, 115, 101] else if k = 15 then [63] else s
theorem CC (t : Tree) : nk t (fX t.kind t.text) := tM 0 _ _ (by
 unfold fX
 repeat' (refine And.intro (fun _ => ?_) (fun _ => ?_))
 all_goals simp [*])
theorem mt {k : Int} {n i : Int} {kk : Int} (h : dh k n i kk = true) : kk ≠ 1 := by
 intro e
 subst e
 unfold dh at h
 repeat' split at h
 all_goals (revert h; simp [cG, iH, jA])
theorem uv (x : List UInt8) (ls : List (List UInt8)) (gs : List (List Pce)) (a b : List Pce) : bc 2 x ls (gs ++ [a, b]) = ⟨ls.getD 0 [], [100, 101, 102]⟩ :: ⟨ls.getD 1 [], x⟩ :: ⟨ls.getD 2 [], [40]⟩ :: (aw ls 6 gs 0 ++ (⟨ls.getD 3 [], [41]⟩ :: ⟨ls.getD 4 [], [58]⟩ :: (a ++ (⟨ls.getD 5 [], [61]⟩ :: b)))) := by
 show ⟨ls.getD 0 [], [100, 101, 102]⟩ :: ⟨ls.getD 1 [], x⟩ :: ⟨ls.getD 2 [], [40]⟩ :: (aw ls 6 ((gs ++ [a, b]).take ((gs ++ [a, b]).length - 2)) 0 ++ (⟨ls.getD 3 [], [41]⟩ :: ⟨ls.getD 4 [], [58]⟩ :: ((gs ++ [a, b]).getD ((gs ++ [a, b]).length - 2) [] ++ (⟨ls.getD 5 [], [61]⟩ :: (gs ++ [a, b]).getD ((gs ++ [a, b]).length - 1) [])))) = _
 have h1 : (gs ++ [a, b]).length - 2 = gs.length := by simp
 have h2 : (gs ++ [a, b]).length - 1 = gs.length + 1 := by simp
 rw [h1, h2]
 simp [List.getD_eq_getElem?_getD]
theorem rj (a b : List Tree) : pcTs (a ++ b) = pcTs a ++ pcTs b := by simp [ku]
theorem qy {α : Type} : ∀ (l : List α), 0 < l.length → ∃ us a, l = us ++ [a]
 | [a], _ => ⟨[], a, rfl⟩
 | a :: b :: r, _ => by obtain ⟨us, c, e⟩ := qy (b :: r) (by simp); exact ⟨a :: us, c, by rw [e]; rfl⟩
theorem rV {t : Tree} (hs : shapeK t = true) : (t.kind = 2 → ∃ us a b, t.kids = us ++ [a, b]) ∧ (t.kind = 3 ∨ t.kind = 4 ∨ t.kind = 8 ∨ t.kind = 17 ∨ t.kind = 22 → ∃ a, t.kids = [a]) ∧ (t.kind = 19 → ∃ a b c, t.kids = [a, b, c]) ∧ (t.kind = 20 ∨ t.kind = 21 → ∃ a b, t.kids = [a, b]) := by
 have hn := bu hs
 refine ⟨fun h2 => ?_, fun h => List.length_eq_one_iff.1 (hn.2.2.1 h), fun h => ?_, fun h => ?_⟩
 ·obtain ⟨l1, b, e1⟩ := qy t.kids (by have := hn.1 h2; omega)
  obtain ⟨us, a, e2⟩ := qy l1 (by have := hn.1 h2; rw [e1, List.length_append] at this; simp at this; omega)
  exact ⟨us, a, b, by rw [e1, e2]; simp⟩
 ·exact match t.kids, hn.2.2.2.1 h with | [a, b, c], _ => ⟨a, b, c, rfl⟩
 ·exact match t.kids, hn.2.2.2.2 h with | [a, b], _ => ⟨a, b, rfl⟩
theorem dZ : ∀ {ks : List Tree} {i : Nat} {u : Tree}, leadedsT ks = true → ks[i]? = some u → leadedT u = true
 | [], i, u, h, hu => by simp at hu
 | t :: r, 0, u, h, hu => by
  simp only [leadedsT, Bool.and_eq_true] at h
  simp only [List.getElem?_cons_zero, Option.some.injEq] at hu
  subst hu; exact h.1
 | t :: r, i + 1, u, h, hu => by
  simp only [leadedsT, Bool.and_eq_true] at h
  exact dZ h.2 (by simpa using hu)
theorem eK {t : Tree} (h : leadedT t = true) : (t.leads.length : Int) = pd t.kind t.kids.length ∧ di t.kind t.leads 0 = true ∧ leadedsT t.kids = true := by
 cases t
 simp only [leadedT, Bool.and_eq_true, decide_eq_true_eq] at h
 exact ⟨h.1.1, h.1.2, h.2⟩
theorem yG : ∀ t : Tree, t.kind ≠ 1 → tbulk t ≤ 1000000000 → shapeK t = true → leadedT t = true → Tk t := bV fun t ih h1 ht hs hl s ho hN => by
 obtain ⟨f2, f1, f3, f20⟩ := rV hs
 obtain ⟨g1, _, g3⟩ := eK hl
 rw [jF] at g1
 have hkl := dx t
 have hn := bu hs
 have tk : ∀ (i : Nat) (u : Tree), t.kids[i]? = some u → Tk u := fun i u hu => ih i u hu (mt (aL hs hu).2) (by have := dN hu; omega) (aL hs hu).1 (dZ g3 hu)
 have tkm : ∀ u ∈ t.kids, Tk u := fun u hu => by obtain ⟨i, hi⟩ := List.mem_iff_getElem?.1 hu; exact tk i u hi
 have e := bg t
 rw [e] at hN ⊢
 by_cases h2 : t.kind = 2
 ·obtain ⟨us, x, y, e2⟩ := f2 h2
  have hk : t.kids.length = us.length + 2 := by rw [e2]; simp
  have hx : t.kids[us.length]? = some x := by rw [e2]; simp
  have hy : t.kids[us.length + 1]? = some y := by rw [e2]; simp
  have hll : 6 + us.length ≤ t.leads.length + 1 ∧ 6 ≤ t.leads.length := by
   rw [h2, hk] at g1; simp only [aV, f0] at g1; simp at g1
   split at g1 <;> first | omega | (split at g1 <;> omega)
  have etk : t.kids.take us.length = us := by rw [e2]; simp
  rw [h2, e2, rj] at hN ⊢
  change (bi (bc 2 t.text t.leads (pcTs us ++ [pcT x, pcT y])) s).2.length ≤ 140737488355328 at hN
  show PtW t s (bi (bc 2 t.text t.leads (pcTs us ++ [pcT x, pcT y])) s) ∧ (bi (bc 2 t.text t.leads (pcTs us ++ [pcT x, pcT y])) s).1.length ≤ 140737488355328
  rw [uv] at hN ⊢
  obtain ⟨q1, o1, n1⟩ := cH ho hN
  obtain ⟨q2, o2, n2⟩ := cH o1 n1
  obtain ⟨q3, o3, n3⟩ := cH o2 n2
  obtain ⟨q4, o4, n4⟩ := zo (p := t) (fun u hu => tkm u (by rw [e2]; simp [hu])) (by decide) (by decide) hll.1 (by omega) o3 n3
  obtain ⟨q5, o5, n5⟩ := cH o4 n4
  obtain ⟨q6, o6, n6⟩ := cH o5 n5
  obtain ⟨q7, o7, n7⟩ := nV (tk _ x hx) o6 n6
  obtain ⟨q8, o8, n8⟩ := cH o7 n7
  obtain ⟨q9, o9⟩ := tk _ y hy _ o8 n8
  simp only [dT, dU]
  exact ⟨tD (.inr (.inl h2)) (ds 2 _ _ _ _ _ ⟨fun e => absurd e h1, fun _ => eh 1 _ _ _ _ _ ⟨fun _ => nr 0 _ _ _ _ _ ⟨_, bz (by omega), _, _, q1, _, bz (by omega), _, _, q2, _, bz (by omega), _, _, q3, us.length, by omega, by omega, _, _, by rw [etk]; exact q4, _, bz (by omega), _, _, q5, _, bz (by omega), _, _, q6, us.length, by omega, x, hx, _, _, q7, _, bz (by omega), _, _, q8, us.length + 1, by omega, y, hy, _, _, q9, rfl, rfl⟩, fun e => absurd h2 e⟩⟩), o9⟩
 by_cases h3 : t.kind = 3
 ·obtain ⟨x, e2⟩ := f1 (by omega)
  have hx : t.kids[0]? = some x := by rw [e2]; rfl
  have hll : t.leads.length = 3 := by rw [h3, e2] at g1; simp [aV, f0] at g1; omega
  rw [h3, e2] at hN ⊢
  obtain ⟨q1, o1, n1⟩ := cH ho hN
  obtain ⟨q2, o2, n2⟩ := cH o1 n1
  obtain ⟨q3, o3, n3⟩ := cH o2 n2
  obtain ⟨q4, o4⟩ := tk _ x hx _ o3 n3
  exact ⟨tD (.inr (.inr (.inl h3))) (ds 3 _ _ _ _ _ ⟨fun e => absurd e h1, fun _ => eh 2 _ _ _ _ _ ⟨fun e => absurd e h2, fun _ => iC 1 _ _ _ _ _ ⟨fun _ => nw 0 _ _ _ _ _ ⟨_, bz (by omega), _, _, q1, _, bz (by omega), _, _, q2, _, bz (by omega), _, _, q3, x, hx, _, _, q4, rfl, rfl⟩, fun e => absurd h3 e⟩⟩⟩), o4⟩
 by_cases h4 : t.kind = 4
 ·obtain ⟨x, e2⟩ := f1 (by omega)
  have hx : t.kids[0]? = some x := by rw [e2]; rfl
  have hll : t.leads.length = 2 := by rw [h4, e2] at g1; simp [aV, f0] at g1; omega
  rw [h4, e2] at hN ⊢
  obtain ⟨q1, o1, n1⟩ := cH ho hN
  obtain ⟨q2, o2, n2⟩ := cH o1 n1
  obtain ⟨q4, o4⟩ := tk _ x hx _ o2 n2
  exact ⟨tD (.inr (.inr (.inr h4))) (ds 4 _ _ _ _ _ ⟨fun e => absurd e h1, fun _ => eh 3 _ _ _ _ _ ⟨fun e => absurd e h2, fun _ => iC 2 _ _ _ _ _ ⟨fun e => absurd e h3, fun _ => nu 1 _ _ _ _ _ ⟨fun _ => nv 0 _ _ _ _ _ ⟨_, bz (by omega), _, _, q1, _, bz (by omega), _, _, q2, x, hx, _, _, q4, rfl, rfl⟩, fun e => absurd h4 e⟩⟩⟩⟩), o4⟩
 have hd : ¬ (t.kind = 1 ∨ t.kind = 2 ∨ t.kind = 3 ∨ t.kind = 4) := by omega
 by_cases h17 : t.kind = 17
 ·obtain ⟨x, e2⟩ := f1 (by omega)
  have hx : t.kids[0]? = some x := by rw [e2]; rfl
  rw [h17, e2] at hN ⊢
  obtain ⟨q1, o1⟩ := tk _ x hx _ ho hN
  exact ⟨t0 hd (lb 0 _ _ _ _ _ ⟨fun _ => ⟨x, hx, _, _, q1, rfl, rfl⟩, fun e => absurd h17 e⟩), o1⟩
 by_cases h8 : t.kind = 8
 ·obtain ⟨x, e2⟩ := f1 (by omega)
  have hx : t.kids[0]? = some x := by rw [e2]; rfl
  have hll : t.leads.length = 2 := by rw [h8, e2] at g1; simp [aV, f0] at g1; omega
  rw [h8, e2] at hN ⊢
  obtain ⟨q1, o1, n1⟩ := cH ho hN
  obtain ⟨q2, o2, n2⟩ := nV (tk _ x hx) o1 n1
  obtain ⟨q3, o3, _⟩ := cH o2 n2
  show PtW t s (bi (⟨_, _⟩ :: (pcT x ++ [⟨_, _⟩])) s) ∧ (bi (⟨_, _⟩ :: (pcT x ++ [⟨_, _⟩])) s).1.length ≤ 140737488355328
  simp only [dT, dU, mc]
  exact ⟨t0 hd (t1 h17 (lh 1 _ _ _ _ _ ⟨fun _ => pj 0 _ _ _ _ _ ⟨_, bz (by omega), _, _, q1, x, hx, _, _, q2, _, bz (by omega), _, _, q3, rfl, rfl⟩, fun e => absurd h8 e⟩)), o3⟩
 by_cases h16 : t.kind = 16
 ·have hll : 3 + t.kids.length ≤ t.leads.length + 1 ∧ 3 ≤ t.leads.length := by
   rw [h16] at g1; simp only [aV, f0] at g1; simp at g1
   split at g1 <;> first | omega | (split at g1 <;> omega)
  rw [h16] at hN ⊢
  obtain ⟨q1, o1, n1⟩ := cH ho hN
  obtain ⟨q2, o2, n2⟩ := cH o1 n1
  obtain ⟨q3, o3, n3⟩ := zo (p := t) tkm (by decide) (by decide) hll.1 (by omega) o2 n2
  obtain ⟨q4, o4, _⟩ := cH o3 n3
  show PtW t s (bi (⟨_, _⟩ :: ⟨_, _⟩ :: (aw t.leads 3 (pcTs t.kids) 0 ++ [⟨_, _⟩])) s) ∧ (bi (⟨_, _⟩ :: ⟨_, _⟩ :: (aw t.leads 3 (pcTs t.kids) 0 ++ [⟨_, _⟩])) s).1.length ≤ 140737488355328
  simp only [dT, dU, mc]
  exact ⟨t0 hd (t1 h17 (t2 h8 (kH 1 _ _ _ _ _ ⟨fun _ => pp 0 _ _ _ _ _ ⟨_, bz (by omega), _, _, q1, _, bz (by omega), _, _, q2, _, _, q3, _, bz (by omega), _, _, q4, rfl, rfl⟩, fun e => absurd h16 e⟩))), o4⟩
 by_cases h18 : t.kind = 18
 ·have h4' := hn.2.1 h18
  have hll : 2 + t.kids.length ≤ t.leads.length + 1 ∧ 2 ≤ t.leads.length := by
   rw [h18] at g1; simp only [aV, f0] at g1; simp at g1
   split at g1 <;> first | omega | (split at g1 <;> omega)
  rw [h18] at hN ⊢
  obtain ⟨q1, o1, n1⟩ := cH ho hN
  obtain ⟨q2, o2, n2⟩ := zo (p := t) tkm (by decide) (by decide) hll.1 (by omega) o1 n1
  obtain ⟨q3, o3, _⟩ := cH o2 n2
  show PtW t s (bi (⟨_, _⟩ :: (aw t.leads 2 (pcTs t.kids) 0 ++ [⟨_, _⟩])) s) ∧ (bi (⟨_, _⟩ :: (aw t.leads 2 (pcTs t.kids) 0 ++ [⟨_, _⟩])) s).1.length ≤ 140737488355328
  simp only [dT, dU, mc]
  exact ⟨t0 hd (t1 h17 (t2 h8 (t4 h16 (kO 1 _ _ _ _ _ ⟨fun _ => ph 0 _ _ _ _ _ ⟨_, bz (by omega), _, _, q1, _, _, q2, _, bz (by omega), _, _, q3, rfl, rfl⟩, fun e => absurd h18 e⟩)))), o3⟩
 by_cases h19 : t.kind = 19
 ·obtain ⟨x, y, z, e2⟩ := f3 h19
  have hx : t.kids[0]? = some x := by rw [e2]; rfl
  have hy : t.kids[1]? = some y := by rw [e2]; rfl
  have hz : t.kids[2]? = some z := by rw [e2]; rfl
  have hll : t.leads.length = 3 := by rw [h19, e2] at g1; simp [aV, f0] at g1; omega
  rw [h19, e2] at hN ⊢
  obtain ⟨q1, o1, n1⟩ := cH ho hN
  obtain ⟨q2, o2, n2⟩ := nV (tk _ x hx) o1 n1
  obtain ⟨q3, o3, n3⟩ := cH o2 n2
  obtain ⟨q4, o4, n4⟩ := nV (tk _ y hy) o3 n3
  obtain ⟨q5, o5, n5⟩ := cH o4 n4
  obtain ⟨q6, o6⟩ := tk _ z hz _ o5 n5
  show PtW t s (bi (⟨_, _⟩ :: (pcT x ++ (⟨_, _⟩ :: (pcT y ++ (⟨_, _⟩ :: pcT z))))) s) ∧ (bi (⟨_, _⟩ :: (pcT x ++ (⟨_, _⟩ :: (pcT y ++ (⟨_, _⟩ :: pcT z))))) s).1.length ≤ 140737488355328
  simp only [dT, dU, mc]
  exact ⟨t0 hd (t1 h17 (t2 h8 (t4 h16 (t6 h18 (lj 1 _ _ _ _ _ ⟨fun _ => pn 0 _ _ _ _ _ ⟨_, bz (by omega), _, _, q1, x, hx, _, _, q2, _, bz (by omega), _, _, q3, y, hy, _, _, q4, _, bz (by omega), _, _, q5, z, hz, _, _, q6, rfl, rfl⟩, fun e => absurd h19 e⟩))))), o6⟩
 by_cases h20 : t.kind = 20
 ·obtain ⟨x, y, e2⟩ := f20 (by omega)
  have hx : t.kids[0]? = some x := by rw [e2]; rfl
  have hy : t.kids[1]? = some y := by rw [e2]; rfl
  have hll : t.leads.length = 4 := by rw [h20, e2] at g1; simp [aV, f0] at g1; omega
  rw [h20, e2] at hN ⊢
  obtain ⟨q1, o1, n1⟩ := cH ho hN
  obtain ⟨q2, o2, n2⟩ := cH o1 n1
  obtain ⟨q3, o3, n3⟩ := cH o2 n2
  obtain ⟨q4, o4, n4⟩ := nV (tk _ x hx) o3 n3
  obtain ⟨q5, o5, n5⟩ := cH o4 n4
  obtain ⟨q6, o6⟩ := tk _ y hy _ o5 n5
  show PtW t s (bi (⟨_, _⟩ :: ⟨_, _⟩ :: ⟨_, _⟩ :: (pcT x ++ (⟨_, _⟩ :: pcT y))) s) ∧ (bi (⟨_, _⟩ :: ⟨_, _⟩ :: ⟨_, _⟩ :: (pcT x ++ (⟨_, _⟩ :: pcT y))) s).1.length ≤ 140737488355328
  simp only [dT, dU, mc]
  exact ⟨t0 hd (t1 h17 (t2 h8 (t4 h16 (t6 h18 (t8 h19 (jX 1 _ _ _ _ _ ⟨fun _ => pc 0 _ _ _ _ _ ⟨_, bz (by omega), _, _, q1, _, bz (by omega), _, _, q2, _, bz (by omega), _, _, q3, x, hx, _, _, q4, _, bz (by omega), _, _, q5, y, hy, _, _, q6, rfl, rfl⟩, fun e => absurd h20 e⟩)))))), o6⟩
 by_cases h21 : t.kind = 21
 ·obtain ⟨x, y, e2⟩ := f20 (by omega)
  have hx : t.kids[0]? = some x := by rw [e2]; rfl
  have hy : t.kids[1]? = some y := by rw [e2]; rfl
  have hll : t.leads.length = 1 := by rw [h21, e2] at g1; simp [aV, f0] at g1; omega
  rw [h21, e2] at hN ⊢
  obtain ⟨q1, o1, n1⟩ := nV (tk _ x hx) ho hN
  obtain ⟨q2, o2, n2⟩ := cH o1 n1
  obtain ⟨q3, o3⟩ := tk _ y hy _ o2 n2
  show PtW t s (bi (pcT x ++ (⟨_, _⟩ :: pcT y)) s) ∧ (bi (pcT x ++ (⟨_, _⟩ :: pcT y)) s).1.length ≤ 140737488355328
  simp only [dT, dU, mc]
  exact ⟨t0 hd (t1 h17 (t2 h8 (t4 h16 (t6 h18 (t8 h19 (t10 h20 (jZ 1 _ _ _ _ _ ⟨fun _ => oM 0 _ _ _ _ _ ⟨x, hx, _, _, q1, _, bz (by omega), _, _, q2, y, hy, _, _, q3, rfl, rfl⟩, fun e => absurd h21 e⟩))))))), o3⟩
 by_cases h22 : t.kind = 22
 ·obtain ⟨x, e2⟩ := f1 (by omega)
  have hx : t.kids[0]? = some x := by rw [e2]; rfl
  have hll : t.leads.length = 2 := by rw [h22, e2] at g1; simp [aV, f0] at g1; omega
  rw [h22, e2] at hN ⊢
  obtain ⟨q1, o1, n1⟩ := cH ho hN
  obtain ⟨q2, o2, n2⟩ := nV (tk _ x hx) o1 n1
  obtain ⟨q3, o3, _⟩ := cH o2 n2
  show PtW t s (bi (⟨_, _⟩ :: (pcT x ++ [⟨_, _⟩])) s) ∧ (bi (⟨_, _⟩ :: (pcT x ++ [⟨_, _⟩])) s).1.length ≤ 140737488355328
  simp only [dT, dU, mc]
  exact ⟨t0 hd (t1 h17 (t2 h8 (t4 h16 (t6 h18 (t8 h19 (t10 h20 (t12 h21 (kl 1 _ _ _ _ _ ⟨fun _ => oY 0 _ _ _ _ _ ⟨_, bz (by omega), _, _, q1, x, hx, _, _, q2, _, bz (by omega), _, _, q3, rfl, rfl⟩, fun e => absurd h22 e⟩)))))))), o3⟩
 have el : bc t.kind t.text t.leads (pcTs t.kids) = [⟨t.leads.getD 0 [], fX t.kind t.text⟩] := by
  simp only [bc, h1, h2, h3, h4, h8, h16, h17, h18, h19, h20, h21, h22, if_false]; rfl
 have hll : 1 ≤ t.leads.length := by
  simp only [aV, f0, h1, h2, h3, h4, h8, h16, h17, h18, h19, h20, h21, h22, if_false] at g1
  split at g1
  ·split at g1 <;> first | omega | (split at g1 <;> omega)
  ·omega
 rw [el] at hN ⊢
 obtain ⟨q1, o1, _⟩ := cH ho hN
 exact ⟨t0 hd (t1 h17 (t2 h8 (t4 h16 (t6 h18 (t8 h19 (t10 h20 (t12 h21 (kl 0 _ _ _ _ _ ⟨fun e => absurd e h22, fun _ => ⟨_, bz (by omega), _, CC t, _, _, q1, rfl, rfl⟩⟩)))))))), o1⟩
def pcM (t : Tree) : List Pce := ⟨t.leads.getD 0 [], [109, 111, 100, 117, 108, 101]⟩ :: ⟨t.leads.getD 1 [], t.text⟩ :: (pcTs t.kids).flatten
def ej (t : Tree) : List UInt8 := if t.kind = 1 then (bi (pcM t) ([], [])).2 ++ t.leads.getD 2 [] else (bi (pcT t) ([], [])).2
theorem vi {t : Tree} (hk : t.kind = 1) (_ : shapeK t = true) : ej t = (bi (pcM t) ([], [])).2 ++ t.leads.getD 2 [] := if_pos hk
theorem ww {c : Nat} : ∀ (r : List Pce) (s : WS), (∀ p ∈ r, p.Lead.length + p.Text.length + 1 ≤ c) → (bi r s).2.length ≤ s.2.length + r.length * c
 | [], s, h => by simp [bi]
 | p :: r, s, h => by
  have h1 := ww r (mg p.Lead p.Text s) fun q hq => h q (by simp [hq])
  have h2 := h p (by simp)
  have h3 : (ah s.1 p.Lead p.Text).length ≤ p.Lead.length + 1 := by
   unfold ah
   split
   ·simp
   ·omega
  have e : (r.length + 1) * c = r.length * c + c := Nat.succ_mul _ _
  have h4 : (mg p.Lead p.Text s).2.length = s.2.length + (ah s.1 p.Lead p.Text).length + p.Text.length := by simp only [mg, List.length_append]
  rw [dT, List.length_cons, e]
  omega
theorem Bl (t : Tree) (ht : tbulk t ≤ 2000000) (hs : shapeK t = true) (hl : leadedT t = true) : mb t (ej t) := by
 obtain ⟨r, _, h1, h2, rfl⟩ := rq t ht hs [] (by simp only [List.length_nil]; omega)
 rw [List.nil_append] at h1 h2
 have hq := h2 bT
 have hlen : ∀ (r : List Pce), r.length ≤ 16000000 → Qp r → (bi r ([], [])).2.length ≤ 100000000000000 := fun r hr hq => by
  have := ww (c := 4000011) r ([], []) fun p hp => by have := hq p hp; omega
  have h3 : r.length * 4000011 ≤ 16000000 * 4000011 := Nat.mul_le_mul_right _ hr
  simp only [List.length_nil] at this
  omega
 simp only [List.length_nil] at h1
 obtain ⟨g1, _, g3⟩ := eK hl
 rw [jF] at g1
 have hkl := dx t
 by_cases hk : t.kind = 1
 ·have hll : t.leads.length = 3 := by rw [hk] at g1; simp only [aV] at g1; simp at g1; omega
  have e : pcT t = pcM t ++ [⟨t.leads.getD 2 [], []⟩] := by rw [bg, hk]; rfl
  rw [e] at h1 hq
  rw [List.length_append, List.length_singleton] at h1
  have hn := hlen (pcM t) (by omega) (cd.1 hq).1
  have hl2 := ((cd.1 hq).2 _ (List.mem_singleton.2 rfl)).1
  simp only at hl2
  have loop : ∀ k i (s : WS), t.kids.length - i ≤ k → s.1.length ≤ 140737488355328 → (bi (pcTs (t.kids.drop i)).flatten s).2.length ≤ 100000000000000 → ∃ x, cy (k + 1) t (s.2.map u8i) s.1 i (((bi (pcTs (t.kids.drop i)).flatten s).2 ++ t.leads.getD 2 []).map u8i) x := fun k => by
   have fin : ∀ m i (s : WS), ¬ i < t.kids.length → (bi (pcTs (t.kids.drop i)).flatten s).2.length ≤ 100000000000000 → ∃ x, cy (m + 1) t (s.2.map u8i) s.1 i (((bi (pcTs (t.kids.drop i)).flatten s).2 ++ t.leads.getD 2 []).map u8i) x := fun m i s hi hN => by
    rw [List.drop_of_length_le (by omega)] at hN ⊢
    exact ⟨_, iE m _ _ _ _ _ _ ⟨fun h => absurd h hi, fun _ => ⟨_, bz (by omega), _, _, _, _, CD (by have : s.2.length ≤ 100000000000000 := hN; omega), rfl, rfl⟩⟩⟩
   induction k with
   | zero => intro i s hi _ hN; exact fin 0 i s (by omega) hN
   | succ k ih =>
    intro i s hi ho hN
    rcases aN t.kids i with ⟨u, hu, hlt⟩ | h'
    ·have tk := yG u (mt (aL hs hu).2) (by have := dN hu; omega) (aL hs hu).1 (dZ g3 hu)
     rw [cV hu] at hN ⊢
     simp only [pcTs, List.flatten_cons] at hN ⊢
     obtain ⟨q, o, n⟩ := nV tk ho (Nat.le_trans hN (by decide))
     rw [dU] at hN ⊢
     obtain ⟨x, hx⟩ := ih (i + 1) _ (by omega) o hN
     exact ⟨x, iE (k + 1) _ _ _ _ _ _ ⟨fun _ => ⟨u, hu, _, _, q, by omega, hx⟩, fun h => absurd hlt h⟩⟩
    ·exact fin _ i s h' hN
  obtain ⟨q1, o1, n1⟩ := cH (s := ([], [])) (Nat.zero_le _) (Nat.le_trans hn (by decide))
  obtain ⟨q2, o2, n2⟩ := cH o1 n1
  obtain ⟨x, hx⟩ := loop t.kids.length 0 _ (by omega) o2 hn
  rw [vi hk hs]
  exact qC 0 _ _ ⟨_, x, tD (.inl hk) (ds (t.kids.length + 2) _ _ _ _ _ ⟨fun _ => nt (t.kids.length + 1) _ _ _ _ _ ⟨_, bz (by omega), _, _, q1, _, bz (by omega), _, _, q2, hx⟩, fun e => absurd hk e⟩), _, ET _ _, rfl⟩
 ·have hn := hlen (pcT t) (by omega) hq
  have e : ej t = (bi (pcT t) ([], [])).2 := if_neg hk
  rw [e]
  obtain ⟨q, _⟩ := yG t hk (by omega) hs hl ([], []) (Nat.zero_le _) (Nat.le_trans hn (by decide))
  exact qC 0 _ _ ⟨_, _, q, _, ET _ _, rfl⟩
theorem xQ (t : Tree) (ht : tbulk t ≤ 2000000) : dL t (if shapeK t && leadedT t then ej t else []) := by
 refine uh 0 _ _ ⟨_, xV t (by omega), fun h => by rw [h]; rfl, fun h => ⟨_, vZ t (by omega) h, fun h2 => by rw [h, h2]; rfl, fun h2 => ⟨_, Bl t ht h h2, by rw [h, h2]; rfl⟩⟩⟩
set_option maxHeartbeats 4000000
structure GToken where
 Kind : Int
 Lead : (List UInt8)
 Text : (List UInt8)
abbrev GToken.c (x : GToken) : List V := [.int .i64 x.Kind, .str x.Lead, .str x.Text]
abbrev GToken.w (x : GToken) : V := .agg x.c
def uu (p0 : (List UInt8)) (r0 : (List GToken)) (r1 : (List UInt8)) (r2 : Int) (r3 : Int) : Prop := ov Tryz.prog 24 [.str p0] (.tup [.row 3 (List.map GToken.w r0), .str r1, .int .i64 r2, .int .i64 r3])
open Lx
theorem wW {c : UInt8} (h : ba c = true) : aO c = true := by simp [aO, h]
theorem nP {l : List UInt8} (h : bD l = true) : upperB (l.getD 0 0) = true ∧ hD (l.take (spanN aO l)) = false ∧ spanN aO l + 1 < l.length ∧ (l.getD (spanN aO l) 0).toNat = 46 ∧ ba (l.getD (spanN aO l + 1) 0) = true := by
 unfold bD at h
 simp only [Bool.and_eq_true, decide_eq_true_eq, beq_iff_eq, Bool.not_eq_true'] at h
 obtain ⟨⟨⟨⟨h1, h2⟩, h3⟩, h4⟩, h5⟩ := h
 exact ⟨h1, h2, h3, h4, h5⟩
theorem ta {l : List UInt8} {n : Nat} (hn : spanN aO l = n) (h1 : upperB (l.getD 0 0) = true) (h2 : hD (l.take n) = false) (h3 : n + 1 < l.length) (h4 : (l.getD n 0).toNat = 46) (h5 : ba (l.getD (n + 1) 0) = true) : bD l = true := by
 subst hn
 unfold bD
 rw [h1, h2, h5]
 simp [h3, h4, -List.getD_eq_getElem?_getD]
def vd (t : TokZ) : Prop := (aE t.text : Int) = t.kind ∧ t.kind ≠ 0 ∧ bf false t.lead false = true
theorem pf (p : UInt8 → Bool) : ∀ (a r : List UInt8), spanN p a < a.length → spanN p (a ++ r) = spanN p a
 | [], r, h => by simp at h
 | c :: a, r, h => by
  unfold spanN at *
  simp only [List.cons_append, List.takeWhile_cons] at *
  split
  ·rename_i hp
   simp only [hp, if_true, List.length_cons] at h ⊢
   have := pf p a r (by unfold spanN; omega)
   unfold spanN at this
   omega
  ·rfl
theorem fD (p : UInt8 → Bool) : ∀ (a r : List UInt8), spanN p a = a.length → spanN p (a ++ r) = a.length + spanN p r
 | [], r, h => by simp
 | c :: a, r, h => by
  unfold spanN at *
  simp only [List.cons_append, List.takeWhile_cons] at *
  split
  ·rename_i hp
   simp only [hp, if_true, List.length_cons] at h ⊢
   have := fD p a r (by unfold spanN; omega)
   unfold spanN at this
   omega
  ·rename_i hp
   simp [hp] at h
theorem ug {p : UInt8 → Bool} {r : List UInt8} (h : p (r.getD 0 0) = false ∨ r = []) : spanN p r = 0 := by
 cases r with
 | nil => rfl
 | cons c r => simp at h; simp [spanN, h]
theorem nC {p : UInt8 → Bool} {c : UInt8} {r : List UInt8} (h : p c = true) : 0 < spanN p (c :: r) := by simp [spanN, h]
theorem dX (a r : List UInt8) (k : Nat) (h : k < a.length) : (a ++ r).getD k 0 = a.getD k 0 := by
 simp only [List.getD]; rw [List.getElem?_append_left h]
def km (a : List UInt8) (c : UInt8) : Bool := (ba (a.getD 0 0) && aO c) || (bb (a.getD 0 0) && bb c) || (a == [61] && c.toNat == 61)
theorem oP {l : List UInt8} {k m : Nat} (h : bR l = (k, m, 0)) : m = if bD l = true then spanN aO l + 1 + spanN aO (l.drop (spanN aO l + 1)) else spanN aO l := by
 unfold bR at h
 split at h
 ·rename_i hc
  rw [if_pos hc]
  unfold dK at h
  split at h
  ·simp at h
  ·split at h
   ·simp at h
   ·split at h <;> (simp at h; omega)
 ·rename_i hc
  rw [if_neg hc]
  unfold bM at h
  split at h
  ·simp at h
  ·split at h
   ·simp at h; omega
   ·split at h <;> (simp at h; omega)
theorem nW {a : List UInt8} {k : Nat} (h : aE a = k) (hk : k ≠ 0) : 0 < a.length ∧ tokenT a = (k, a.length, 0) := by
 unfold aE at h
 by_cases h0 : a = []
 ·rw [if_pos h0] at h; exact absurd h.symm hk
 ·rw [if_neg h0] at h
  by_cases h1 : (tokenT a).2.2 = 0 ∧ (tokenT a).2.1 = a.length
  ·rw [if_pos h1] at h
   exact ⟨List.length_pos_iff.2 h0, by rw [← h, ← h1.2, ← h1.1]⟩
  ·rw [if_neg h1] at h; exact absurd h.symm hk
theorem sZ : ∀ (r : List UInt8) (i m : Nat) (s : List UInt8), quotedT r i = (m, 0) → quotedT (r ++ s) i = (m, 0)
 | [], i, m, s, h => by simp [quotedT] at h
 | c :: r, i, m, s, h => by
  rw [List.cons_append]
  unfold quotedT at h ⊢
  split
  ·rename_i ha; rw [if_pos ha] at h; simp at h
  ·rename_i ha; rw [if_neg ha] at h
   split
   ·rename_i hq; rw [if_pos hq] at h; exact h
   ·rename_i hq; rw [if_neg hq] at h
    split
    ·rename_i hb; rw [if_pos hb] at h; simp at h
    ·rename_i hb; rw [if_neg hb] at h
     exact sZ r (i + 1) m s h
theorem AG {a r : List UInt8} {k : Nat} (h0 : 0 < a.length) (hl : ba (a.getD 0 0) = true) (h : bR a = (k, a.length, 0)) (hr : aO (r.getD 0 0) = false ∧ (r.getD 0 0).toNat ≠ 46 ∨ r = []) : bR (a ++ r) = (k, a.length, 0) := by
 have hpos : 0 < spanN aO a := pD h0 (wW hl)
 have hle := ii aO a
 have hlen := oP h
 have hsr : spanN aO r = 0 := ug (hr.imp (·.1) id)
 by_cases hcond : bD a = true
 ·rw [if_pos hcond] at hlen
  obtain ⟨c1, c2, c3, c4, c5⟩ := nP hcond
  have hy := pJ rfl rfl hcond
  generalize hn : spanN aO a = n at *
  generalize hm' : spanN aO (a.drop (n + 1)) = m' at *
  have e1 : spanN aO (a ++ r) = n := by rw [pf _ _ _ (by omega), hn]
  have e2 : (a ++ r).take n = a.take n := List.take_append_of_le_length (by omega)
  have hc' : bD (a ++ r) = true := ta e1 (by rw [dX _ _ _ h0]; exact c1) (by rw [e2]; exact c2) (by simp; omega) (by rw [dX _ _ _ (by omega)]; exact c4) (by rw [dX _ _ _ (by omega)]; exact c5)
  have e4 : (a ++ r).drop (n + 1) = a.drop (n + 1) ++ r := List.drop_append_of_le_length (by omega)
  have e3 : spanN aO ((a ++ r).drop (n + 1)) = m' := by
   rw [e4, fD _ _ _ (by rw [hm', List.length_drop]; omega), hsr, List.length_drop]; omega
  rw [pJ e1 e3 hc', ← h, hy]
  unfold dK
  rw [e4, dX _ _ _ (by omega), List.take_append_of_le_length (by rw [List.length_drop]; omega)]
 ·have hcond' : bD a = false := by simpa using hcond
  rw [if_neg hcond] at hlen
  have hnn := fG rfl hcond'
  generalize hn : spanN aO a = n at *
  have e1 : spanN aO (a ++ r) = n := by rw [fD _ _ _ (by omega), hsr]; omega
  have hc' : bD (a ++ r) = false := by
   cases hx : bD (a ++ r) with
   | false => rfl
   | true =>
    obtain ⟨d1, d2, d3, d4, d5⟩ := nP hx
    rw [e1] at d3 d4
    rcases hr with hr | hr
    ·refine absurd ?_ hr.2
     have : (a ++ r).getD n 0 = r.getD 0 0 := by
      simp only [List.getD]; rw [List.getElem?_append_right (by omega)]; congr 2; omega
     rw [← this]; exact d4
    ·subst hr; simp at d3; omega
  rw [fG e1 hc', ← h, hnn]
  unfold bM
  rw [dX _ _ _ h0, List.take_append_of_le_length (by omega)]
theorem zd {a r : List UInt8} {k : Nat} (h0 : 0 < a.length) (h : tokenT a = (k, a.length, 0)) (hr : km a (r.getD 0 0) = false ∧ (r.getD 0 0).toNat ≠ 46 ∨ r = []) : tokenT (a ++ r) = (k, a.length, 0) := by
 have hg : (a ++ r).getD 0 0 = a.getD 0 0 := dX _ _ _ h0
 have hgr : ∀ {P : Prop}, (km a (r.getD 0 0) = false → P) → P ∨ r = [] := fun {P} f => hr.imp (fun x => f x.1) id
 unfold tokenT at h ⊢
 simp only at h ⊢
 rw [hg]
 by_cases ha : aT (a.getD 0 0) = false
 ·rw [if_pos ha] at h; simp at h
 rw [if_neg ha] at h ⊢
 by_cases hl : ba (a.getD 0 0) = true
 ·rw [if_pos hl] at h ⊢
  refine AG h0 hl h (hr.imp (fun x => ⟨?_, x.2⟩) id)
  have := x.1
  unfold km at this
  simp only [hl, Bool.true_and, Bool.or_eq_false_iff] at this
  exact this.1.1
 rw [if_neg hl] at h ⊢
 by_cases hd : bb (a.getD 0 0) = true
 ·rw [if_pos hd] at h ⊢
  simp only [Prod.mk.injEq] at h
  have hn : spanN bb a = a.length := by
   have h2 := h.2
   unfold cN at h2
   simp only at h2
   split at h2
   ·simp at h2
   ·split at h2
    ·simp at h2
    ·simp at h2; exact h2
  have hsr : spanN bb r = 0 := ug (hgr (fun x => by unfold km at x; simp only [hd, Bool.true_and, Bool.or_eq_false_iff] at x; exact x.1.2))
  have e1 : spanN bb (a ++ r) = a.length := by rw [fD _ _ _ hn, hsr]; omega
  have e2 : cN (a ++ r) = cN a := by unfold cN; rw [e1, hn, hg]
  rw [e2, h.2, h.1]
 rw [if_neg hd] at h ⊢
 by_cases hq : (a.getD 0 0).toNat = 34
 ·rw [if_pos hq] at h ⊢
  simp only [Prod.mk.injEq] at h
  have e : (a ++ r).tail = a.tail ++ r := by
   cases a with
   | nil => simp at h0
   | cons c a => rfl
  rw [e, sZ _ _ _ _ h.2, h.1]
 rw [if_neg hq] at h ⊢
 by_cases he : (a.getD 0 0).toNat = 61 ∧ 1 < a.length ∧ (a.getD 1 0).toNat = 61
 ·rw [if_pos he] at h
  rw [if_pos ⟨he.1, by simp; omega, by rw [dX _ _ _ he.2.1]; exact he.2.2⟩]
  exact h
 ·rw [if_neg he] at h
  by_cases hs : signs.contains (a.getD 0 0) = true
  ·rw [if_pos hs] at h
   simp only [Prod.mk.injEq] at h
   have hl1 : a.length = 1 := h.2.1.symm
   rw [if_neg, if_pos hs, h.1, ← h.2.1]
   intro hh
   obtain ⟨h1, h2, h3⟩ := hh
   have ha1 : a = [61] := by
    match a, hl1 with
    | [c], _ =>
     simp at h1
     congr 1
     apply UInt8.toNat_inj.1
     simpa using h1
   have h4 : (a ++ r).getD 1 0 = r.getD 0 0 := by
    simp only [List.getD]; rw [List.getElem?_append_right (by omega), hl1]
   rcases hr with hr | hr
   ·have := hr.1
    unfold km at this
    rw [ha1] at this
    simp only [beq_self_eq_true, Bool.true_and, Bool.or_eq_false_iff, beq_eq_false_iff_ne] at this
    exact this.2 (by rw [← h4]; exact h3)
   ·subst hr; simp at h2; omega
  ·rw [if_neg hs] at h; simp at h
theorem qZ {a : List UInt8} {k : Nat} (h0 : 0 < a.length) (h : tokenT a = (k, a.length, 0)) : be (a.getD 0 0) = false ∧ (a.getD 0 0).toNat ≠ 35 ∧ (a.getD 0 0).toNat ≠ 46 := by
 have hc : a[0] = a.getD 0 0 := by simp [List.getD, List.getElem?_eq_getElem h0]
 refine ⟨?_, ?_, ?_⟩
 ·cases hw : be (a.getD 0 0) with
  | false => rfl
  | true => rw [na h0 hc (.inl hw)] at h; simp at h
 ·intro h35; rw [na h0 hc (.inr h35)] at h; simp at h
 ·intro h46
  have hn : a.getD 0 0 = 46 := by apply UInt8.toNat_inj.1; simpa using h46
  unfold tokenT at h
  simp only at h
  rw [hn] at h
  rw [if_neg (by decide), if_neg (by decide), if_neg (by decide), if_neg (by decide), if_neg (by intro x; exact absurd x.1 (by decide)), if_neg (by decide)] at h
  simp at h
theorem xO : ∀ (lead : List UInt8) (b : Bool) (r : List UInt8) (n : Nat), bf b lead false = true → aB b (lead ++ r) n = aB false r (n + lead.length)
 | [], b, r, n, h => by
  have : b = false := by simpa [bf] using h
  subst this; rfl
 | x :: l, b, r, n, h => by
  have ih := xO l
  unfold bf at h
  by_cases ha : aT x = false
  ·rw [if_pos ha] at h; simp at h
  rw [if_neg ha] at h
  have ha' : aT x = true := by simpa using ha
  rw [List.cons_append]
  cases b with
  | true =>
   rw [if_pos rfl] at h
   by_cases h10 : x.toNat = 10
   ·have e : aB true (x :: (l ++ r)) n = aB false (l ++ r) (n + 1) := by simp [aB, h10]
    simp only [h10, beq_self_eq_true, Bool.not_true] at h
    rw [e, ih _ _ _ h]; congr 1; simp; omega
   ·have e : aB true (x :: (l ++ r)) n = aB true (l ++ r) (n + 1) := by simp [aB, h10, ha']
    have hb : (x.toNat == 10) = false := by simpa using h10
    rw [hb, Bool.not_false] at h
    rw [e, ih _ _ _ h]; congr 1; simp; omega
  | false =>
   rw [if_neg (by simp)] at h
   by_cases h35 : x.toNat = 35
   ·have hw : be x = false := by simp [be, h35]
    rw [if_pos h35] at h
    have e : aB false (x :: (l ++ r)) n = aB true (l ++ r) (n + 1) := by simp [aB, h35, hw]
    rw [e, ih _ _ _ h]; congr 1; simp; omega
   ·rw [if_neg h35] at h
    by_cases hw : be x = false
    ·rw [if_pos hw] at h; simp at h
    ·rw [if_neg hw] at h
     have hw' : be x = true := by simpa using hw
     have e : aB false (x :: (l ++ r)) n = aB false (l ++ r) (n + 1) := by simp [aB, hw']
     rw [e, ih _ _ _ h]; congr 1; simp; omega
theorem vp {r : List UInt8} {n : Nat} (h0 : 0 < r.length) (h1 : be (r.getD 0 0) = false) (h2 : (r.getD 0 0).toNat ≠ 35) : aB false r n = (n, none) := by
 cases r with
 | nil => simp at h0
 | cons c r => simp at h1 h2; simp [aB, h1, h2]
theorem sU {l : List UInt8} {fin : Bool} (h : bf false l fin = true) (hne : l ≠ []) : be (l.getD 0 0) = true ∨ (l.getD 0 0).toNat = 35 := by
 cases l with
 | nil => exact absurd rfl hne
 | cons x r =>
  unfold bf at h
  show be x = true ∨ x.toNat = 35
  by_cases ha : aT x = false
  ·rw [if_pos ha] at h; simp at h
  rw [if_neg ha, if_neg (by simp)] at h
  by_cases h35 : x.toNat = 35
  ·exact .inr h35
  ·rw [if_neg h35] at h
   by_cases hw : be x = false
   ·rw [if_pos hw] at h; simp at h
   ·exact .inl (by simpa using hw)
theorem sS {a : List UInt8} {c : UInt8} (h : be c = true ∨ c.toNat = 35) : km a c = false ∧ c.toNat ≠ 46 := by
 have hv : c.toNat = 9 ∨ c.toNat = 10 ∨ c.toNat = 13 ∨ c.toNat = 32 ∨ c.toNat = 35 := by
  rcases h with h | h
  ·simp [be] at h; omega
  ·omega
 have h1 : aO c = false := by rcases hv with h | h | h | h | h <;> simp [aO, ba, ct, upperB, bb, h]
 have h2 : bb c = false := by rcases hv with h | h | h | h | h <;> simp [bb, h]
 have h3 : (c.toNat == 61) = false := by simp; omega
 exact ⟨by simp [km, h1, h2, h3], by omega⟩
theorem vw : ∀ (f : Nat) (l : List UInt8) (pos : Nat) (acc : List TokZ), l.length < f → (scanT f l pos acc).err = 0 → ∃ ts, (scanT f l pos acc).toks = acc ++ ts
 | 0, l, pos, acc, hf, _ => by omega
 | f + 1, l, pos, acc, hf, he => by
  obtain ⟨n, b, hLd⟩ : ∃ n b, aB false l 0 = (n, b) := ⟨_, _, rfl⟩
  cases b with
  | some q => rw [sh hLd] at he; simp at he
  | none =>
   by_cases hn : n = l.length
   ·rw [om hLd hn]; exact ⟨[], by simp⟩
   ·have hnl : n < l.length := by have h := mm false l 0; rw [hLd] at h; simp at h; omega
    obtain ⟨k, m, e, hT⟩ : ∃ k m e, tokenT (l.drop n) = (k, m, e) := ⟨_, _, _, rfl⟩
    by_cases he0 : e = 0
    ·subst he0
     have hlen := mU (l := l.drop n) (by simp; omega)
     rw [hT] at hlen
     have hm0 := hlen.2 rfl
     rw [oa hLd hn hT] at he ⊢
     obtain ⟨ts, h1⟩ := vw f _ _ _ (by simp at hm0 ⊢; omega) he
     exact ⟨_, by rw [h1, List.append_assoc]⟩
    ·rw [pP hLd hn hT he0] at he; exact absurd he he0
theorem Aj {l : List UInt8} (h4 : ¬ 4096 < l.length) (h0 : 0 < l.length) (hw : be (l.getD 0 0) = false) (h35 : (l.getD 0 0).toNat ≠ 35) {k m e : Nat} (ht : tokenT l = (k, m, e)) :
  (e ≠ 0 ∧ (scan l).err ≠ 0) ∨ (e = 0 ∧ ((scan l).err = 0 → ∃ ts, (scan l).toks = ⟨k, [], l.take m⟩ :: ts)) := by
 have hld : aB false l 0 = (0, none) := vp h0 hw h35
 unfold scan
 rw [if_neg h4]
 by_cases he : e = 0
 ·refine .inr ⟨he, fun herr => ?_⟩
  subst he
  have ht' : tokenT (l.drop 0) = (k, m, 0) := by simpa using ht
  rw [oa hld (by omega) ht'] at herr ⊢
  have hlen := mU h0
  rw [ht] at hlen
  simp only at hlen
  have hm0 := hlen.2 trivial
  obtain ⟨ts, h1⟩ := vw l.length (l.drop (0 + m)) (0 + 0 + m) _ (by simp; omega) herr
  exact ⟨ts, by rw [h1]; simp⟩
 ·refine .inl ⟨he, ?_⟩
  have ht' : tokenT (l.drop 0) = (k, m, e) := by simpa using ht
  rw [pP hld (by omega) ht' he]
  exact he
theorem yr {a b : List UInt8} {ka kb : Nat} (ha : aE a = ka) (hka : ka ≠ 0) (hb : aE b = kb) (hkb : kb ≠ 0) (h : fusesT a b = false) : km a (b.getD 0 0) = false ∧ (b.getD 0 0).toNat ≠ 46 := by
 obtain ⟨ha0, hta⟩ := nW ha hka
 obtain ⟨hb0, htb⟩ := nW hb hkb
 refine ⟨?_, (qZ hb0 htb).2.2⟩
 have hhead := qZ ha0 hta
 have hg : (a ++ b).getD 0 0 = a.getD 0 0 := dX _ _ _ ha0
 unfold fusesT at h
 rw [if_neg (by rw [ha, hb]; omega)] at h
 simp only at h
 by_cases hcond : (scan (a ++ b)).err = 0 ∧ (scan (a ++ b)).toks.length = 2 ∧ (scan (a ++ b)).tail = []
 ·rw [if_pos hcond] at h
  simp only [Bool.not_eq_false', Bool.and_eq_true, beq_iff_eq] at h
  obtain ⟨⟨⟨g1, g2⟩, g3⟩, g4⟩ := h
  have h4 : ¬ 4096 < (a ++ b).length := fun hh => by
   have := hcond.1
   unfold scan at this
   rw [if_pos hh] at this
   simp at this
  obtain ⟨k, m, e, ht⟩ : ∃ k m e, tokenT (a ++ b) = (k, m, e) := ⟨_, _, _, rfl⟩
  have hlen := mU (l := a ++ b) (by simp; omega)
  rw [ht] at hlen
  simp only at hlen
  rcases Aj h4 (by simp; omega) (by rw [hg]; exact hhead.1) (by rw [hg]; exact hhead.2.1) ht with ⟨_, h2⟩ | ⟨rfl, h2⟩
  ·exact absurd hcond.1 h2
  ·obtain ⟨ts, h3⟩ := h2 hcond.1
   rw [h3] at g2
   simp only [List.getD_cons_zero] at g2
   have hm : m = a.length := by
    have := congrArg List.length g2
    rw [List.length_take] at this
    omega
   subst hm
   -- the token at the head of a ++ b is a
   cases hgr : km a (b.getD 0 0) with
   | false => rfl
   | true =>
    exfalso
    obtain ⟨c, b', rfl⟩ : ∃ c b', b = c :: b' := by
     cases b with
     | nil => simp at hb0
     | cons c b' => exact ⟨c, b', rfl⟩
    simp only [List.getD_cons_zero] at hgr
    unfold km at hgr
    simp only [Bool.or_eq_true, Bool.and_eq_true, beq_iff_eq] at hgr
    unfold tokenT at ht hta
    simp only at ht hta
    rw [hg] at ht
    by_cases hal : aT (a.getD 0 0) = false
    ·rw [if_pos hal] at hta; simp at hta
    rw [if_neg hal] at ht hta
    by_cases hl : ba (a.getD 0 0) = true
    ·rw [if_pos hl] at ht hta
     have hd : bb (a.getD 0 0) = false := by
      cases hx : bb (a.getD 0 0) with
      | false => rfl
      | true => simp [ba, ct, upperB, bb] at hl hx; omega
     have h61 : a ≠ [61] := fun e => by rw [e] at hl; exact absurd hl (by decide)
     rcases hgr with (⟨_, hw⟩ | ⟨hd', _⟩) | ⟨e, _⟩
     ·have l1 := oP ht
      have l2 := oP hta
      have hle := ii aO a
      by_cases hcond : bD a = true
      ·rw [if_pos hcond] at l2
       obtain ⟨c1, c2, c3, c4, c5⟩ := nP hcond
       generalize hn : spanN aO a = n at *
       generalize hm' : spanN aO (a.drop (n + 1)) = m' at *
       have e1 : spanN aO (a ++ c :: b') = n := by rw [pf _ _ _ (by omega), hn]
       have e2 : (a ++ c :: b').take n = a.take n := List.take_append_of_le_length (by omega)
       have hc' : bD (a ++ c :: b') = true := ta e1 (by rw [dX _ _ _ ha0]; exact c1) (by rw [e2]; exact c2) (by simp; omega) (by rw [dX _ _ _ (by omega)]; exact c4) (by rw [dX _ _ _ (by omega)]; exact c5)
       rw [if_pos hc', e1, List.drop_append_of_le_length (by omega), fD _ _ _ (by rw [hm', List.length_drop]; omega), List.length_drop] at l1
       have := nC (r := b') hw
       omega
      ·rw [if_neg hcond] at l2
       have e1 := fD aO a (c :: b') l2.symm
       have := nC (r := b') hw
       split at l1 <;> omega
     ·rw [hd] at hd'; simp at hd'
     ·exact h61 e
    ·rw [if_neg hl] at ht hta
     by_cases hd : bb (a.getD 0 0) = true
     ·rw [if_pos hd] at ht hta
      have h61 : a ≠ [61] := fun e => by rw [e] at hd; exact absurd hd (by decide)
      have hn : ∀ l n, cN l = (n, 0) → spanN bb l = n := fun l n h2 => by
       unfold cN at h2
       simp only at h2
       split at h2
       ·simp at h2
       ·split at h2
        ·simp at h2
        ·simp at h2; exact h2
      rcases hgr with (⟨hl', _⟩ | ⟨_, hw⟩) | ⟨e, _⟩
      ·exact hl hl'
      ·simp only [Prod.mk.injEq] at ht hta
       have l1 := hn _ _ ht.2
       have l2 := hn _ _ hta.2
       have e1 := fD bb a (c :: b') l2
       have := nC (r := b') hw
       omega
      ·exact h61 e
     ·rcases hgr with (⟨hl', _⟩ | ⟨hd', _⟩) | ⟨e, hc61⟩
      ·exact hl hl'
      ·exact hd hd'
      ·subst e
       rw [if_neg hd, if_neg (by decide), if_pos ⟨by decide, by simp, by simpa using hc61⟩] at ht
       simp at ht
 ·rw [if_neg hcond] at h; simp at h
def Apart : List TokZ → Prop
 | [] => True
 | [_] => True
 | a :: b :: r => (b.lead = [] → fusesT a.text b.text = false) ∧ Apart (b :: r)
theorem sX : ∀ (ts : List TokZ) (tail : List UInt8) (f pos : Nat) (acc : List TokZ), (∀ t ∈ ts, vd t) → Apart ts → bf false tail true = true → (cx ts tail).length < f →
  scanT f (cx ts tail) pos acc = ⟨acc ++ ts, tail, 0, 0⟩
 | ts, tail, 0, pos, acc, _, _, _, hf => by omega
 | [], tail, f + 1, pos, acc, hg, hap, ht, hf => by
  rw [qT] at ht
  simp only [jf, Bool.and_eq_true, Option.isNone_iff_eq_none, beq_iff_eq] at ht
  have : aB false tail 0 = (tail.length, none) := by rw [← ht.1.1, ← ht.1.2]
  simp only [cx, List.append_nil]
  rw [om this rfl]
 | t :: ts, tail, f + 1, pos, acc, hg, hap, ht, hf => by
  obtain ⟨g1, g2, g3⟩ := hg t (List.mem_cons_self ..)
  obtain ⟨h0, htk⟩ := nW (a := t.text) (k := aE t.text) rfl (by omega)
  have hhead := qZ h0 htk
  have hJ : cx (t :: ts) tail = t.lead ++ (t.text ++ cx ts tail) := by simp [cx]
  have hg0 : (t.text ++ cx ts tail).getD 0 0 = t.text.getD 0 0 := dX _ _ _ h0
  have hld : aB false (t.lead ++ (t.text ++ cx ts tail)) 0 = (t.lead.length, none) := by
   rw [xO _ _ _ _ g3, vp (by simp; omega) (by rw [hg0]; exact hhead.1) (by rw [hg0]; exact hhead.2.1), Nat.zero_add]
  have hnext : km t.text ((cx ts tail).getD 0 0) = false ∧ ((cx ts tail).getD 0 0).toNat ≠ 46 ∨ cx ts tail = [] := by
   cases ts with
   | nil =>
    by_cases he : tail = []
    ·exact .inr he
    ·exact .inl (sS (sU ht he))
   | cons t2 ts =>
    left
    obtain ⟨k1, k2, k3⟩ := hg t2 (List.mem_cons_of_mem _ (List.mem_cons_self ..))
    obtain ⟨h02, htk2⟩ := nW (a := t2.text) (k := aE t2.text) rfl (by omega)
    by_cases he : t2.lead = []
    ·have : (cx (t2 :: ts) tail).getD 0 0 = t2.text.getD 0 0 := by
      simp only [cx, he, List.nil_append]; exact dX _ _ _ h02
     rw [this]
     exact yr rfl (by omega) rfl (by omega) (hap.1 he)
    ·have hpos : 0 < t2.lead.length := List.length_pos_iff.2 he
     have : (cx (t2 :: ts) tail).getD 0 0 = t2.lead.getD 0 0 := by
      simp only [cx, List.append_assoc]; exact dX _ _ _ hpos
     rw [this]
     exact sS (sU k3 he)
  have htok : tokenT ((t.lead ++ (t.text ++ cx ts tail)).drop t.lead.length) = (aE t.text, t.text.length, 0) := by
   rw [List.drop_left]; exact zd h0 htk hnext
  have hap2 : Apart ts := by
   cases ts with
   | nil => trivial
   | cons t2 ts => exact hap.2
  rw [hJ] at hf ⊢
  simp only [List.length_append] at hf
  rw [oa hld (by simp only [List.length_append]; omega) htok]
  have e1 : (t.lead ++ (t.text ++ cx ts tail)).drop (t.lead.length + t.text.length) = cx ts tail := by
   rw [← List.drop_drop, List.drop_left, List.drop_left]
  have e2 : (t.lead ++ (t.text ++ cx ts tail)).take t.lead.length = t.lead := List.take_left
  have e3 : ((t.lead ++ (t.text ++ cx ts tail)).drop t.lead.length).take t.text.length = t.text := by rw [List.drop_left, List.take_left]
  rw [e1, e2, e3, sX ts tail f _ _ (fun x hx => hg x (List.mem_cons_of_mem _ hx)) hap2 ht (by omega)]
  congr 1
  rw [List.append_assoc]
  congr 1
  rw [List.singleton_append]
  congr 1
  cases t
  simp only at g1
  rw [g1]
theorem zQ {ts : List TokZ} {tail : List UInt8} (hg : ∀ t ∈ ts, vd t) (hap : Apart ts) (ht : bf false tail true = true) (hl : (cx ts tail).length ≤ 4096) : scan (cx ts tail) = ⟨ts, tail, 0, 0⟩ := by
 unfold scan
 rw [if_neg (by omega), sX ts tail _ 0 [] hg hap ht (Nat.lt_succ_self _)]
 rfl
section
variable {S : Nat → Prop} {w : World} {ρ : Nat → Option Value}
theorem wK : ∀ ls : List (List UInt8), CRel S w ρ 1 (ls.map .str) (ls.map sn)
 | [] => by simp [CRel]
 | s :: r => by
  simp only [List.map_cons, CRel]
  exact ⟨sn s, r.map sn, by simp [Value.cells, sn], ⟨rfl, rfl⟩, by unfold VRel; rfl, wK r⟩
theorem yg : ∀ ls : List Int, CRel S w ρ 1 (ls.map (V.int .i64)) (ls.map fun z => .int .i64 z)
 | [] => by simp [CRel]
 | s :: r => by
  simp only [List.map_cons, CRel]
  exact ⟨.int .i64 s, _, by simp [Value.cells], ⟨rfl, rfl⟩, by unfold VRel; rfl, yg r⟩
mutual
theorem TreeIs.vrel : ∀ {ρ : Nat → Option Value} {t : Tree} {c : List Value}, TreeIs S w t c → LRel S w ρ (ai t) c
 | ρ, .node k s ls ks, c, h => by
  simp only [TreeIs] at h
  obtain ⟨A, m, B, n, rfl, h1, h2, h3, h4, h5, cs, h6, h7⟩ := h
  simp only [ai, Tree.kind, Tree.text, Tree.leads, Tree.kids, LRel, VRel]
  exact ⟨_, _, rfl, rfl, _, _, rfl, rfl, _, _, rfl, ⟨A, m, _, by simp, by simpa using h1, h2, wK ls, by simpa using h5⟩, _, _, rfl, ⟨B, n, cs, by simp [og], by simpa [og] using h3, h4, KidsAre.crel h6, by simpa [og] using h7⟩, rfl⟩
theorem KidsAre.crel : ∀ {ρ : Nat → Option Value} {ts : List Tree} {cs : List Value}, KidsAre S w ts cs → CRel S w ρ 4 (kidsV ts) cs
 | ρ, [], cs, h => by simp only [KidsAre] at h; simp only [kidsV, CRel]; exact h
 | ρ, t :: r, cs, h => by
  simp only [KidsAre] at h
  obtain ⟨c, d, rfl, h1, h2⟩ := h
  simp only [kidsV, CRel, kh]
  exact ⟨.agg c.toArray, d, by simp [Value.cells], ⟨by simp [Value.cells, h1.four], by simpa [Value.cells] using h1.one⟩, by simp only [VRel]; exact ⟨c, rfl, h1.vrel⟩, KidsAre.crel h2⟩
end
end
theorem GE {fid : FuncId} {l : List Int} {b : Bool} (h : ov Tryz.prog fid [.row 1 (l.map (V.int .i64))] (.bool b)) {W : World} {A : Option Addr} {cap : Nat} (hc : l.length ≤ cap) (hm : cap ≤ maxLen) (hr : RowIn Any W 1 A l.length (l.map fun z => .int .i64 z)) : Calls Tryz.prog fid #[.slice A l.length cap] W fun e W' => e = .returned (.bool b) ∧ Ext W W' := by
 have h0 := CQ W
 have hr' : HRel (fun b => b < W.heap.size) W (fun _ => none) (⟨0, []⟩ : Hp).get := ⟨h0.ob, fun i b hb => by rw [nD] at hb; exact hb.elim, fun i j b hb _ => by rw [nD] at hb; exact hb.elim, fun _ h => h⟩
 have hrow : RowIn (fun b => b < W.heap.size) W 1 A l.length (l.map fun z => .int .i64 z) := ⟨hr.1, fun hp => by
  obtain ⟨b, off, h1, _, h3, h4⟩ := hr.2 hp
  exact ⟨b, off, h1, h3, h3, h4⟩⟩
 refine (h.2.2 _ W _ [.slice A l.length cap] hr' ?_).mono ?_
 ·simp only [LRel]
  exact ⟨_, _, rfl, by simp only [VRel]; exact ⟨A, cap, _, by simp, by simpa using hc, hm, yg l, by simpa using hrow⟩, rfl⟩
 ·rintro e W' ⟨x, S', ρ', v, H', rfl, rfl, h1, h2, h3⟩
  simp only [VRel] at h3
  subst h3
  have hno : ∀ b, ¬ ∃ id, own (fun _ => none) id ((⟨0, []⟩ : Hp).get id) b := fun b ⟨id, hb⟩ => by rw [nD] at hb; exact hb
  exact ⟨rfl, Chg.ext ⟨h2.chg.os, h2.chg.tape, h2.chg.output, h2.chg.size, fun b hb _ => h2.chg.block b hb (hno b)⟩⟩
def gTk (t : TokZ) : GToken := ⟨t.kind, t.lead, t.text⟩
theorem xT {S : Nat → Prop} {w : World} {ρ : Nat → Option Value} : ∀ (l : List TokZ), CRel S w ρ 3 ((l.map gTk).map GToken.w) (bI l)
 | [] => by simp [bI, CRel]
 | t :: r => by
  rw [show bI (t :: r) = [.int .i64 t.kind, .string ⟨t.lead.toArray⟩, .string ⟨t.text.toArray⟩] ++ bI r from rfl]
  simp only [List.map_cons, CRel]
  exact ⟨.agg #[.int .i64 t.kind, .string ⟨t.lead.toArray⟩, .string ⟨t.text.toArray⟩], bI r, by simp [Value.cells], ⟨rfl, rfl⟩, by
   simp only [VRel, GToken.w, GToken.c, gTk]
   exact ⟨[.int .i64 t.kind, .string ⟨t.lead.toArray⟩, .string ⟨t.text.toArray⟩], rfl, by simp only [LRel, VRel]; exact ⟨_, _, rfl, rfl, _, _, rfl, rfl, _, _, rfl, rfl, rfl⟩⟩, xT r⟩
theorem EM (l : List UInt8) (hl : l.length ≤ 281474976710656) : uu l ((scan l).toks.map gTk) (scan l).tail ((scan l).place : Nat) ((scan l).err : Nat) := by
 refine ⟨rfl, ?_, fun S w ρ xs hr hx => ?_⟩
 ·simp only [V.pure, pureL, Bool.and_true]
  first | done | exact cb _ (fun _ => rfl) _
 simp only [LRel, VRel] at hx
 obtain ⟨x, ys, rfl, rfl, rfl⟩ := hx
 refine (Bo l w hl).mono ?_
 rintro e w' ⟨v, rfl, ⟨A, c, rfl, hc, hm, hrow, hnew⟩, he⟩
 have hch : Chg [] w w' := sx he
 have g := hr.chg0 hch
 refine ⟨_, fun b => S b ∨ (w.heap.size ≤ b ∧ b < w'.heap.size), ρ, _, ⟨0, []⟩, rfl, rfl, ⟨fun i => ?_, fun i b hb => ?_, fun i j b hb _ => ?_, fun b hb => hb.elim (g.slt b) (·.2)⟩, ⟨ChgP.of0 hch, fun _ h => .inl h, fun b hb => hb.elim .inl (fun h => .inr (.inr h.1)), fun id b hb => by rw [nD] at hb; exact hb.elim, fun id x h => ?_⟩, ?_⟩
 ·have := g.ob i; rw [nD] at this ⊢; exact this
 ·rw [nD] at hb; exact hb.elim
 ·rw [nD] at hb; exact hb.elim
 ·simp only [ru] at h
  split at h
  ·exact h
  ·cases h
 ·simp only [VRel]
  refine ⟨[.slice A (scan l).toks.length c, .string ⟨(scan l).tail.toArray⟩, .int .i64 ((scan l).place : Nat), .int .i64 ((scan l).err : Nat)], rfl, _, _, rfl, ?_, _, _, rfl, by simp only [VRel], _, _, rfl, by simp only [VRel], _, _, rfl, by simp only [VRel], rfl⟩
  simp only [VRel]
  refine ⟨A, c, bI (scan l).toks, by simp, by simpa using hc, hm, xT _, by simpa using hrow.1, fun hn => ?_⟩
  obtain ⟨b, off, e1, h1, h2⟩ := hrow.2 (by simpa using hn)
  obtain ⟨b', off', e2, h3⟩ := hnew (by simpa using hn)
  rw [e1] at e2
  injection e2 with e2
  injection e2 with e3 e4 e5
  subst e3
  exact ⟨b, off, e1, .inr ⟨h3, h1⟩, h1, by simpa using h2⟩
def tkA : List UInt8 → List Pce → List TokZ
 | _, [] => []
 | last, p :: r => ⟨aE p.Text, ah last p.Lead p.Text, p.Text⟩ :: tkA p.Text r
theorem vq : ∀ (l : List TokZ) (x y : List UInt8), cx l (x ++ y) = cx l x ++ y
 | [], x, y => rfl
 | t :: r, x, y => by simp only [cx, vq r, List.append_assoc]
theorem wb : ∀ (l : List Pce) (last out : List UInt8), (bi l (last, out)).2 = out ++ cx (tkA last l) []
 | [], last, out => by simp [bi, tkA, cx]
 | p :: r, last, out => by
  rw [dT]
  show (bi r (p.Text, out ++ ah last p.Lead p.Text ++ p.Text)).2 = _
  rw [wb r]
  simp only [tkA, cx, List.append_assoc]
def GdP (l : List Pce) : Prop := ∀ p ∈ l, aE p.Text ≠ 0 ∧ bf false p.Lead false = true
theorem wJ : ∀ (l : List Pce) (last : List UInt8), GdP l → ∀ t ∈ tkA last l, vd t
 | [], last, h, t, ht => by simp [tkA] at ht
 | p :: r, last, h, t, ht => by
  rw [tkA] at ht
  rcases List.mem_cons.1 ht with rfl | ht
  ·have hp := h p (by simp)
   refine ⟨rfl, by simp only; have := hp.1; omega, ?_⟩
   simp only [ah]
   split
   ·rfl
   ·exact hp.2
  ·exact wJ r _ (fun q hq => h q (by simp [hq])) t ht
theorem CE {x : List UInt8} (h : aE x ≠ 0) : x ≠ [] := by
 rintro rfl
 exact h rfl
theorem vS : ∀ (l : List Pce) (last : List UInt8), GdP l → Apart (tkA last l)
 | [], last, h => trivial
 | [p], last, h => trivial
 | p :: q :: r, last, h => by
  refine ⟨fun e => ?_, vS (q :: r) p.Text fun x hx => h x (by simp [List.mem_cons.1 hx])⟩
  simp only [ah] at e
  split at e
  ·cases e
  ·rename_i hn
   have hp := CE (h p (by simp)).1
   cases hf : fusesT p.Text q.Text with
   | false => rfl
   | true => exact absurd ⟨e, hp, hf⟩ hn
theorem gdn : GdP [] := fun p h => by cases h
theorem gdc {p : Pce} {l : List Pce} (h : aE p.Text ≠ 0 ∧ bf false p.Lead false = true) (hl : GdP l) : GdP (p :: l) := fun q hq => by rcases List.mem_cons.1 hq with rfl | hq; exact h; exact hl q hq
theorem gdw {lead tok : List UInt8} {l : List Pce} (h : aE tok ≠ 0) (ht : bf false lead false = true) (hl : GdP l) : GdP (⟨lead, tok⟩ :: l) := gdc ⟨h, ht⟩ hl
theorem gda {a b : List Pce} (h : GdP a) (hl : GdP b) : GdP (a ++ b) := fun q hq => by rcases List.mem_append.1 hq with hq | hq; exact h q hq; exact hl q hq
theorem gdd {gs : List (List Pce)} (h : ∀ g ∈ gs, GdP g) (i : Nat) : GdP (gs.getD i []) := by
 rw [List.getD_eq_getElem?_getD]
 cases e : gs[i]? with
 | none => exact gdn
 | some g => exact h g (List.mem_of_getElem? e)
theorem gdf : ∀ {gs : List (List Pce)}, (∀ g ∈ gs, GdP g) → GdP gs.flatten
 | [], h => gdn
 | g :: r, h => gda (h g (by simp)) (gdf fun x hx => h x (by simp [hx]))
theorem gdr {ls : List (List UInt8)} (hl : ∀ i, bf false (ls.getD i []) false = true) (c : Nat) : ∀ {gs : List (List Pce)} (i : Nat), (∀ g ∈ gs, GdP g) → GdP (aw ls c gs i)
 | [], i, h => gdn
 | g :: r, i, h => by
  rw [aw]
  refine gda ?_ (gda (h g (by simp)) (gdr hl c (i + 1) fun x hx => h x (by simp [hx])))
  split
  ·exact gdw (by decide) (hl _) gdn
  ·exact gdn
theorem yw {x : List UInt8} (h : en x = true) : aE x ≠ 0 := by
 simp [en] at h
 rcases h with (((h | h) | h) | h) | h <;> (subst h; decide)
theorem Dk {k : Int} {x : List UInt8} {ls : List (List UInt8)} {gs : List (List Pce)} {n : Int} (hn : 0 ≤ aV k n) (hk : k ≠ 1) (hx : dg k x = true) (hl : ∀ i, bf false (ls.getD i []) false = true) (hg : ∀ g ∈ gs, GdP g) : GdP (bc k x ls gs) := by
 have hw : (k = 2 ∨ k = 3 ∨ k = 4 ∨ k = 16 ∨ k = 20 ∨ k = 21 ∨ k = 9 ∨ k = 10 ∨ k = 11 ∨ k = 12) → aE x ≠ 0 := by
  intro hc e
  unfold dg at hx
  rw [e] at hx
  repeat' split at hx
  all_goals first | (revert hx; decide) | exact yw hx e | omega
 have hleaf : k = 5 ∨ k = 6 ∨ k = 7 ∨ k = 13 ∨ k = 14 ∨ k = 15 ∨ k = 9 ∨ k = 10 ∨ k = 11 ∨ k = 12 ∨ k = 1 ∨ k = 2 ∨ k = 3 ∨ k = 4 ∨ k = 17 ∨ k = 8 ∨ k = 16 ∨ k = 18 ∨ k = 19 ∨ k = 20 ∨ k = 21 ∨ k = 22 := by
  revert hn
  unfold aV
  repeat' split
  all_goals (intro _; first | omega | contradiction)
 unfold bc
 rw [if_neg hk]
 by_cases h2 : k = 2
 ·rw [if_pos h2]; repeat first | exact gdn | exact gdd hg _ | exact gdf hg | exact gdr hl _ _ (fun g h => hg g (List.mem_of_mem_take h)) | refine gdw (by decide) (hl _) ?_ | refine gdw (hw (by omega)) (hl _) ?_ | refine gda ?_ ?_
 rw [if_neg h2]
 by_cases h3 : k = 3
 ·rw [if_pos h3]; repeat first | exact gdn | exact gdd hg _ | refine gdw (by decide) (hl _) ?_ | refine gdw (hw (by omega)) (hl _) ?_ | refine gda ?_ ?_
 rw [if_neg h3]
 by_cases h4 : k = 4
 ·rw [if_pos h4]; repeat first | exact gdn | exact gdd hg _ | refine gdw (by decide) (hl _) ?_ | refine gdw (hw (by omega)) (hl _) ?_ | refine gda ?_ ?_
 rw [if_neg h4]
 by_cases h17 : k = 17
 ·rw [if_pos h17]; exact gdd hg _
 rw [if_neg h17]
 by_cases h8 : k = 8
 ·rw [if_pos h8]; repeat first | exact gdn | exact gdd hg _ | refine gdw (by decide) (hl _) ?_ | refine gda ?_ ?_
 rw [if_neg h8]
 by_cases h16 : k = 16
 ·rw [if_pos h16]; repeat first | exact gdn | exact gdd hg _ | exact gdr hl _ _ hg | refine gdw (by decide) (hl _) ?_ | refine gdw (hw (by omega)) (hl _) ?_ | refine gda ?_ ?_
 rw [if_neg h16]
 by_cases h18 : k = 18
 ·rw [if_pos h18]; repeat first | exact gdn | exact gdd hg _ | exact gdr hl _ _ hg | refine gdw (by decide) (hl _) ?_ | refine gda ?_ ?_
 rw [if_neg h18]
 by_cases h19 : k = 19
 ·rw [if_pos h19]; repeat first | exact gdn | exact gdd hg _ | refine gdw (by decide) (hl _) ?_ | refine gda ?_ ?_
 rw [if_neg h19]
 by_cases h20 : k = 20
 ·rw [if_pos h20]; repeat first | exact gdn | exact gdd hg _ | refine gdw (by decide) (hl _) ?_ | refine gdw (hw (by omega)) (hl _) ?_ | refine gda ?_ ?_
 rw [if_neg h20]
 by_cases h21 : k = 21
 ·rw [if_pos h21]; repeat first | exact gdn | exact gdd hg _ | refine gdw (hw (by omega)) (hl _) ?_ | refine gda ?_ ?_
 rw [if_neg h21]
 by_cases h22 : k = 22
 ·rw [if_pos h22]; repeat first | exact gdn | exact gdd hg _ | refine gdw (by decide) (hl _) ?_ | refine gda ?_ ?_
 rw [if_neg h22]
 refine gdw ?_ (hl _) gdn
 repeat' split
 all_goals first | decide | exact hw (by omega)
def mN : List UInt8 → List Pce → List UInt8
 | _, [] => []
 | last, p :: r => ah last p.Lead p.Text ++ (p.Text ++ mN p.Text r)
theorem xX : ∀ (l : List Pce) (last out : List UInt8), (bi l (last, out)).2 = out ++ mN last l
 | [], last, out => by simp [bi, mN]
 | p :: r, last, out => by
  rw [dT]
  show (bi r (p.Text, out ++ ah last p.Lead p.Text ++ p.Text)).2 = _
  rw [xX r]
  simp only [mN, List.append_assoc]
theorem Ar (a : List UInt8) : fusesT a [] = false := by simp [fusesT, aE]
theorem DM {t : Tree} (hk : t.kind = 1) : pcT t = pcM t ++ [⟨t.leads.getD 2 [], []⟩] := by
 rw [bg, hk]; simp [bc, pcM]
theorem EZ {t : Tree} (hs : shapeK t = true) : ej t = mN [] (pcT t) := by
 by_cases hk : t.kind = 1
 ·rw [vi hk hs]
  have h := xX (pcT t) [] []
  rw [List.nil_append] at h
  rw [← h, DM hk, dU]
  show _ = (mg (t.leads.getD 2 []) [] (bi (pcM t) ([], []))).2
  simp only [mg, ah, Ar, List.append_nil]
  rw [if_neg (fun h => absurd h.2.2 (by decide))]
 ·have h := xX (pcT t) [] []
  rw [List.nil_append] at h
  rw [show ej t = _ from if_neg hk, h]
def nT (l : List Pce) (i : Nat) : List UInt8 := if i = 0 then [] else ((l[i - 1]?).map (·.Text)).getD []
theorem zz {l : List Pce} {i : Nat} {x : Pce} (h : l[i]? = some x) : nT l (i + 1) = x.Text := by
 unfold nT; rw [if_neg (by omega), Nat.add_sub_cancel, h]; rfl
theorem Cg {l : List Pce} {i : Nat} {y : Pce} (h0 : 0 < i) (h : l[i - 1]? = some y) : nT l i = y.Text := by
 unfold nT; rw [if_neg (by omega), h]; rfl
theorem Cs (t : Tree) (ht : tbulk t ≤ 2000000) : jM t (if (shapeK t && leadedT t) = true then ej t else []) := by
 have hp := rG t (by omega)
 cases h : (shapeK t && leadedT t) with
 | false =>
  rw [h] at hp
  exact nb 0 _ _ ⟨_, hp, fun _ => rfl, fun h => (by cases h)⟩
 | true =>
  rw [h] at hp
  simp only [Bool.and_eq_true] at h
  obtain ⟨l, e, z, q, el⟩ := rq t ht h.1 [] (by simp; omega)
  have hq := q bT
  simp only [List.length_nil] at z
  rw [List.nil_append] at el
  have loop : ∀ k i (s : List UInt8), l.length - i ≤ k → s.length ≤ i * 4000020 → i ≤ l.length → bY (k + 1) l s i (s ++ mN (nT l i) (l.drop i)) := fun k => by
   induction k with
   | zero => intro i s hi hsl hil; exact db 0 _ _ _ _ ⟨fun h => by omega, fun _ => by rw [List.drop_of_length_le (by omega)]; simp [mN]⟩
   | succ k ihk =>
    intro i s hi hsl hil
    obtain ⟨x, hx, hxl⟩ | h' := aN l i
    ·obtain ⟨hx1, hx2⟩ := hq x (List.mem_of_getElem? hx)
     have hmul : (i + 1) * 4000020 = i * 4000020 + 4000020 := Nat.succ_mul _ _
     have hr1 := ihk (i + 1) (((s ++ [32]) ++ x.Lead) ++ x.Text) (by omega) (by simp only [List.length_append, List.length_cons, List.length_nil]; omega) (by omega)
     have hr2 := ihk (i + 1) ((s ++ x.Lead) ++ x.Text) (by omega) (by simp only [List.length_append]; omega) (by omega)
     rw [zz hx] at hr1 hr2
     rw [cV hx, mN]
     have plain (hg : ah (nT l i) x.Lead x.Text = x.Lead) : s.length + x.Lead.length ≤ 9223372036854775807 ∧ ∃ y : Pce, l[i]? = some y ∧ (s ++ x.Lead).length + y.Text.length ≤ 9223372036854775807 ∧ bY (k + 1) l ((s ++ x.Lead) ++ y.Text) (i + 1) (s ++ (ah (nT l i) x.Lead x.Text ++ (x.Text ++ mN x.Text (l.drop (i + 1))))) := ⟨by omega, x, hx, by simp only [List.length_append]; omega, by rw [hg]; simpa [List.append_assoc] using hr2⟩
     by_cases h0 : (0 : Int) < ((i : Nat) : Int)
     ·by_cases hle : x.Lead = []
      ·obtain ⟨y, hy, hyl⟩ | h' := aN l (i - 1)
       rotate_left
       ·omega
       obtain ⟨hy1, hy2⟩ := hq y (List.mem_of_getElem? hy)
       have hf := xy y.Text x.Text (by omega) (by omega)
       have hly : nT l i = y.Text := Cg (by omega) hy
       cases hb2 : fusesT y.Text x.Text with
       | true =>
        rw [hb2] at hf
        have hg : ah (nT l i) x.Lead x.Text = [32] := by
         rw [hly, ah, if_pos ⟨hle, fun e => (by rw [e] at hb2; cases hb2), hb2⟩]
        rw [hg]
        have hr1' : bY (k + 1) l (((s ++ [32]) ++ x.Lead) ++ x.Text) (i + 1) (s ++ ([32] ++ (x.Text ++ mN x.Text (l.drop (i + 1))))) := by simpa [hle, List.append_assoc] using hr1
        exact (db (k + 1) _ _ _ _ ⟨fun _ => ⟨fun _ => ⟨x, hx, fun _ => ⟨by omega, i - 1, by omega, y, hy, x, hx, _, hf, fun _ => ⟨by simp only [List.length_cons, List.length_nil]; omega, x, hx, by simp only [List.length_append, List.length_cons, List.length_nil]; omega, x, hx, by simp only [List.length_append, List.length_cons, List.length_nil]; omega, hr1'⟩, fun h => by (cases h)⟩, fun h => absurd hle h⟩, fun h => absurd h0 h⟩, fun h => absurd hxl h⟩)
       | false =>
        rw [hb2] at hf
        exact (db (k + 1) _ _ _ _ ⟨fun _ => ⟨fun _ => ⟨x, hx, fun _ => ⟨by omega, i - 1, by omega, y, hy, x, hx, _, hf, fun h => by (cases h), fun _ => ⟨x, hx, plain (by rw [hly, ah, if_neg (fun h => by rw [hb2] at h; exact absurd h.2.2 (by decide))])⟩⟩, fun h => absurd hle h⟩, fun h => absurd h0 h⟩, fun h => absurd hxl h⟩)
      ·exact (db (k + 1) _ _ _ _ ⟨fun _ => ⟨fun _ => ⟨x, hx, fun h => absurd h hle, fun _ => ⟨x, hx, plain (by rw [ah, if_neg (fun h => hle h.1)])⟩⟩, fun h => absurd h0 h⟩, fun h => absurd hxl h⟩)
     ·exact (db (k + 1) _ _ _ _ ⟨fun _ => ⟨fun h => absurd h h0, fun _ => ⟨x, hx, plain (by rw [ah, if_neg (fun h => h.2.1 (by rw [show i = 0 by omega]; rfl))])⟩⟩, fun h => absurd hxl h⟩)
    ·exact db (k + 1) _ _ _ _ ⟨fun h => absurd h h', fun _ => by rw [List.drop_of_length_le (by omega)]; simp [mN]⟩
  have hr := loop l.length 0 [] (by omega) (by simp) (by omega)
  rw [show nT l 0 = [] from rfl, List.drop_zero, List.nil_append, el, ← EZ h.1, ← el] at hr
  exact nb (l.length + 1) _ _ ⟨_, hp, fun h => (by cases h), fun _ => ⟨l, mJ 0 _ _ ⟨_, e, rfl⟩, hr⟩⟩
theorem vX : ∀ {k : Int} {ls : List (List UInt8)} {i : Nat}, k ≠ 1 → di k ls i = true → ∀ j, bf false (ls.getD j []) false = true
 | k, [], i, hk, h, j => by simp [bf]
 | k, l :: r, i, hk, h, 0 => by
  simp only [di, Bool.and_eq_true] at h
  have h1 := h.1
  rw [show (k == 1) = false from by simpa using hk, Bool.false_and] at h1
  exact h1
 | k, l :: r, i, hk, h, j + 1 => by
  simp only [di, Bool.and_eq_true] at h
  have := vX hk h.2 j
  simpa using this
theorem tH : ∀ {ls : List (List UInt8)} {i : Nat}, di 1 ls i = true → ∀ j, i + j ≠ 2 → bf false (ls.getD j []) false = true
 | [], i, h, j, hj => by simp [bf]
 | l :: r, i, h, 0, hj => by
  simp only [di, Bool.and_eq_true] at h
  have h1 := h.1
  rw [show ((i : Int) == 2) = false from by simp; omega, Bool.and_false] at h1
  exact h1
 | l :: r, i, h, j + 1, hj => by
  simp only [di, Bool.and_eq_true] at h
  have := tH h.2 j (by omega)
  simpa using this
theorem vr : ∀ {ls : List (List UInt8)} {i : Nat}, di 1 ls i = true → ∀ j, i + j = 2 → bf false (ls.getD j []) true = true
 | [], i, h, j, hj => by simp [bf]
 | l :: r, i, h, 0, hj => by
  simp only [di, Bool.and_eq_true] at h
  have h1 := h.1
  rw [show ((i : Int) == 2) = true from by simp; omega] at h1
  exact h1
 | l :: r, i, h, j + 1, hj => by
  simp only [di, Bool.and_eq_true] at h
  have := vr h.2 j (by omega)
  simpa using this
theorem Du : ∀ t : Tree, t.kind ≠ 1 → shapeK t = true → leadedT t = true → GdP (pcT t) := bV fun t ih hk hs hl => by
 obtain ⟨g1, g2, g3⟩ := eK hl
 have hs' := hs
 rw [gW] at hs'
 simp only [Bool.and_eq_true, decide_eq_true_eq] at hs'
 rw [bg]
 refine Dk hs'.1.1 hk hs'.1.2 (vX hk g2) fun g hg => ?_
 rw [ku] at hg
 obtain ⟨u, hu, rfl⟩ := List.mem_map.1 hg
 obtain ⟨i, hi⟩ := List.mem_iff_getElem?.1 hu
 exact ih i u hi (mt (aL hs hi).2) (aL hs hi).1 (dZ g3 hi)
theorem Fj {t : Tree} (hk : t.kind = 1) (hs : shapeK t = true) (hl : leadedT t = true) : GdP (pcM t) := by
 obtain ⟨g1, g2, g3⟩ := eK hl
 have hs' := hs
 rw [gW] at hs'
 simp only [Bool.and_eq_true, decide_eq_true_eq] at hs'
 have hw : aE t.text ≠ 0 := by
  have := hs'.1.2
  rw [hk] at this
  intro e
  unfold dg at this
  rw [if_pos (.inl rfl), e] at this
  revert this; decide
 rw [hk] at g2
 refine gdw (by decide) (tH g2 0 (by decide)) (gdw hw (tH g2 1 (by decide)) (gdf fun g hg => ?_))
 rw [ku] at hg
 obtain ⟨u, hu, rfl⟩ := List.mem_map.1 hg
 obtain ⟨i, hi⟩ := List.mem_iff_getElem?.1 hu
 exact Du u (mt (aL hs hi).2) (aL hs hi).1 (dZ g3 hi)
theorem pK {t : Tree} (hk : t.kind = 1) (hs : shapeK t = true) : ej t = cx (tkA [] (pcM t)) (t.leads.getD 2 []) := by
 rw [vi hk hs, wb, List.nil_append, ← vq, List.nil_append]
theorem Av {t : Tree} (hk : t.kind = 1) (hs : shapeK t = true) (hl : leadedT t = true) (h4 : (ej t).length ≤ 4096) : scan (ej t) = ⟨tkA [] (pcM t), t.leads.getD 2 [], 0, 0⟩ := by
 obtain ⟨g1, g2, g3⟩ := eK hl
 rw [hk] at g2
 have hg := Fj hk hs hl
 rw [pK hk hs] at h4 ⊢
 exact zQ (wJ _ _ hg) (vS _ _ hg) (vr g2 2 rfl) h4
theorem Fc {P : Program} {K : Ctx} {H : Hp} {fid : FuncId} {vs us : List V} {ik : IntKind} {n : Int} (hS : ov P fid us (.int ik n)) {id sz : Nat} {e : TypeId} {els : List V} (ho : H.get id = .row e sz els) (hp : pureL els = true)
  (hs : ∀ {S S1 : Nat → Prop} {w : World} {ρ : Nat → Option Value} {xs : List Value}, Up S S1 w w ρ ρ → (∀ x, VRel S w ρ (.sl id) x → VRel S1 w ρ (.row sz els) x) → LRel S w ρ vs xs → LRel S1 w ρ us xs) (L : List Nat) (hL : ek H.get L = true) : CallR P K fid vs H L (fun v' H'' => v' = .int ik n ∧ H'' = H) := fun S w ρ xs hr hi hx => by
 obtain ⟨h1, h2, h3⟩ := hS
 obtain ⟨f1, f2⟩ := jo (id := id) hr
 have hx1 := hs f2 (fun x hx => uc hr ho hp hx) hx
 have hr0 : HRel (fun b => S b ∨ own ρ id (H.get id) b) w ρ0 (⟨0, []⟩ : Hp).get := ⟨fun i => by rw [pH]; rfl, fun i b hb => by rw [pH] at hb; exact hb.elim, fun i j b hb _ => by rw [pH] at hb; exact hb.elim, f1.slt⟩
 refine (h3 _ w ρ0 xs hr0 (hx1.pure h1)).mono fun e w' hR => ?_
 obtain ⟨x, S', ρ', u, H', rfl, rfl, hr', hi', hv⟩ := hR
 have hno : ∀ b, ¬ ∃ id, own ρ0 id ((⟨0, []⟩ : Hp).get id) b := fun b ⟨id, hb⟩ => by rw [pH] at hb; exact hb
 have hc : Chg [] w w' := ⟨hi'.chg.os, hi'.chg.tape, hi'.chg.output, hi'.chg.size, fun b hb _ => hi'.chg.block b hb (hno b)⟩
 have up : Up S S w w' ρ ρ := ⟨fun _ h => h, fun b hb hlt => hc.block b hlt (by simp), fun _ _ h => h⟩
 refine ⟨x, S, ρ, .int ik n, H, rfl, ⟨rfl, rfl⟩, ⟨fun i => (hr.ob i).up up (fun hf => ?_) (fun b hb => hc.block b (gi (hr.ob i) hb) (by simp)), hr.sep, hr.dis, fun b hb => Nat.lt_of_lt_of_le (hr.slt b hb) hc.size⟩, ⟨hi.chg.trans (ChgP.of hc) (fun b hb => by simp at hb), hi.s0, hi.s1, hi.ow, hi.pin⟩, up, (by simpa only [VRel] using hv), fun id hid y b hy hb => ?_⟩
 ·have := hr.ob i; rw [hf] at this; exact this
 ·exact hc.block b (gi (hr.ob id) (ms hr hL id hid y b hy hb)) (by simp)
section
variable {T : Tab} {K : Ctx} {Q : Exit → Act → World → Prop} {s : List EI} {n : Nat} {F F1 : Fm} {H : Hp} {all : Array Oper} {rest : List Oper}
theorem gCL {fid : FuncId} {args : List Operand} {tys : Array TypeId} {k : Int} {tx : List UInt8} {ks : V} {ik : IntKind} {m : Int} {d : Option Tmp} {ty : TypeId} {ps : String} {af : Array Edge} {g : Option (Nat × Bool)} {e : TypeId} {sz : Nat} {els : List V} (i0 : Nat) (hS : ov Tryz.prog fid [.agg [.int .i64 k, .str tx, .row sz els, ks]] (.int ik m)) (he : dS Tryz.prog fid = true) (hw : ch F all g = some true) (hv : gO F args = some [.agg [.int .i64 k, .str tx, .sl i0, ks]]) (ho : H.get i0 = .row e sz els) (hp : pureL els = true) (h1 : F.puto d (some (.int ik m)) id = F1)
  (kk : Go Tryz.prog K Q (.ops all rest) s n F1 H) : Go Tryz.prog K Q (.ops all (⟨d, .call { callee := .value (.func fid), args := args.toArray, argTypes := tys }, ty, ps, af, g⟩ :: rest)) s n F H := by
 rw [Fm.puto_eq] at h1; subst h1
 refine go_opC (o := ⟨d, .call { callee := .value (.func fid), args := args.toArray, argTypes := tys }, ty, ps, af, g⟩) he rfl hw hv (Fc hS ho hp (fun up f h => ?_) [] rfl) fun v' H'' ⟨e1, e2⟩ => by subst e1 e2; exact kk
 rw [LRel] at h ⊢
 obtain ⟨x, ys, e0, h1, h2⟩ := h
 rw [VRel] at h1
 obtain ⟨xs, e1, h3⟩ := h1
 refine ⟨x, ys, e0, ?_, by simpa only [LRel] using h2⟩
 rw [VRel]
 refine ⟨xs, e1, ?_⟩
 rw [LRel] at h3 ⊢
 obtain ⟨x1, y1, a1, b1, h3⟩ := h3
 refine ⟨x1, y1, a1, by simpa only [VRel] using b1, ?_⟩
 rw [LRel] at h3 ⊢
 obtain ⟨x2, y2, a2, b2, h3⟩ := h3
 refine ⟨x2, y2, a2, by simpa only [VRel] using b2, ?_⟩
 rw [LRel] at h3 ⊢
 obtain ⟨x3, y3, a3, b3, h3⟩ := h3
 refine ⟨x3, y3, a3, f _ b3, ?_⟩
 rw [LRel] at h3 ⊢
 obtain ⟨x4, y4, a4, b4, h3⟩ := h3
 exact ⟨x4, y4, a4, b4.up up, by simpa only [LRel] using h3⟩
end
abbrev vA (a0 : List GToken) (a1 : Int) (a2 : Int) (a3 : Int) (a4 : Int) : Ob := .var 44 [.row 3 (List.map GToken.w a0), .int .i64 a1, .int .i64 a2, .int .i64 a3, .int .i64 a4]
abbrev vN (n : Nat) : List (List UInt8) := List.replicate n []
def bX (a : List GToken) (b g c j p1 : Int) (d : List GToken) (e i f k : Int) : Prop := bS [] Tryz.prog 50 [.ptr 0 0, .int .i64 p1] ⟨1, [(0, vA a b g c j)]⟩ (fun u G => u = .tup [] ∧ G = ⟨1, [(0, vA d e i f k)]⟩)
def aH (a : List GToken) (b i d k : Int) (r0 : GToken) (e : List GToken) (f j g l : Int) : Prop := bS [] Tryz.prog 49 [.ptr 0 0] ⟨1, [(0, vA a b i d k)]⟩ (fun u G => u = .agg (GToken.c r0) ∧ G = ⟨2, [(0, vA e f j g l)]⟩)
def aI (a : List GToken) (b i d k : Int) (r0 : GToken) (e : List GToken) (f j g l : Int) : Prop := bS [] Tryz.prog 76 [.ptr 0 0] ⟨1, [(0, vA a b i d k)]⟩ (fun u G => u = .agg (GToken.c r0) ∧ G = ⟨2, [(0, vA e f j g l)]⟩)
def ay (a : List GToken) (b g c j : Int) (p1 r0 : List UInt8) (d : List GToken) (e i f k : Int) : Prop := bS [] Tryz.prog 47 [.ptr 0 0, .str p1] ⟨1, [(0, vA a b g c j)]⟩ (fun u G => u = .str r0 ∧ G = ⟨1, [(0, vA d e i f k)]⟩)
def cm (a : List GToken) (b g c j p1 p2 : Int) (r0 r1 : List UInt8) (d : List GToken) (e i f k : Int) : Prop := bS [] Tryz.prog 48 [.ptr 0 0, .int .i64 p1, .int .i64 p2] ⟨1, [(0, vA a b g c j)]⟩ (fun u G => u = .tup [.str r0, .str r1] ∧ G = ⟨1, [(0, vA d e i f k)]⟩)
def pL (p0 : GToken) (r0 : Bool) : Prop := qS 129 [.agg (GToken.c p0)] (.bool r0)
def cU (a : List GToken) (b g c j : Int) (r0 : Tree) (d : List GToken) (e i f k : Int) : Prop := bS [] Tryz.prog 78 [.ptr 0 0] ⟨1, [(0, vA a b g c j)]⟩ (fun u G => u = .agg (ai r0) ∧ G = ⟨2, [(0, vA d e i f k)]⟩)
def cZ (a : List GToken) (b g c j : Int) (r0 : Tree) (d : List GToken) (e i f k : Int) : Prop := bS [] Tryz.prog 77 [.ptr 0 0] ⟨1, [(0, vA a b g c j)]⟩ (fun u G => u = .agg (ai r0) ∧ G = ⟨2, [(0, vA d e i f k)]⟩)
def iY (a : List GToken) (b g c j : Int) (r0 : Tree) (d : List GToken) (e i f k : Int) : Prop := bS [] Tryz.prog 52 [.ptr 0 0] ⟨1, [(0, vA a b g c j)]⟩ (fun u G => u = .agg (ai r0) ∧ G = ⟨2, [(0, vA d e i f k)]⟩)
def fY (p0 : Tree) (r0 : Int) : Prop := qS 26 [.agg (ai p0)] (.int .i64 r0)
theorem rS_syntax_parser_next (m : Nat) (a : List GToken) (b d c j : Int) (r0 : GToken) (e : List GToken) (g k i n : Int) (h : (((a.length : Int) = 0) → (GToken.mk 0 [] []) = r0 ∧ a = e ∧ b = g ∧ d = k ∧ c = i ∧ j = n) ∧ (((a.length : Int) ≠ 0) → ∃ l, a[0]? = some l ∧ l = r0 ∧ a = e ∧ b = g ∧ d = k ∧ c = i ∧ j = n)) : aH a b d c j r0 e g k i n := by
 refine am 16 [0] Tryz.func49 rfl rfl rfl (aM rfl) fun K hK => ?_
 refine gR 13 rfl <| gV 7 (.int .i64 (a.length : Int)) rfl (bx (aZ GToken.w _)) rfl <| gLB 6 rfl (aZ GToken.w _) fun hl2 => gR 3 rfl <| qBe 8 rfl rfl rfl h (fun h => ?_) fun h => ?_
 refine gR 9 rfl ?_
 obtain ⟨rfl, rfl, rfl, rfl, rfl, rfl⟩ := h
 exact go_sub (F' := (mkF 16 0 [(2, .ptr 1 0)])) (H' := ⟨2, [(1, .var 46 [.int .i64 ((GToken.mk 0 [] []).Kind), .str ((GToken.mk 0 [] []).Lead), .str ((GToken.mk 0 [] []).Text)]), (0, vA a b d c j)]⟩) [0, 1] [0] rfl hK pq1 (pqo2 rfl rfl rfl rfl) rfl <| go_endD [1] ab (rs := [.cell 2 46]) rfl rfl ⟨rfl, rfl⟩
 refine gR 9 rfl ?_
 obtain ⟨l, hxx0_1, h⟩ := h
 refine gY (az (mapget (f := GToken.w) hxx0_1) ab rfl rfl rfl rfl) rfl rfl <| gR 5 rfl ?_
 obtain ⟨rfl, rfl, rfl, rfl, rfl, rfl⟩ := h
 exact go_sub (F' := (mkF 16 0 [(2, .ptr 1 0)])) (H' := ⟨2, [(1, .var 46 (GToken.c l)), (0, vA a b d c j)]⟩) [0, 1] [0] rfl hK pq1 (pqo2 rfl rfl rfl rfl) rfl <| go_endD [1] ab (rs := [.cell 2 46]) rfl rfl ⟨rfl, rfl⟩
theorem mq (m : Nat) (a : List GToken) (d g e i : Int) (r0 : GToken) (j : List GToken) (k o l p : Int) (h : ∃ b, a[0]? = some b ∧ 1 ≤ a.length ∧ (((((a.drop 1).length : Nat) : Int) = 0) → b = r0 ∧ (a.drop 1) = j ∧ g = k ∧ g = o ∧ e = l ∧ i = p) ∧ (((((a.drop 1).length : Nat) : Int) ≠ 0) → ∃ n, (a.drop 1)[0]? = some n ∧ b.Text.length + n.Lead.length ≤ 9223372036854775807 ∧ InI (d + ((b.Text.length + n.Lead.length : Nat) : Int)) ∧ b = r0 ∧ (a.drop 1) = j ∧ (d + ((b.Text.length + n.Lead.length : Nat) : Int)) = k ∧ g = o ∧ e = l ∧ i = p)) : aI a d g e i r0 j k o l p := by
 refine am 51 [0] Tryz.func76 rfl rfl rfl (aM rfl) fun K hK => ?_
 refine gR 11 rfl ?_
 obtain ⟨b, hxx0_1, h⟩ := h
 refine gY (az (mapget (f := GToken.w) hxx0_1) ab rfl rfl rfl rfl) rfl rfl <| gR 12 rfl ?_
 obtain ⟨hb, h⟩ := h
 refine gY (Ed (aZ GToken.w a) ab rfl rfl (En rfl) EG hb (Nat.le_refl _) ((Gx _ _ _ _).trans (congrArg _ (Cy _ _)))) rfl rfl <| gR 13 rfl <| gV 22 (.int .i64 (((a.drop 1).length : Nat) : Int)) rfl (bx (aZ GToken.w _)) rfl <| gLB 21 rfl (aZ GToken.w _) fun hl2 => gR 3 rfl <| gB 23 rfl rfl rfl ?_ ?_ <;> intro hd
 replace hd := (eq_of_beq hd)
 replace h := h.1 hd
 refine gR 19 rfl ?_
 obtain ⟨rfl, rfl, rfl, rfl, rfl, rfl⟩ := h
 exact go_sub (F' := (mkF 51 0 [(2, .ptr 1 0)])) (H' := ⟨2, [(1, .var 46 (GToken.c b)), (0, vA (a.drop 1) g g e i)]⟩) [0, 1] [0] rfl hK pq1 (pqo2 rfl rfl rfl rfl) rfl <| go_endD [1] ab (rs := [.cell 2 46]) rfl rfl ⟨rfl, rfl⟩
 replace hd := (ne_of_beq_false hd)
 replace h := h.2 hd
 refine gR 1 rfl <| gDs [0, 2] 19 20 rfl (by kernel_rfl) (by kernel_rfl) <| gDr [(0, 2), (1, 2), (2, 2), (3, 3), (4, 2), (5, 3), (6, 2), (7, 0), (8, 0), (9, 0), (10, 0)] (by kernel_rfl) rfl rfl ?_
 obtain ⟨n, hxx0_2, h⟩ := h
 refine bA 11 rfl (by kernel_rfl) (az (mapget (f := GToken.w) hxx0_2) ab rfl rfl rfl rfl) rfl rfl ?_
 refine gDr [(12, 0), (13, 0), (14, 0)] (by kernel_rfl) rfl rfl ?_
 obtain ⟨hb, h⟩ := h
 refine gDr [(15, 0)] (by kernel_rfl) rfl rfl <| gV 46 (.int .i64 ((b.Text.length + n.Lead.length : Nat) : Int)) rfl (ax (by omega) (by omega)) rfl ?_
 obtain ⟨hb, h⟩ := h
 refine gDr [(16, 0)] (by kernel_rfl) rfl rfl <| gV 47 (.int .i64 (d + ((b.Text.length + n.Lead.length : Nat) : Int))) rfl (ax hb rfl) rfl <| gDr [(17, 0), (18, 0), (19, 1)] (by kernel_rfl) rfl rfl <| gDe (by kernel_rfl) <| gR 1 rfl <| go_sub (F' := (mkF 51 0 [(2, .ptr 1 0), (3, .ptr 2 0)])) (H' := ⟨3, [(2, .var 46 (GToken.c b)), (1, .var 46 [.int .i64 0, .str [], .str []]), (0, vA (a.drop 1) (d + ((b.Text.length + n.Lead.length : Nat) : Int)) g e i)]⟩) [0, 1, 2] [0] rfl hK pq2 (pqo3 rfl rfl rfl rfl rfl rfl) rfl <| gR 7 rfl ?_
 obtain ⟨rfl, rfl, rfl, rfl, rfl, rfl⟩ := h
 exact go_sub (F' := (mkF 51 0 [(2, .ptr 1 0)])) (H' := ⟨2, [(1, .var 46 (GToken.c b)), (0, vA (a.drop 1) (d + ((b.Text.length + n.Lead.length : Nat) : Int)) g e i)]⟩) [0, 1] [0] rfl hK pq1 (pqo2 rfl rfl rfl rfl) rfl <| go_endD [1] ab (rs := [.cell 2 46]) rfl rfl ⟨rfl, rfl⟩
theorem qH (m : Nat) (d : List GToken) (e s f t : Int) (p1 r0 : List UInt8) (a : List GToken) (b g c i : Int) (h : ∃ v x y z α β, aH d e s f t v x y z α β ∧ ((v.Text ≠ p1) → ∃ γ δ ε j k, bX x y z α β 2 γ δ ε j k ∧ [] = r0 ∧ γ = a ∧ δ = b ∧ ε = g ∧ j = c ∧ k = i) ∧ ((v.Text = p1) → ∃ l n o p q r, aI x y z α β l n o p q r ∧ l.Lead = r0 ∧ n = a ∧ o = b ∧ p = g ∧ q = c ∧ r = i)) : ay d e s f t p1 r0 a b g c i := by
 refine am 15 [0] Tryz.func47 rfl rfl rfl (aM rfl) fun K hK => ?_
 refine gR 9 rfl ?_
 obtain ⟨v, x, y, z, α, β, hs4, h⟩ := h
 refine gCY hs4 [0] ?_
 refine gR 5 rfl <| qBh 9 rfl rfl rfl h fh dz (fun h => ?_) fun h => ?_
 refine gR 4 rfl ?_
 obtain ⟨γ, δ, ε, j, k, hs5, h⟩ := h
 refine gCY hs5 [0] ?_
 refine gR 9 rfl ?_
 obtain ⟨rfl, rfl, rfl, rfl, rfl, rfl⟩ := h
 exact go_sub (F' := (mkF 15 0 [(4, .str [])])) (H' := ⟨1, [(0, vA γ δ ε j k)]⟩) [0] [0] rfl hK pq1 (pqo1 rfl rfl) rfl <| go_endD [] ab (rs := [.tmp 4]) rfl rfl ⟨rfl, rfl⟩
 refine gR 6 rfl ?_
 obtain ⟨l, n, o, p, q, r, hs6, h⟩ := h
 refine gCY hs6 [0] ?_
 refine gR 5 rfl ?_
 obtain ⟨rfl, rfl, rfl, rfl, rfl, rfl⟩ := h
 exact go_sub (F' := (mkF 15 0 [(4, .str l.Lead)])) (H' := ⟨1, [(0, vA n o p q r)]⟩) [0] [0] rfl hK pq1 (pqo1 rfl rfl) rfl <| go_endD [] ab (rs := [.tmp 4]) rfl rfl ⟨rfl, rfl⟩
theorem qL (m : Nat) (j : List GToken) (k ν l ξ p1 p2 : Int) (r0 r1 : List UInt8) (a : List GToken) (b d c e : Int) (h : ∃ i n o p q r, aH j k ν l ξ i n o p q r ∧ ((i.Kind = 0) → ∃ ο π τ s t, bX n o p q r 2 ο π τ s t ∧ [] = r0 ∧ [] = r1 ∧ ο = a ∧ π = b ∧ τ = d ∧ s = c ∧ t = e) ∧ ((i.Kind ≠ 0) → ((i.Kind ≠ p1) → ((i.Kind ≠ p2) → ∃ v x y z α, bX n o p q r 2 v x y z α ∧ [] = r0 ∧ [] = r1 ∧ v = a ∧ x = b ∧ y = d ∧ z = c ∧ α = e) ∧ ((i.Kind = p2) → ∃ f β γ δ ε ζ, aI n o p q r f β γ δ ε ζ ∧ f.Text = r0 ∧ f.Lead = r1 ∧ β = a ∧ γ = b ∧ δ = d ∧ ε = c ∧ ζ = e)) ∧ ((i.Kind = p1) → ∃ g η θ ι κ μ, aI n o p q r g η θ ι κ μ ∧ g.Text = r0 ∧ g.Lead = r1 ∧ η = a ∧ θ = b ∧ ι = d ∧ κ = c ∧ μ = e))) : cm j k ν l ξ p1 p2 r0 r1 a b d c e := by
 refine am 33 [0] Tryz.func48 rfl rfl rfl (aM rfl) fun K hK => ?_
 refine gR 9 rfl ?_
 obtain ⟨i, n, o, p, q, r, hs6, h⟩ := h
 refine gCY hs6 [0] ?_
 refine gR 10 rfl <| qBeZ 15 14 rfl rfl rfl rfl h (fun h => ?_) fun h => ?_
 refine gR 15 rfl ?_
 obtain ⟨ο, π, τ, s, t, hs7, h⟩ := h
 refine gCY hs7 [0] ?_
 refine gR 10 rfl ?_
 obtain ⟨rfl, rfl, rfl, rfl, rfl, rfl, rfl⟩ := h
 exact go_sub (F' := (mkF 33 0 [(6, .str []), (7, .str [])])) (H' := ⟨1, [(0, vA ο π τ s t)]⟩) [0] [0] rfl hK pq2 (pqo1 rfl rfl) rfl <| go_endD [] ab (rs := [.tmp 6, .tmp 7]) rfl rfl ⟨rfl, rfl⟩
 refine gR 4 rfl <| qBhZ 19 18 rfl rfl rfl rfl h fh dz (fun h => ?_) fun h => ?_
 refine gR 7 rfl <| qBh 24 rfl rfl rfl h fh dz (fun h => ?_) fun h => ?_
 refine gR 4 rfl ?_
 obtain ⟨v, x, y, z, α, hs8, h⟩ := h
 refine gCY hs8 [0] ?_
 refine gR 10 rfl ?_
 obtain ⟨rfl, rfl, rfl, rfl, rfl, rfl, rfl⟩ := h
 exact go_sub (F' := (mkF 33 0 [(6, .str []), (7, .str [])])) (H' := ⟨1, [(0, vA v x y z α)]⟩) [0] [0] rfl hK pq2 (pqo1 rfl rfl) rfl <| go_endD [] ab (rs := [.tmp 6, .tmp 7]) rfl rfl ⟨rfl, rfl⟩
 refine gR 6 rfl ?_
 obtain ⟨f, β, γ, δ, ε, ζ, hs9, h⟩ := h
 refine gCY hs9 [0] ?_
 refine gR 5 rfl <| gDs [5] 5 6 rfl (by kernel_rfl) (by kernel_rfl) <| gDr [(0, 2), (1, 3), (2, 2), (3, 3), (4, 0), (5, 1)] (by kernel_rfl) rfl rfl <| gDe (by kernel_rfl) <| gR 2 rfl ?_
 obtain ⟨rfl, rfl, rfl, rfl, rfl, rfl, rfl⟩ := h
 exact go_sub (F' := (mkF 33 0 [(6, .str f.Text), (7, .str f.Lead)])) (H' := ⟨1, [(0, vA β γ δ ε ζ)]⟩) [0] [0] rfl hK pq2 (pqo1 rfl rfl) rfl <| go_endD [] ab (rs := [.tmp 6, .tmp 7]) rfl rfl ⟨rfl, rfl⟩
 refine gR 13 rfl ?_
 obtain ⟨g, η, θ, ι, κ, μ, hs10, h⟩ := h
 refine gCY hs10 [0] ?_
 refine gR 5 rfl <| gDs [5] 5 6 rfl (by kernel_rfl) (by kernel_rfl) <| gDr [(0, 2), (1, 3), (2, 2), (3, 3), (4, 0), (5, 1)] (by kernel_rfl) rfl rfl <| gDe (by kernel_rfl) <| gR 2 rfl ?_
 obtain ⟨rfl, rfl, rfl, rfl, rfl, rfl, rfl⟩ := h
 exact go_sub (F' := (mkF 33 0 [(6, .str g.Text), (7, .str g.Lead)])) (H' := ⟨1, [(0, vA η θ ι κ μ)]⟩) [0] [0] rfl hK pq2 (pqo1 rfl rfl) rfl <| go_endD [] ab (rs := [.tmp 6, .tmp 7]) rfl rfl ⟨rfl, rfl⟩
theorem dY (m : Nat) (x : List GToken) (y p0_size z p0_at_ : Int) (r0 : Tree) (b : List GToken) (c g d k : Int) (h : ∃ j l n o p q, aH x y p0_size z p0_at_ j l n o p q ∧ ((j.Text = [73, 110, 116]) → ∃ α r0_8 n0_9 β γ δ, aI l n o p q α r0_8 n0_9 β γ δ ∧ (Tree.node 5 [] [α.Lead] []) = r0 ∧ r0_8 = b ∧ n0_9 = c ∧ β = g ∧ γ = d ∧ δ = k) ∧ ((j.Text ≠ [73, 110, 116]) → ((j.Text = [84, 101, 120, 116]) → ∃ r ε ζ η θ ι, aI l n o p q r ε ζ η θ ι ∧ (Tree.node 6 [] [r.Lead] []) = r0 ∧ ε = b ∧ ζ = c ∧ η = g ∧ θ = d ∧ ι = k) ∧ ((j.Text ≠ [84, 101, 120, 116]) → ((j.Text = [66, 111, 111, 108]) → ∃ s κ μ ν ξ ο, aI l n o p q s κ μ ν ξ ο ∧ (Tree.node 7 [] [s.Lead] []) = r0 ∧ κ = b ∧ μ = c ∧ ν = g ∧ ξ = d ∧ ο = k) ∧ ((j.Text ≠ [66, 111, 111, 108]) → ((j.Text = [91]) → 2 ≤ 1000000000 ∧ ∃ a π τ υ φ χ, aI l n o p q a π τ υ φ χ ∧ ∃ s0_31, (List.replicate 2 ([] : List UInt8))[0]? = some s0_31 ∧ ∃ e ψ ω n0_35 n0_36 n0_37, cU π τ υ φ χ e ψ ω n0_35 n0_36 n0_37 ∧ ∃ i r0_39 n0_40 n0_41 n0_42 n0_43, ay ψ ω n0_35 n0_36 n0_37 [93] i r0_39 n0_40 n0_41 n0_42 n0_43 ∧ ∃ s0_44, ((List.replicate 2 ([] : List UInt8)).set 0 a.Lead)[1]? = some s0_44 ∧ (Tree.node 8 [] (((List.replicate 2 ([] : List UInt8)).set 0 a.Lead).set 1 i) [e]) = r0 ∧ r0_39 = b ∧ n0_40 = c ∧ n0_41 = g ∧ n0_42 = d ∧ n0_43 = k) ∧ ((j.Text ≠ [91]) → ∃ t v r0_47 n0_48 n0_49 n0_50 n0_51, cm l n o p q 2 4 t v r0_47 n0_48 n0_49 n0_50 n0_51 ∧ (Tree.node 9 t [v] []) = r0 ∧ r0_47 = b ∧ n0_48 = c ∧ n0_49 = g ∧ n0_50 = d ∧ n0_51 = k))))) : cU x y p0_size z p0_at_ r0 b c g d k := by
 refine am 54 [0] Tryz.func78 rfl rfl rfl (aM rfl) fun K hK => ?_
 refine gR 14 rfl ?_
 obtain ⟨j, l, n, o, p, q, hs9, h⟩ := h
 refine gCY hs9 [0] ?_
 refine gR 10 rfl <| qBeZ 19 20 rfl rfl rfl rfl h (fun h => ?_) fun h => ?_
 refine gR 10 rfl ?_
 obtain ⟨α, r0_8, n0_9, β, γ, δ, hs10, h⟩ := h
 refine gCY hs10 [0] ?_
 refine gR 7 rfl <| gFR 6 rfl rfl rfl rfl ?_
 obtain ⟨rfl, rfl, rfl, rfl, rfl, rfl⟩ := h
 exact go_sub (F' := (mkF 54 0 [(2, .ptr 1 0)])) (H' := ⟨2, [(1, vF ((Tree.node 5 [] [α.Lead] []).kind) ((Tree.node 5 [] [α.Lead] []).text) ((Tree.node 5 [] [α.Lead] []).leads) ((Tree.node 5 [] [α.Lead] []).kids)), (0, vA r0_8 n0_9 β γ δ)]⟩) [0, 1] [0] rfl hK pq1 ⟨⟨_, rfl, rfl, (.cons .rfl (.cons .rfl (.cons .rfl (.cons (.nil 4) .nil))))⟩, (pqo1 rfl rfl)⟩ rfl <| go_endD [1] ab (rs := [.cell 2 25]) rfl rfl ⟨rfl, rfl⟩
 refine gR 7 rfl <| qBeZ 21 22 rfl rfl rfl rfl h (fun h => ?_) fun h => ?_
 refine gR 10 rfl ?_
 obtain ⟨r, ε, ζ, η, θ, ι, hs11, h⟩ := h
 refine gCY hs11 [0] ?_
 refine gR 7 rfl <| gFR 6 rfl rfl rfl rfl ?_
 obtain ⟨rfl, rfl, rfl, rfl, rfl, rfl⟩ := h
 exact go_sub (F' := (mkF 54 0 [(2, .ptr 1 0)])) (H' := ⟨2, [(1, vF ((Tree.node 6 [] [r.Lead] []).kind) ((Tree.node 6 [] [r.Lead] []).text) ((Tree.node 6 [] [r.Lead] []).leads) ((Tree.node 6 [] [r.Lead] []).kids)), (0, vA ε ζ η θ ι)]⟩) [0, 1] [0] rfl hK pq1 ⟨⟨_, rfl, rfl, (.cons .rfl (.cons .rfl (.cons .rfl (.cons (.nil 4) .nil))))⟩, (pqo1 rfl rfl)⟩ rfl <| go_endD [1] ab (rs := [.cell 2 25]) rfl rfl ⟨rfl, rfl⟩
 refine gR 7 rfl <| qBeZ 23 24 rfl rfl rfl rfl h (fun h => ?_) fun h => ?_
 refine gR 6 rfl <| go_sub (F' := (mkF 54 0 [(0, .ptr 0 0), (2, .ptr 1 0), (3, .int .i64 7)])) (H' := ⟨2, [(1, vB 0 []), (0, vA l n o p q)]⟩) [0, 1] [0] rfl hK pq3 (pqo2 rfl rfl rfl rfl) rfl <| gR 4 rfl ?_
 obtain ⟨s, κ, μ, ν, ξ, ο, hs12, h⟩ := h
 refine gCY hs12 [0] ?_
 refine gR 7 rfl <| gFR 4 rfl rfl rfl rfl ?_
 obtain ⟨rfl, rfl, rfl, rfl, rfl, rfl⟩ := h
 exact go_sub (F' := (mkF 54 0 [(2, .ptr 1 0)])) (H' := ⟨2, [(1, vF ((Tree.node 7 [] [s.Lead] []).kind) ((Tree.node 7 [] [s.Lead] []).text) ((Tree.node 7 [] [s.Lead] []).leads) ((Tree.node 7 [] [s.Lead] []).kids)), (0, vA κ μ ν ξ ο)]⟩) [0, 1] [0] rfl hK pq1 ⟨⟨_, rfl, rfl, (.cons .rfl (.cons .rfl (.cons .rfl (.cons (.nil 4) .nil))))⟩, (pqo1 rfl rfl)⟩ rfl <| go_endD [1] ab (rs := [.cell 2 25]) rfl rfl ⟨rfl, rfl⟩
 refine gR 1 rfl <| go_sub (F' := (mkF 54 0 [(0, .ptr 0 0), (2, .ptr 1 0), (9, .str j.Text)])) (H' := ⟨2, [(1, vB 0 []), (0, vA l n o p q)]⟩) [0, 1] [0] rfl hK pq3 (pqo2 rfl rfl rfl rfl) rfl <| gR 6 rfl <| qBeZ 25 26 rfl rfl rfl rfl h (fun h => ?_) fun h => ?_
 refine gR 3 rfl ?_
 obtain ⟨hb, h⟩ := h
 refine gDo (.new (.row 9 1 (List.replicate 2 (.str [])))) (dMk ab rfl rfl rfl rfl rfl rfl rfl (by kernel_rfl) hb) trivial rfl rfl rfl <| gHR 2 (List.map V.str (List.replicate 2 ([] : List UInt8))) rfl (by first | (simp only [bk, List.map_replicate]; done) | (simp only [bk, List.map_replicate]; rfl)) rfl <| gR 6 rfl <| go_sub (F' := (mkF 54 0 [(0, .ptr 0 0), (2, .ptr 1 0), (4, .ptr 2 0)])) (H' := ⟨4, [(3, .row 9 1 (List.map V.str (List.replicate 2 ([] : List UInt8)))), (2, vH 8 []), (1, vB 0 []), (0, vA l n o p q)]⟩) [0, 1, 3, 2] [0] rfl hK pq3 ⟨⟨_, rfl, rfl, rfl, (vK _ (List.replicate 2 ([] : List UInt8))).symm⟩, (pqo3 rfl rfl rfl rfl rfl rfl)⟩ rfl ?_
 refine gDs [2] 6 7 rfl (by kernel_rfl) (by kernel_rfl) ?_
 refine gDr [(0, 2), (1, 3), (2, 0)] (by kernel_rfl) rfl rfl ?_
 obtain ⟨a, π, τ, υ, φ, χ, hs13, h⟩ := h
 refine gDCY 3 hs13 [0] rfl ?_
 refine gDr [(4, 0)] (by kernel_rfl) rfl rfl ?_
 obtain ⟨s0_31, hxs0_31, h⟩ := h
 refine bA 5 rfl (by kernel_rfl) (yIO ab rfl rfl rfl rfl (by have := (mapget (f := V.str) hxs0_31); exact (List.getElem?_eq_some_iff.1 this).1)) rfl rfl ?_
 refine aP 6 (.set 3 (.row 9 1 (List.map V.str ((vN 2).set 0 a.Lead)))) rfl (by kernel_rfl) (dSe ab rfl rfl rfl rfl (mapget (f := V.str) hxs0_31) rfl (cg V.str (List.replicate 2 ([] : List UInt8)) 0 a.Lead)) (okS rfl) rfl (by kernel_rfl) rfl rfl ?_
 refine gDe (by kernel_rfl) <| gR 2 rfl <| go_sub (F' := (mkF 54 0 [(0, .ptr 0 0), (2, .ptr 1 0), (4, .ptr 2 0)])) (H' := ⟨4, [(3, .row 9 1 (List.map V.str ((vN 2).set 0 a.Lead))), (2, vH 8 []), (1, vB 0 []), (0, vA π τ υ φ χ)]⟩) [0, 1, 2, 3] [0] rfl hK pq3 ⟨⟨_, rfl, rfl, rfl, (vK _ ((vN 2).set 0 a.Lead)).symm⟩, (pqo3 rfl rfl rfl rfl rfl rfl)⟩ rfl <| gDs [2] 7 8 rfl (by kernel_rfl) (by kernel_rfl) <| gDr [(0, 2), (1, 3), (2, 0)] (by kernel_rfl) rfl rfl ?_
 obtain ⟨e, ψ, ω, n0_35, n0_36, n0_37, hs14, h⟩ := h
 refine gDCY 3 hs14 [0] rfl ?_
 refine gDr [(4, 0)] (by kernel_rfl) rfl rfl <| gHR 6 (kidsV [e]) rfl (cI e) rfl <| aP 5 (.new (.row 25 4 (kidsV [e]))) rfl (by kernel_rfl) (nU ab rfl rfl rfl rfl rfl (by first | decide | (simp; done) | (simp [aG]; done))) trivial rfl (by kernel_rfl) rfl rfl <| gDr [(6, 0), (7, 1)] (by kernel_rfl) rfl rfl <| gDe (by kernel_rfl) <| gR 2 rfl <| go_sub (F' := (mkF 54 0 [(0, .ptr 0 0), (2, .ptr 1 0), (4, .ptr 2 0)])) (H' := ⟨5, [(4, .row 25 4 (kidsV [e])), (3, .row 9 1 (List.map V.str ((vN 2).set 0 a.Lead))), (2, vG 8 []), (1, vB 0 []), (0, vA ψ ω n0_35 n0_36 n0_37)]⟩) [0, 1, 2, 3, 7] [0] rfl hK pq3 ⟨⟨_, rfl, rfl, rfl, (aC _ [e]).symm⟩, ⟨_, rfl, rfl, rfl, (vK _ ((vN 2).set 0 a.Lead)).symm⟩, (pqo3 rfl rfl rfl rfl rfl rfl)⟩ rfl ?_
 refine gDs [2] 5 6 rfl (by kernel_rfl) (by kernel_rfl) ?_
 refine gDr [(0, 2), (1, 3), (2, 0)] (by kernel_rfl) rfl rfl ?_
 obtain ⟨i, r0_39, n0_40, n0_41, n0_42, n0_43, hs15, h⟩ := h
 refine gDCY 3 hs15 [0] rfl ?_
 obtain ⟨s0_44, hxs0_44, h⟩ := h
 refine bA 4 rfl (by kernel_rfl) (yIO ab rfl rfl rfl rfl (by have := (mapget (f := V.str) hxs0_44); exact (List.getElem?_eq_some_iff.1 this).1)) rfl rfl ?_
 refine aP 5 (.set 3 (.row 9 1 (List.map V.str (((vN 2).set 0 a.Lead).set 1 i)))) rfl (by kernel_rfl) (dSe ab rfl rfl rfl rfl (mapget (f := V.str) hxs0_44) rfl (cg V.str ((vN 2).set 0 a.Lead) 1 i)) (okS rfl) rfl (by kernel_rfl) rfl rfl ?_
 refine gDe (by kernel_rfl) <| gR 10 rfl <| gFR 3 rfl (cb _ (fun _ => rfl) _) rfl rfl <| gFR 4 rfl (bo _) rfl rfl ?_
 obtain ⟨rfl, rfl, rfl, rfl, rfl, rfl⟩ := h
 refine go_sub (F' := (mkF 54 0 [(2, .ptr 1 0)])) (H' := ⟨2, [(1, vF ((Tree.node 8 [] (((vN 2).set 0 a.Lead).set 1 i) [e]).kind) ((Tree.node 8 [] (((vN 2).set 0 a.Lead).set 1 i) [e]).text) ((Tree.node 8 [] (((vN 2).set 0 a.Lead).set 1 i) [e]).leads) ((Tree.node 8 [] (((vN 2).set 0 a.Lead).set 1 i) [e]).kids)), (0, vA r0_39 n0_40 n0_41 n0_42 n0_43)]⟩) [0, 1] [0] rfl hK pq1 (pqo2 rfl rfl rfl rfl) rfl ?_
 exact go_endD [1] ab (rs := [.cell 2 25]) rfl rfl ⟨rfl, rfl⟩
 refine gR 4 rfl ?_
 obtain ⟨t, v, r0_47, n0_48, n0_49, n0_50, n0_51, hs16, h⟩ := h
 refine gCY hs16 [0] ?_
 refine gR 19 rfl <| gFR 3 rfl rfl rfl rfl ?_
 obtain ⟨rfl, rfl, rfl, rfl, rfl, rfl⟩ := h
 exact go_sub (F' := (mkF 54 0 [(2, .ptr 1 0)])) (H' := ⟨2, [(1, vF ((Tree.node 9 t [v] []).kind) ((Tree.node 9 t [v] []).text) ((Tree.node 9 t [v] []).leads) ((Tree.node 9 t [v] []).kids)), (0, vA r0_47 n0_48 n0_49 n0_50 n0_51)]⟩) [0, 1] [0] rfl hK pq1 ⟨⟨_, rfl, rfl, (.cons .rfl (.cons .rfl (.cons .rfl (.cons (.nil 4) .nil))))⟩, (pqo1 rfl rfl)⟩ rfl <| go_endD [1] ab (rs := [.cell 2 25]) rfl rfl ⟨rfl, rfl⟩
theorem qd (m : Nat) (d : List GToken) (e j g o : Int) (r0 : Tree) (k : List GToken) (l β n γ : Int) (h : 2 ≤ 1000000000 ∧ ∃ i a δ ε ζ η θ, cm d e j g o 1 1 i a δ ε ζ η θ ∧ ∃ κ, (List.replicate 2 ([] : List UInt8))[0]? = some κ ∧ ∃ c p q r s t, ay δ ε ζ η θ [58] c p q r s t ∧ ∃ ι, ((List.replicate 2 ([] : List UInt8)).set 0 a)[1]? = some ι ∧ ∃ b v x y z α, cU p q r s t b v x y z α ∧ (Tree.node 4 i (((List.replicate 2 ([] : List UInt8)).set 0 a).set 1 c) [b]) = r0 ∧ v = k ∧ x = l ∧ y = β ∧ z = n ∧ α = γ) : cZ d e j g o r0 k l β n γ := by
 refine am 28 [0] Tryz.func77 rfl rfl rfl (aM rfl) fun K hK => ?_
 refine gR 7 rfl ?_
 obtain ⟨hb, h⟩ := h
 refine gDo (.new (.row 9 1 (List.replicate 2 (.str [])))) (dMk ab rfl rfl rfl rfl rfl rfl rfl (by kernel_rfl) hb) trivial rfl rfl rfl <| gHR 2 (List.map V.str (List.replicate 2 ([] : List UInt8))) rfl (by first | (simp only [bk, List.map_replicate]; done) | (simp only [bk, List.map_replicate]; rfl)) rfl <| gR 6 rfl <| go_sub (F' := (mkF 28 0 [(0, .ptr 0 0), (2, .ptr 1 0), (3, .ptr 2 0)])) (H' := ⟨4, [(3, .row 9 1 (List.map V.str (List.replicate 2 ([] : List UInt8)))), (2, vH 4 []), (1, vB 0 []), (0, vA d e j g o)]⟩) [0, 1, 3, 2] [0] rfl hK pq3 ⟨⟨_, rfl, rfl, rfl, (vK _ (List.replicate 2 ([] : List UInt8))).symm⟩, (pqo3 rfl rfl rfl rfl rfl rfl)⟩ rfl ?_
 refine gDs [2] 8 11 rfl (by kernel_rfl) (by kernel_rfl) ?_
 refine gDr [(0, 2), (1, 3), (2, 0)] (by kernel_rfl) rfl rfl ?_
 obtain ⟨i, a, δ, ε, ζ, η, θ, hs4, h⟩ := h
 refine gDCY 3 hs4 [0] rfl ?_
 refine gDr [(4, 0), (5, 2), (6, 2), (7, 0), (8, 1)] (by kernel_rfl) rfl rfl ?_
 obtain ⟨κ, hxs0_8, h⟩ := h
 refine bA 9 rfl (by kernel_rfl) (yIO ab rfl rfl rfl rfl (by have := (mapget (f := V.str) hxs0_8); exact (List.getElem?_eq_some_iff.1 this).1)) rfl rfl ?_
 refine aP 10 (.set 3 (.row 9 1 (List.map V.str ((vN 2).set 0 a)))) rfl (by kernel_rfl) (dSe ab rfl rfl rfl rfl (mapget (f := V.str) hxs0_8) rfl (cg V.str (List.replicate 2 ([] : List UInt8)) 0 a)) (okS rfl) rfl (by kernel_rfl) rfl rfl ?_
 refine gDe (by kernel_rfl) <| gR 1 rfl <| go_sub (F' := (mkF 28 0 [(0, .ptr 0 0), (2, .ptr 1 0), (3, .ptr 2 0)])) (H' := ⟨4, [(3, .row 9 1 (List.map V.str ((vN 2).set 0 a))), (2, vH 4 i), (1, vB 0 []), (0, vA δ ε ζ η θ)]⟩) [0, 1, 2, 3] [0] rfl hK pq3 ⟨⟨_, rfl, rfl, rfl, (vK _ ((vN 2).set 0 a)).symm⟩, (pqo3 rfl rfl rfl rfl rfl rfl)⟩ rfl <| gR 1 rfl <| gDs [2] 5 6 rfl (by kernel_rfl) (by kernel_rfl) <| gDr [(0, 2), (1, 3), (2, 0)] (by kernel_rfl) rfl rfl ?_
 obtain ⟨c, p, q, r, s, t, hs5, h⟩ := h
 refine gDCY 3 hs5 [0] rfl ?_
 obtain ⟨ι, hxs0_15, h⟩ := h
 refine bA 4 rfl (by kernel_rfl) (yIO ab rfl rfl rfl rfl (by have := (mapget (f := V.str) hxs0_15); exact (List.getElem?_eq_some_iff.1 this).1)) rfl rfl ?_
 refine aP 5 (.set 3 (.row 9 1 (List.map V.str (((vN 2).set 0 a).set 1 c)))) rfl (by kernel_rfl) (dSe ab rfl rfl rfl rfl (mapget (f := V.str) hxs0_15) rfl (cg V.str ((vN 2).set 0 a) 1 c)) (okS rfl) rfl (by kernel_rfl) rfl rfl ?_
 refine gDe (by kernel_rfl) <| gR 2 rfl <| go_sub (F' := (mkF 28 0 [(0, .ptr 0 0), (2, .ptr 1 0), (3, .ptr 2 0)])) (H' := ⟨4, [(3, .row 9 1 (List.map V.str (((vN 2).set 0 a).set 1 c))), (2, vH 4 i), (1, vB 0 []), (0, vA p q r s t)]⟩) [0, 1, 2, 3] [0] rfl hK pq3 ⟨⟨_, rfl, rfl, rfl, (vK _ (((vN 2).set 0 a).set 1 c)).symm⟩, (pqo3 rfl rfl rfl rfl rfl rfl)⟩ rfl <| gDs [2] 7 8 rfl (by kernel_rfl) (by kernel_rfl) <| gDr [(0, 2), (1, 3), (2, 0)] (by kernel_rfl) rfl rfl ?_
 obtain ⟨b, v, x, y, z, α, hs6, h⟩ := h
 refine gDCY 3 hs6 [0] rfl ?_
 refine gDr [(4, 0)] (by kernel_rfl) rfl rfl <| gHR 6 (kidsV [b]) rfl (cI b) rfl <| aP 5 (.new (.row 25 4 (kidsV [b]))) rfl (by kernel_rfl) (nU ab rfl rfl rfl rfl rfl (by first | decide | (simp; done) | (simp [aG]; done))) trivial rfl (by kernel_rfl) rfl rfl <| gDr [(6, 0), (7, 1)] (by kernel_rfl) rfl rfl <| gDe (by kernel_rfl) <| gR 8 rfl <| gFR 3 rfl (cb _ (fun _ => rfl) _) rfl rfl <| gFR 7 rfl (bo _) rfl rfl ?_
 obtain ⟨rfl, rfl, rfl, rfl, rfl, rfl⟩ := h
 exact go_sub (F' := (mkF 28 0 [(2, .ptr 1 0)])) (H' := ⟨2, [(1, vF ((Tree.node 4 i (((vN 2).set 0 a).set 1 c) [b]).kind) ((Tree.node 4 i (((vN 2).set 0 a).set 1 c) [b]).text) ((Tree.node 4 i (((vN 2).set 0 a).set 1 c) [b]).leads) ((Tree.node 4 i (((vN 2).set 0 a).set 1 c) [b]).kids)), (0, vA v x y z α)]⟩) [0, 1] [0] rfl hK pq1 (pqo2 rfl rfl rfl rfl) rfl <| go_endD [1] ab (rs := [.cell 2 25]) rfl rfl ⟨rfl, rfl⟩
theorem qi (m : Nat) (e : List GToken) (g k i p : Int) (r0 : Tree) (l : List GToken) (n θ o ι : Int) (h : 3 ≤ 1000000000 ∧ ∃ a κ μ ν ξ ο, ay e g k i p [116, 121, 112, 101] a κ μ ν ξ ο ∧ ∃ υ, (List.replicate 3 ([] : List UInt8))[0]? = some υ ∧ ∃ j b q r s t v, cm κ μ ν ξ ο 2 2 j b q r s t v ∧ ∃ π, ((List.replicate 3 ([] : List UInt8)).set 0 a)[1]? = some π ∧ ∃ c x y z α β, ay q r s t v [61] c x y z α β ∧ ∃ τ, (((List.replicate 3 ([] : List UInt8)).set 0 a).set 1 b)[2]? = some τ ∧ ∃ d γ δ ε ζ η, cU x y z α β d γ δ ε ζ η ∧ (Tree.node 3 j ((((List.replicate 3 ([] : List UInt8)).set 0 a).set 1 b).set 2 c) [d]) = r0 ∧ γ = l ∧ δ = n ∧ ε = θ ∧ ζ = o ∧ η = ι) : iY e g k i p r0 l n θ o ι := by
 refine am 33 [0] Tryz.func52 rfl rfl rfl (aM rfl) fun K hK => ?_
 refine gR 7 rfl ?_
 obtain ⟨hb, h⟩ := h
 refine gDo (.new (.row 9 1 (List.replicate 3 (.str [])))) (dMk ab rfl rfl rfl rfl rfl rfl rfl (by kernel_rfl) hb) trivial rfl rfl rfl <| gHR 2 (List.map V.str (List.replicate 3 ([] : List UInt8))) rfl (by first | (simp only [bk, List.map_replicate]; done) | (simp only [bk, List.map_replicate]; rfl)) rfl <| gR 6 rfl <| go_sub (F' := (mkF 33 0 [(0, .ptr 0 0), (2, .ptr 1 0), (3, .ptr 2 0)])) (H' := ⟨4, [(3, .row 9 1 (List.map V.str (List.replicate 3 ([] : List UInt8)))), (2, vH 3 []), (1, vB 0 []), (0, vA e g k i p)]⟩) [0, 1, 3, 2] [0] rfl hK pq3 ⟨⟨_, rfl, rfl, rfl, (vK _ (List.replicate 3 ([] : List UInt8))).symm⟩, (pqo3 rfl rfl rfl rfl rfl rfl)⟩ rfl ?_
 refine gDs [2] 5 6 rfl (by kernel_rfl) (by kernel_rfl) ?_
 refine gDr [(0, 2), (1, 3), (2, 0)] (by kernel_rfl) rfl rfl ?_
 obtain ⟨a, κ, μ, ν, ξ, ο, hs5, h⟩ := h
 refine gDCY 3 hs5 [0] rfl ?_
 obtain ⟨υ, hxs0_7, h⟩ := h
 refine bA 4 rfl (by kernel_rfl) (yIO ab rfl rfl rfl rfl (by have := (mapget (f := V.str) hxs0_7); exact (List.getElem?_eq_some_iff.1 this).1)) rfl rfl ?_
 refine aP 5 (.set 3 (.row 9 1 (List.map V.str ((vN 3).set 0 a)))) rfl (by kernel_rfl) (dSe ab rfl rfl rfl rfl (mapget (f := V.str) hxs0_7) rfl (cg V.str (List.replicate 3 ([] : List UInt8)) 0 a)) (okS rfl) rfl (by kernel_rfl) rfl rfl ?_
 refine gDe (by kernel_rfl) <| gR 2 rfl <| go_sub (F' := (mkF 33 0 [(0, .ptr 0 0), (2, .ptr 1 0), (3, .ptr 2 0)])) (H' := ⟨4, [(3, .row 9 1 (List.map V.str ((vN 3).set 0 a))), (2, vH 3 []), (1, vB 0 []), (0, vA κ μ ν ξ ο)]⟩) [0, 1, 2, 3] [0] rfl hK pq3 ⟨⟨_, rfl, rfl, rfl, (vK _ ((vN 3).set 0 a)).symm⟩, (pqo3 rfl rfl rfl rfl rfl rfl)⟩ rfl <| gDs [2] 8 11 rfl (by kernel_rfl) (by kernel_rfl) <| gDr [(0, 2), (1, 3), (2, 0)] (by kernel_rfl) rfl rfl ?_
 obtain ⟨j, b, q, r, s, t, v, hs6, h⟩ := h
 refine gDCY 3 hs6 [0] rfl ?_
 refine gDr [(4, 0), (5, 2), (6, 2), (7, 0), (8, 1)] (by kernel_rfl) rfl rfl ?_
 obtain ⟨π, hxs0_15, h⟩ := h
 refine bA 9 rfl (by kernel_rfl) (yIO ab rfl rfl rfl rfl (by have := (mapget (f := V.str) hxs0_15); exact (List.getElem?_eq_some_iff.1 this).1)) rfl rfl ?_
 refine aP 10 (.set 3 (.row 9 1 (List.map V.str (((vN 3).set 0 a).set 1 b)))) rfl (by kernel_rfl) (dSe ab rfl rfl rfl rfl (mapget (f := V.str) hxs0_15) rfl (cg V.str ((vN 3).set 0 a) 1 b)) (okS rfl) rfl (by kernel_rfl) rfl rfl ?_
 refine gDe (by kernel_rfl) <| gR 1 rfl <| go_sub (F' := (mkF 33 0 [(0, .ptr 0 0), (2, .ptr 1 0), (3, .ptr 2 0)])) (H' := ⟨4, [(3, .row 9 1 (List.map V.str (((vN 3).set 0 a).set 1 b))), (2, vH 3 j), (1, vB 0 []), (0, vA q r s t v)]⟩) [0, 1, 2, 3] [0] rfl hK pq3 ⟨⟨_, rfl, rfl, rfl, (vK _ (((vN 3).set 0 a).set 1 b)).symm⟩, (pqo3 rfl rfl rfl rfl rfl rfl)⟩ rfl <| gR 1 rfl <| gDs [2] 5 6 rfl (by kernel_rfl) (by kernel_rfl) <| gDr [(0, 2), (1, 3), (2, 0)] (by kernel_rfl) rfl rfl ?_
 obtain ⟨c, x, y, z, α, β, hs7, h⟩ := h
 refine gDCY 3 hs7 [0] rfl ?_
 obtain ⟨τ, hxs0_22, h⟩ := h
 refine bA 4 rfl (by kernel_rfl) (yIO ab rfl rfl rfl rfl (by have := (mapget (f := V.str) hxs0_22); exact (List.getElem?_eq_some_iff.1 this).1)) rfl rfl ?_
 refine aP 5 (.set 3 (.row 9 1 (List.map V.str ((((vN 3).set 0 a).set 1 b).set 2 c)))) rfl (by kernel_rfl) (dSe ab rfl rfl rfl rfl (mapget (f := V.str) hxs0_22) rfl (cg V.str (((vN 3).set 0 a).set 1 b) 2 c)) (okS rfl) rfl (by kernel_rfl) rfl rfl ?_
 refine gDe (by kernel_rfl) <| gR 2 rfl <| go_sub (F' := (mkF 33 0 [(0, .ptr 0 0), (2, .ptr 1 0), (3, .ptr 2 0)])) (H' := ⟨4, [(3, .row 9 1 (List.map V.str ((((vN 3).set 0 a).set 1 b).set 2 c))), (2, vH 3 j), (1, vB 0 []), (0, vA x y z α β)]⟩) [0, 1, 2, 3] [0] rfl hK pq3 ⟨⟨_, rfl, rfl, rfl, (vK _ ((((vN 3).set 0 a).set 1 b).set 2 c)).symm⟩, (pqo3 rfl rfl rfl rfl rfl rfl)⟩ rfl <| gDs [2] 7 8 rfl (by kernel_rfl) (by kernel_rfl) ?_
 refine gDr [(0, 2), (1, 3), (2, 0)] (by kernel_rfl) rfl rfl ?_
 obtain ⟨d, γ, δ, ε, ζ, η, hs8, h⟩ := h
 refine gDCY 3 hs8 [0] rfl ?_
 refine gDr [(4, 0)] (by kernel_rfl) rfl rfl <| gHR 6 (kidsV [d]) rfl (cI d) rfl <| aP 5 (.new (.row 25 4 (kidsV [d]))) rfl (by kernel_rfl) (nU ab rfl rfl rfl rfl rfl (by first | decide | (simp; done) | (simp [aG]; done))) trivial rfl (by kernel_rfl) rfl rfl <| gDr [(6, 0), (7, 1)] (by kernel_rfl) rfl rfl <| gDe (by kernel_rfl) <| gR 8 rfl <| gFR 3 rfl (cb _ (fun _ => rfl) _) rfl rfl <| gFR 7 rfl (bo _) rfl rfl ?_
 obtain ⟨rfl, rfl, rfl, rfl, rfl, rfl⟩ := h
 refine go_sub (F' := (mkF 33 0 [(2, .ptr 1 0)])) (H' := ⟨2, [(1, vF ((Tree.node 3 j ((((vN 3).set 0 a).set 1 b).set 2 c) [d]).kind) ((Tree.node 3 j ((((vN 3).set 0 a).set 1 b).set 2 c) [d]).text) ((Tree.node 3 j ((((vN 3).set 0 a).set 1 b).set 2 c) [d]).leads) ((Tree.node 3 j ((((vN 3).set 0 a).set 1 b).set 2 c) [d]).kids)), (0, vA γ δ ε ζ η)]⟩) [0, 1] [0] rfl hK pq1 (pqo2 rfl rfl rfl rfl) rfl ?_
 exact go_endD [1] ab (rs := [.cell 2 25]) rfl rfl ⟨rfl, rfl⟩
def jU (m : Nat) (p0 : Tree) (a : Int) (b : Nat) (r0 : Int) : Prop := ∀ (K : Ctx) (j1 : Nat), av K [] → m ≤ j1 → qLG K Tryz.f26 (fun u _ => u = .int .i64 r0) (xL (ac Tryz.f26)) [.loop (xL (ac Tryz.f26)) j1, .blk 0, .seq (xH (ac Tryz.f26))] 20 (mkF 20 0 [(3, .int .i64 a), (7, .row 4 (kidsV p0.kids)), (8, .int .i64 (p0.kids.length : Int)), (9, .int .i64 (b : Int))]) ⟨0, []⟩
theorem uw (m : Nat) (p0 : Tree) (r0 : Int) (h : jU m p0 0 0 r0) : fY p0 r0 := by
 refine ⟨rfl, rfl, ?_⟩
 refine am 20 [] Tryz.func26 rfl rfl rfl (aM rfl) fun K hK => ?_
 exact gR 3 rfl <| gFP 0 rfl rfl rfl rfl <| gR 14 rfl <| gV 8 (.int .i64 (p0.kids.length : Int)) rfl (bx (aG _)) rfl <| gLB 7 rfl (aG _) fun hl5 => gR 4 rfl <| go_loop m <| gJ (h K _ hK (by omega)) [] [] rfl hK pq4 trivial rfl
theorem tl (m : Nat) (p0 : Tree) (b : Int) (a : Nat) (r0 : Int) (h : ((a < p0.kids.length) → ∃ c, p0.kids[a]? = some c ∧ ∃ d, fY c d ∧ a + 1 ≤ 9223372036854775807 ∧ jU m p0 (max b d) (a + 1) r0) ∧ ((¬ a < p0.kids.length) → InI (b + 1) ∧ (b + 1) = r0)) : jU (m + 1) p0 b a r0 := by
 intro K j1 hK hj1
 obtain ⟨j1, rfl⟩ : ∃ j, j1 = j + 1 := ⟨j1 - 1, by omega⟩
 refine gR 6 rfl <| gB 10 rfl rfl rfl ?_ ?_ <;> intro hd
 replace hd := (fg hd)
 replace h := h.1 hd
 refine gR 7 rfl ?_
 obtain ⟨c, hxt1_1, h⟩ := h
 refine gY (az (aj hxt1_1) ab rfl rfl rfl rfl) rfl rfl <| gR 8 rfl ?_
 obtain ⟨d, hs6, h⟩ := h
 refine gC0 hs6 (by kernel_rfl) rfl rfl .rfl rfl <| gR 6 rfl ?_
 obtain ⟨hb, h⟩ := h
 exact gR 1 rfl <| gV 17 (.int .i64 ((a + 1 : Nat) : Int)) rfl (ax (by omega) (by omega)) rfl <| gR 2 rfl <| go_xloop <| gJ (h K _ hK (by omega)) [] [] rfl hK pq4 trivial rfl
 replace hd := (fc hd)
 replace h := h.2 hd
 refine gR 3 rfl <| go_xloopE <| gR 5 rfl ?_
 obtain ⟨hb, h⟩ := h
 refine gR 1 rfl <| gV 19 (.int .i64 (b + 1)) rfl (ax hb rfl) rfl <| gR 4 rfl ?_
 subst h
 exact go_end ab (rs := [.tmp 2]) rfl rfl rfl
abbrev vI (a0 : Int) (a1 : List UInt8) : Ob := .var 25 [.int .i64 a0, .str a1, .sl 4, .nils]
def aJ (a : List GToken) (b g c j : Int) (r0 : Tree) (d : List GToken) (e i f k : Int) : Prop := bS [] Tryz.prog 79 [.ptr 0 0] ⟨1, [(0, vA a b g c j)]⟩ (fun u G => u = .agg (ai r0) ∧ G = ⟨2, [(0, vA d e i f k)]⟩)
def cP (a : List GToken) (b g c j : Int) (r0 : Tree) (d : List GToken) (e i f k : Int) : Prop := bS [] Tryz.prog 109 [.ptr 0 0] ⟨1, [(0, vA a b g c j)]⟩ (fun u G => u = .agg (ai r0) ∧ G = ⟨2, [(0, vA d e i f k)]⟩)
def gw (a : List GToken) (b g c j : Int) (r0 : Tree) (d : List GToken) (e i f k : Int) : Prop := bS [] Tryz.prog 123 [.ptr 0 0] ⟨1, [(0, vA a b g c j)]⟩ (fun u G => u = .agg (ai r0) ∧ G = ⟨2, [(0, vA d e i f k)]⟩)
def cD (a : List GToken) (b g c j : Int) (r0 : Tree) (d : List GToken) (e i f k : Int) : Prop := bS [] Tryz.prog 128 [.ptr 0 0] ⟨1, [(0, vA a b g c j)]⟩ (fun u G => u = .agg (ai r0) ∧ G = ⟨2, [(0, vA d e i f k)]⟩)
def ju (a : List GToken) (b g c j : Int) (r0 : Tree) (d : List GToken) (e i f k : Int) : Prop := bS [] Tryz.prog 124 [.ptr 0 0] ⟨1, [(0, vA a b g c j)]⟩ (fun u G => u = .agg (ai r0) ∧ G = ⟨2, [(0, vA d e i f k)]⟩)
def cM (m : Nat) (g : List GToken) (i j k l : Int) (f r0 : Tree) (a : List GToken) (b d c e : Int) : Prop := ∀ (K : Ctx) (j1 : Nat), av K [0] → m ≤ j1 → qLG K Tryz.f79 (fun u G => u = .agg (ai r0) ∧ G = ⟨2, [(0, vA a b d c e)]⟩) (cL (cK (cA (xH (ac Tryz.f79))))) [.loop (cL (cK (cA (xH (ac Tryz.f79))))) j1, .blk 1, .seq (xJ (ac Tryz.f79))] 115 (mkF 115 0 [(0, .ptr 0 0), (2, .ptr 1 0), (5, .ptr 2 0)]) ⟨3, [(2, .var 25 (ai f)), (1, vB 0 []), (0, vA g i j k l)]⟩
def jn (m : Nat) (f : GToken) (g : List GToken) (i j k l : Int) (n : List Tree) (r0 : Tree) (a : List GToken) (b d c e : Int) : Prop := ∀ (K : Ctx) (j1 : Nat), av K [0] → m ≤ j1 → Go Tryz.prog K (bodyPost Tryz.prog Tryz.f79 (SP K (fun u G => u = .agg (ai r0) ∧ G = ⟨2, [(0, vA a b d c e)]⟩))) (.ex .normal) [.blk 2, .loop (cL (cK (cA (xH (ac Tryz.f79))))) j1, .blk 1, .seq (xJ (ac Tryz.f79))] 115 (mkF 115 0 [(0, .ptr 0 0), (2, .ptr 1 0), (5, .ptr 2 0)]) ⟨5, [(4, .row 25 4 (kidsV n)), (3, .row 9 1 [.str f.Lead]), (2, vG 21 f.Text), (1, vB 0 []), (0, vA g i j k l)]⟩
theorem eY (m : Nat) (x : List GToken) (y p0_size z p0_at_ : Int) (r0 : Tree) (q : List GToken) (r t s v : Int) (h : ∃ ζ α β γ δ ε, aH x y p0_size z p0_at_ ζ α β γ δ ε ∧ ((ζ.Text = [108, 101, 116]) → 4 ≤ 1000000000 ∧ ∃ d r0_8 n0_9 η θ ι, aI α β γ δ ε d r0_8 n0_9 η θ ι ∧ ∃ s0_13, (List.replicate 4 ([] : List UInt8))[0]? = some s0_13 ∧ ∃ n c κ μ ν ξ ο, cm r0_8 n0_9 η θ ι 1 1 n c κ μ ν ξ ο ∧ ∃ s0_21, ((List.replicate 4 ([] : List UInt8)).set 0 d.Lead)[1]? = some s0_21 ∧ ∃ g π τ υ φ χ, ay κ μ ν ξ ο [61] g π τ υ φ χ ∧ ∃ s0_28, (((List.replicate 4 ([] : List UInt8)).set 0 d.Lead).set 1 c)[2]? = some s0_28 ∧ ∃ j ψ ω n0_32 n0_33 n0_34, aJ π τ υ φ χ j ψ ω n0_32 n0_33 n0_34 ∧ ∃ o r0_36 n0_37 n0_38 n0_39 n0_40, ay ψ ω n0_32 n0_33 n0_34 [105, 110] o r0_36 n0_37 n0_38 n0_39 n0_40 ∧ ∃ s0_41, ((((List.replicate 4 ([] : List UInt8)).set 0 d.Lead).set 1 c).set 2 g)[3]? = some s0_41 ∧ ∃ k r0_43 n0_44 n0_45 n0_46 n0_47, aJ r0_36 n0_37 n0_38 n0_39 n0_40 k r0_43 n0_44 n0_45 n0_46 n0_47 ∧ ([j] ++ [k]).length ≤ 1000000000 ∧ (Tree.node 20 n (((((List.replicate 4 ([] : List UInt8)).set 0 d.Lead).set 1 c).set 2 g).set 3 o) ([j] ++ [k])) = r0 ∧ r0_43 = q ∧ n0_44 = r ∧ n0_45 = t ∧ n0_46 = s ∧ n0_47 = v) ∧ ((ζ.Text ≠ [108, 101, 116]) → ((ζ.Text = [105, 102]) → 3 ≤ 1000000000 ∧ ∃ a r0_49 n0_50 n0_51 n0_52 n0_53, aI α β γ δ ε a r0_49 n0_50 n0_51 n0_52 n0_53 ∧ ∃ s0_54, (List.replicate 3 ([] : List UInt8))[0]? = some s0_54 ∧ ∃ b r0_56 n0_57 n0_58 n0_59 n0_60, aJ r0_49 n0_50 n0_51 n0_52 n0_53 b r0_56 n0_57 n0_58 n0_59 n0_60 ∧ ∃ i r0_62 n0_63 n0_64 n0_65 n0_66, ay r0_56 n0_57 n0_58 n0_59 n0_60 [116, 104, 101, 110] i r0_62 n0_63 n0_64 n0_65 n0_66 ∧ ∃ s0_67, ((List.replicate 3 ([] : List UInt8)).set 0 a.Lead)[1]? = some s0_67 ∧ ∃ e r0_69 n0_70 n0_71 n0_72 n0_73, aJ r0_62 n0_63 n0_64 n0_65 n0_66 e r0_69 n0_70 n0_71 n0_72 n0_73 ∧ ([b] ++ [e]).length ≤ 1000000000 ∧ ∃ p r0_75 n0_76 n0_77 n0_78 n0_79, ay r0_69 n0_70 n0_71 n0_72 n0_73 [101, 108, 115, 101] p r0_75 n0_76 n0_77 n0_78 n0_79 ∧ ∃ s0_80, (((List.replicate 3 ([] : List UInt8)).set 0 a.Lead).set 1 i)[2]? = some s0_80 ∧ ∃ l r0_82 n0_83 n0_84 n0_85 n0_86, aJ r0_75 n0_76 n0_77 n0_78 n0_79 l r0_82 n0_83 n0_84 n0_85 n0_86 ∧ (([b] ++ [e]) ++ [l]).length ≤ 1000000000 ∧ (Tree.node 19 [] ((((List.replicate 3 ([] : List UInt8)).set 0 a.Lead).set 1 i).set 2 p) (([b] ++ [e]) ++ [l])) = r0 ∧ r0_82 = q ∧ n0_83 = r ∧ n0_84 = t ∧ n0_85 = s ∧ n0_86 = v) ∧ ((ζ.Text ≠ [105, 102]) → ∃ t0_87 r0_88 n0_89 n0_90 n0_91 n0_92, cP α β γ δ ε t0_87 r0_88 n0_89 n0_90 n0_91 n0_92 ∧ cM m r0_88 n0_89 n0_90 n0_91 n0_92 t0_87 r0 q r t s v))) : aJ x y p0_size z p0_at_ r0 q r t s v := by
 refine am 115 [0] Tryz.func79 rfl rfl rfl (aM rfl) fun K hK => ?_
 refine gR 9 rfl ?_
 obtain ⟨ζ, α, β, γ, δ, ε, hs55, h⟩ := h
 refine gCY hs55 [0] ?_
 refine gR 10 rfl <| gB 10 rfl rfl rfl ?_ ?_ <;> intro hd
 refine gT 11 rfl hd rfl ?_
 replace hd := (eq_of_beq hd)
 replace h := h.1 hd
 refine gR 3 rfl ?_
 obtain ⟨hb, h⟩ := h
 refine gDo (.new (.row 9 1 (List.replicate 4 (.str [])))) (dMk ab rfl rfl rfl rfl rfl rfl rfl (by kernel_rfl) hb) trivial rfl rfl rfl <| gHR 4 (List.map V.str (List.replicate 4 ([] : List UInt8))) rfl (by first | (simp only [bk, List.map_replicate]; done) | (simp only [bk, List.map_replicate]; rfl)) rfl <| gR 6 rfl <| go_sub (F' := (mkF 115 0 [(0, .ptr 0 0), (2, .ptr 1 0), (3, .ptr 2 0)])) (H' := ⟨4, [(3, .row 9 1 (List.map V.str (List.replicate 4 ([] : List UInt8)))), (2, vH 20 []), (1, vB 0 []), (0, vA α β γ δ ε)]⟩) [0, 1, 5, 4] [0] rfl hK pq3 ⟨⟨_, rfl, rfl, rfl, (vK _ (List.replicate 4 ([] : List UInt8))).symm⟩, (pqo3 rfl rfl rfl rfl rfl rfl)⟩ rfl ?_
 refine gDs [2] 6 7 rfl (by kernel_rfl) (by kernel_rfl) ?_
 refine gDr [(0, 2), (1, 3), (2, 0)] (by kernel_rfl) rfl rfl ?_
 obtain ⟨d, r0_8, n0_9, η, θ, ι, hs56, h⟩ := h
 refine gDCY 3 hs56 [0] rfl ?_
 refine gDr [(4, 0)] (by kernel_rfl) rfl rfl ?_
 obtain ⟨s0_13, hxs0_13, h⟩ := h
 refine bA 5 rfl (by kernel_rfl) (yIO ab rfl rfl rfl rfl (by have := (mapget (f := V.str) hxs0_13); exact (List.getElem?_eq_some_iff.1 this).1)) rfl rfl ?_
 refine aP 6 (.set 3 (.row 9 1 (List.map V.str ((vN 4).set 0 d.Lead)))) rfl (by kernel_rfl) (dSe ab rfl rfl rfl rfl (mapget (f := V.str) hxs0_13) rfl (cg V.str (List.replicate 4 ([] : List UInt8)) 0 d.Lead)) (okS rfl) rfl (by kernel_rfl) rfl rfl ?_
 refine gDe (by kernel_rfl) <| gR 2 rfl <| go_sub (F' := (mkF 115 0 [(0, .ptr 0 0), (2, .ptr 1 0), (3, .ptr 2 0)])) (H' := ⟨4, [(3, .row 9 1 (List.map V.str ((vN 4).set 0 d.Lead))), (2, vH 20 []), (1, vB 0 []), (0, vA r0_8 n0_9 η θ ι)]⟩) [0, 1, 2, 3] [0] rfl hK pq3 ⟨⟨_, rfl, rfl, rfl, (vK _ ((vN 4).set 0 d.Lead)).symm⟩, (pqo3 rfl rfl rfl rfl rfl rfl)⟩ rfl <| gDs [2] 8 11 rfl (by kernel_rfl) (by kernel_rfl) <| gDr [(0, 2), (1, 3), (2, 0)] (by kernel_rfl) rfl rfl ?_
 obtain ⟨n, c, κ, μ, ν, ξ, ο, hs57, h⟩ := h
 refine gDCY 3 hs57 [0] rfl ?_
 refine gDr [(4, 0), (5, 2), (6, 2), (7, 0), (8, 1)] (by kernel_rfl) rfl rfl ?_
 obtain ⟨s0_21, hxs0_21, h⟩ := h
 refine bA 9 rfl (by kernel_rfl) (yIO ab rfl rfl rfl rfl (by have := (mapget (f := V.str) hxs0_21); exact (List.getElem?_eq_some_iff.1 this).1)) rfl rfl ?_
 refine aP 10 (.set 3 (.row 9 1 (List.map V.str (((vN 4).set 0 d.Lead).set 1 c)))) rfl (by kernel_rfl) (dSe ab rfl rfl rfl rfl (mapget (f := V.str) hxs0_21) rfl (cg V.str ((vN 4).set 0 d.Lead) 1 c)) (okS rfl) rfl (by kernel_rfl) rfl rfl ?_
 refine gDe (by kernel_rfl) <| gR 1 rfl <| go_sub (F' := (mkF 115 0 [(0, .ptr 0 0), (2, .ptr 1 0), (3, .ptr 2 0)])) (H' := ⟨4, [(3, .row 9 1 (List.map V.str (((vN 4).set 0 d.Lead).set 1 c))), (2, vH 20 n), (1, vB 0 []), (0, vA κ μ ν ξ ο)]⟩) [0, 1, 2, 3] [0] rfl hK pq3 ⟨⟨_, rfl, rfl, rfl, (vK _ (((vN 4).set 0 d.Lead).set 1 c)).symm⟩, (pqo3 rfl rfl rfl rfl rfl rfl)⟩ rfl <| gR 1 rfl <| gDs [2] 5 6 rfl (by kernel_rfl) (by kernel_rfl) ?_
 refine gDr [(0, 2), (1, 3), (2, 0)] (by kernel_rfl) rfl rfl ?_
 obtain ⟨g, π, τ, υ, φ, χ, hs58, h⟩ := h
 refine gDCY 3 hs58 [0] rfl ?_
 obtain ⟨s0_28, hxs0_28, h⟩ := h
 refine bA 4 rfl (by kernel_rfl) (yIO ab rfl rfl rfl rfl (by have := (mapget (f := V.str) hxs0_28); exact (List.getElem?_eq_some_iff.1 this).1)) rfl rfl ?_
 refine aP 5 (.set 3 (.row 9 1 (List.map V.str ((((vN 4).set 0 d.Lead).set 1 c).set 2 g)))) rfl (by kernel_rfl) (dSe ab rfl rfl rfl rfl (mapget (f := V.str) hxs0_28) rfl (cg V.str (((vN 4).set 0 d.Lead).set 1 c) 2 g)) (okS rfl) rfl (by kernel_rfl) rfl rfl ?_
 refine gDe (by kernel_rfl) <| gR 2 rfl <| go_sub (F' := (mkF 115 0 [(0, .ptr 0 0), (2, .ptr 1 0), (3, .ptr 2 0)])) (H' := ⟨4, [(3, .row 9 1 (List.map V.str ((((vN 4).set 0 d.Lead).set 1 c).set 2 g))), (2, vH 20 n), (1, vB 0 []), (0, vA π τ υ φ χ)]⟩) [0, 1, 2, 3] [0] rfl hK pq3 ⟨⟨_, rfl, rfl, rfl, (vK _ ((((vN 4).set 0 d.Lead).set 1 c).set 2 g)).symm⟩, (pqo3 rfl rfl rfl rfl rfl rfl)⟩ rfl <| gDs [2] 7 8 rfl (by kernel_rfl) (by kernel_rfl) ?_
 refine gDr [(0, 2), (1, 3), (2, 0)] (by kernel_rfl) rfl rfl ?_
 obtain ⟨j, ψ, ω, n0_32, n0_33, n0_34, hs59, h⟩ := h
 refine gDCY 3 hs59 [0] rfl ?_
 refine gDr [(4, 0)] (by kernel_rfl) rfl rfl <| gHR 6 (kidsV [j]) rfl (cI j) rfl <| aP 5 (.new (.row 25 4 (kidsV [j]))) rfl (by kernel_rfl) (nU ab rfl rfl rfl rfl rfl (by first | decide | (simp; done) | (simp [aG]; done))) trivial rfl (by kernel_rfl) rfl rfl <| gDr [(6, 0), (7, 1)] (by kernel_rfl) rfl rfl <| gDe (by kernel_rfl) <| gR 2 rfl <| go_sub (F' := (mkF 115 0 [(0, .ptr 0 0), (2, .ptr 1 0), (3, .ptr 2 0)])) (H' := ⟨5, [(4, .row 25 4 (kidsV [j])), (3, .row 9 1 (List.map V.str ((((vN 4).set 0 d.Lead).set 1 c).set 2 g))), (2, vG 20 n), (1, vB 0 []), (0, vA ψ ω n0_32 n0_33 n0_34)]⟩) [0, 1, 2, 3, 7] [0] rfl hK pq3 ⟨⟨_, rfl, rfl, rfl, (aC _ [j]).symm⟩, ⟨_, rfl, rfl, rfl, (vK _ ((((vN 4).set 0 d.Lead).set 1 c).set 2 g)).symm⟩, (pqo3 rfl rfl rfl rfl rfl rfl)⟩ rfl ?_
 refine gDs [2] 5 6 rfl (by kernel_rfl) (by kernel_rfl) ?_
 refine gDr [(0, 2), (1, 3), (2, 0)] (by kernel_rfl) rfl rfl ?_
 obtain ⟨o, r0_36, n0_37, n0_38, n0_39, n0_40, hs60, h⟩ := h
 refine gDCY 3 hs60 [0] rfl ?_
 obtain ⟨s0_41, hxs0_41, h⟩ := h
 refine bA 4 rfl (by kernel_rfl) (yIO ab rfl rfl rfl rfl (by have := (mapget (f := V.str) hxs0_41); exact (List.getElem?_eq_some_iff.1 this).1)) rfl rfl ?_
 refine aP 5 (.set 3 (.row 9 1 (List.map V.str (((((vN 4).set 0 d.Lead).set 1 c).set 2 g).set 3 o)))) rfl (by kernel_rfl) (dSe ab rfl rfl rfl rfl (mapget (f := V.str) hxs0_41) rfl (cg V.str ((((vN 4).set 0 d.Lead).set 1 c).set 2 g) 3 o)) (okS rfl) rfl (by kernel_rfl) rfl rfl ?_
 refine gDe (by kernel_rfl) <| gR 2 rfl <| go_sub (F' := (mkF 115 0 [(0, .ptr 0 0), (2, .ptr 1 0), (3, .ptr 2 0)])) (H' := ⟨5, [(4, .row 25 4 (kidsV [j])), (3, .row 9 1 (List.map V.str (((((vN 4).set 0 d.Lead).set 1 c).set 2 g).set 3 o))), (2, vG 20 n), (1, vB 0 []), (0, vA r0_36 n0_37 n0_38 n0_39 n0_40)]⟩) [0, 1, 2, 3, 4] [0] rfl hK pq3 ⟨⟨_, rfl, rfl, rfl, (aC _ [j]).symm⟩, ⟨_, rfl, rfl, rfl, (vK _ (((((vN 4).set 0 d.Lead).set 1 c).set 2 g).set 3 o)).symm⟩, (pqo3 rfl rfl rfl rfl rfl rfl)⟩ rfl ?_
 refine gDs [2] 7 8 rfl (by kernel_rfl) (by kernel_rfl) ?_
 refine gDr [(0, 2), (1, 3), (2, 0)] (by kernel_rfl) rfl rfl ?_
 obtain ⟨k, r0_43, n0_44, n0_45, n0_46, n0_47, hs61, h⟩ := h
 refine gDCY 3 hs61 [0] rfl ?_
 refine gDr [(4, 0)] (by kernel_rfl) rfl rfl <| gHR 7 (kidsV [k]) rfl (cI k) rfl ?_
 obtain ⟨hb, h⟩ := h
 refine aP 5 (.repl 4 (.row 25 4 (kidsV ([j] ++ [k])))) rfl (by kernel_rfl) (bm ab rfl rfl rfl rfl rfl (bC [j] [k]).symm (by rw [aG]; exact hb)) (okR rfl) rfl (by kernel_rfl) rfl rfl ?_
 refine gDr [(6, 0), (7, 1)] (by kernel_rfl) rfl rfl <| gDe (by kernel_rfl) <| gR 10 rfl <| gFR 3 rfl (cb _ (fun _ => rfl) _) rfl rfl <| gFR 8 rfl (bo _) rfl rfl ?_
 obtain ⟨rfl, rfl, rfl, rfl, rfl, rfl⟩ := h
 refine go_sub (F' := (mkF 115 0 [(2, .ptr 1 0)])) (H' := ⟨2, [(1, vF ((Tree.node 20 n (((((vN 4).set 0 d.Lead).set 1 c).set 2 g).set 3 o) ([j] ++ [k])).kind) ((Tree.node 20 n (((((vN 4).set 0 d.Lead).set 1 c).set 2 g).set 3 o) ([j] ++ [k])).text) ((Tree.node 20 n (((((vN 4).set 0 d.Lead).set 1 c).set 2 g).set 3 o) ([j] ++ [k])).leads) ((Tree.node 20 n (((((vN 4).set 0 d.Lead).set 1 c).set 2 g).set 3 o) ([j] ++ [k])).kids)), (0, vA r0_43 n0_44 n0_45 n0_46 n0_47)]⟩) [0, 1] [0] rfl hK pq1 (pqo2 rfl rfl rfl rfl) rfl ?_
 exact go_endD [1] ab (rs := [.cell 2 25]) rfl rfl ⟨rfl, rfl⟩
 refine gF 11 rfl hd rfl ?_
 replace hd := (ne_of_beq_false hd)
 replace h := h.2 hd
 refine gR 7 rfl <| gB 54 rfl rfl rfl ?_ ?_ <;> intro hd
 refine gT 55 rfl hd rfl ?_
 replace hd := (eq_of_beq hd)
 replace h := h.1 hd
 refine gR 3 rfl ?_
 obtain ⟨hb, h⟩ := h
 refine gDo (.new (.row 9 1 (List.replicate 3 (.str [])))) (dMk ab rfl rfl rfl rfl rfl rfl rfl (by kernel_rfl) hb) trivial rfl rfl rfl <| gHR 4 (List.map V.str (List.replicate 3 ([] : List UInt8))) rfl (by first | (simp only [bk, List.map_replicate]; done) | (simp only [bk, List.map_replicate]; rfl)) rfl <| gR 5 rfl <| go_sub (F' := (mkF 115 0 [(0, .ptr 0 0), (2, .ptr 1 0), (4, .ptr 2 0)])) (H' := ⟨4, [(3, .row 9 1 (List.map V.str (List.replicate 3 ([] : List UInt8)))), (2, vH 19 []), (1, vB 0 []), (0, vA α β γ δ ε)]⟩) [0, 1, 5, 4] [0] rfl hK pq3 ⟨⟨_, rfl, rfl, rfl, (vK _ (List.replicate 3 ([] : List UInt8))).symm⟩, (pqo3 rfl rfl rfl rfl rfl rfl)⟩ rfl ?_
 refine gR 1 rfl <| gDs [2] 6 7 rfl (by kernel_rfl) (by kernel_rfl) <| gDr [(0, 2), (1, 3), (2, 0)] (by kernel_rfl) rfl rfl ?_
 obtain ⟨a, r0_49, n0_50, n0_51, n0_52, n0_53, hs62, h⟩ := h
 refine gDCY 3 hs62 [0] rfl ?_
 refine gDr [(4, 0)] (by kernel_rfl) rfl rfl ?_
 obtain ⟨s0_54, hxs0_54, h⟩ := h
 refine bA 5 rfl (by kernel_rfl) (yIO ab rfl rfl rfl rfl (by have := (mapget (f := V.str) hxs0_54); exact (List.getElem?_eq_some_iff.1 this).1)) rfl rfl ?_
 refine aP 6 (.set 3 (.row 9 1 (List.map V.str ((vN 3).set 0 a.Lead)))) rfl (by kernel_rfl) (dSe ab rfl rfl rfl rfl (mapget (f := V.str) hxs0_54) rfl (cg V.str (List.replicate 3 ([] : List UInt8)) 0 a.Lead)) (okS rfl) rfl (by kernel_rfl) rfl rfl ?_
 refine gDe (by kernel_rfl) <| gR 2 rfl <| go_sub (F' := (mkF 115 0 [(0, .ptr 0 0), (2, .ptr 1 0), (4, .ptr 2 0)])) (H' := ⟨4, [(3, .row 9 1 (List.map V.str ((vN 3).set 0 a.Lead))), (2, vH 19 []), (1, vB 0 []), (0, vA r0_49 n0_50 n0_51 n0_52 n0_53)]⟩) [0, 1, 2, 3] [0] rfl hK pq3 ⟨⟨_, rfl, rfl, rfl, (vK _ ((vN 3).set 0 a.Lead)).symm⟩, (pqo3 rfl rfl rfl rfl rfl rfl)⟩ rfl <| gDs [2] 7 8 rfl (by kernel_rfl) (by kernel_rfl) <| gDr [(0, 2), (1, 3), (2, 0)] (by kernel_rfl) rfl rfl ?_
 obtain ⟨b, r0_56, n0_57, n0_58, n0_59, n0_60, hs63, h⟩ := h
 refine gDCY 3 hs63 [0] rfl ?_
 refine gDr [(4, 0)] (by kernel_rfl) rfl rfl <| gHR 6 (kidsV [b]) rfl (cI b) rfl <| aP 5 (.new (.row 25 4 (kidsV [b]))) rfl (by kernel_rfl) (nU ab rfl rfl rfl rfl rfl (by first | decide | (simp; done) | (simp [aG]; done))) trivial rfl (by kernel_rfl) rfl rfl <| gDr [(6, 0), (7, 1)] (by kernel_rfl) rfl rfl <| gDe (by kernel_rfl) <| gR 2 rfl <| go_sub (F' := (mkF 115 0 [(0, .ptr 0 0), (2, .ptr 1 0), (4, .ptr 2 0)])) (H' := ⟨5, [(4, .row 25 4 (kidsV [b])), (3, .row 9 1 (List.map V.str ((vN 3).set 0 a.Lead))), (2, vG 19 []), (1, vB 0 []), (0, vA r0_56 n0_57 n0_58 n0_59 n0_60)]⟩) [0, 1, 2, 3, 7] [0] rfl hK pq3 ⟨⟨_, rfl, rfl, rfl, (aC _ [b]).symm⟩, ⟨_, rfl, rfl, rfl, (vK _ ((vN 3).set 0 a.Lead)).symm⟩, (pqo3 rfl rfl rfl rfl rfl rfl)⟩ rfl ?_
 refine gDs [2] 5 6 rfl (by kernel_rfl) (by kernel_rfl) ?_
 refine gDr [(0, 2), (1, 3), (2, 0)] (by kernel_rfl) rfl rfl ?_
 obtain ⟨i, r0_62, n0_63, n0_64, n0_65, n0_66, hs64, h⟩ := h
 refine gDCY 3 hs64 [0] rfl ?_
 obtain ⟨s0_67, hxs0_67, h⟩ := h
 refine bA 4 rfl (by kernel_rfl) (yIO ab rfl rfl rfl rfl (by have := (mapget (f := V.str) hxs0_67); exact (List.getElem?_eq_some_iff.1 this).1)) rfl rfl ?_
 refine aP 5 (.set 3 (.row 9 1 (List.map V.str (((vN 3).set 0 a.Lead).set 1 i)))) rfl (by kernel_rfl) (dSe ab rfl rfl rfl rfl (mapget (f := V.str) hxs0_67) rfl (cg V.str ((vN 3).set 0 a.Lead) 1 i)) (okS rfl) rfl (by kernel_rfl) rfl rfl ?_
 refine gDe (by kernel_rfl) <| gR 2 rfl <| go_sub (F' := (mkF 115 0 [(0, .ptr 0 0), (2, .ptr 1 0), (4, .ptr 2 0)])) (H' := ⟨5, [(4, .row 25 4 (kidsV [b])), (3, .row 9 1 (List.map V.str (((vN 3).set 0 a.Lead).set 1 i))), (2, vG 19 []), (1, vB 0 []), (0, vA r0_62 n0_63 n0_64 n0_65 n0_66)]⟩) [0, 1, 2, 3, 4] [0] rfl hK pq3 ⟨⟨_, rfl, rfl, rfl, (aC _ [b]).symm⟩, ⟨_, rfl, rfl, rfl, (vK _ (((vN 3).set 0 a.Lead).set 1 i)).symm⟩, (pqo3 rfl rfl rfl rfl rfl rfl)⟩ rfl ?_
 refine gDs [2] 7 8 rfl (by kernel_rfl) (by kernel_rfl) ?_
 refine gDr [(0, 2), (1, 3), (2, 0)] (by kernel_rfl) rfl rfl ?_
 obtain ⟨e, r0_69, n0_70, n0_71, n0_72, n0_73, hs65, h⟩ := h
 refine gDCY 3 hs65 [0] rfl ?_
 refine gDr [(4, 0)] (by kernel_rfl) rfl rfl <| gHR 7 (kidsV [e]) rfl (cI e) rfl ?_
 obtain ⟨hb, h⟩ := h
 refine aP 5 (.repl 4 (.row 25 4 (kidsV ([b] ++ [e])))) rfl (by kernel_rfl) (bm ab rfl rfl rfl rfl rfl (bC [b] [e]).symm (by rw [aG]; exact hb)) (okR rfl) rfl (by kernel_rfl) rfl rfl ?_
 refine gDr [(6, 0), (7, 1)] (by kernel_rfl) rfl rfl <| gDe (by kernel_rfl) <| gR 2 rfl <| go_sub (F' := (mkF 115 0 [(0, .ptr 0 0), (2, .ptr 1 0), (4, .ptr 2 0)])) (H' := ⟨5, [(4, .row 25 4 (kidsV ([b] ++ [e]))), (3, .row 9 1 (List.map V.str (((vN 3).set 0 a.Lead).set 1 i))), (2, vG 19 []), (1, vB 0 []), (0, vA r0_69 n0_70 n0_71 n0_72 n0_73)]⟩) [0, 1, 2, 3, 8] [0] rfl hK pq3 ⟨⟨_, rfl, rfl, rfl, (aC _ ([b] ++ [e])).symm⟩, ⟨_, rfl, rfl, rfl, (vK _ (((vN 3).set 0 a.Lead).set 1 i)).symm⟩, (pqo3 rfl rfl rfl rfl rfl rfl)⟩ rfl ?_
 refine gDs [2] 5 6 rfl (by kernel_rfl) (by kernel_rfl) ?_
 refine gDr [(0, 2), (1, 3), (2, 0)] (by kernel_rfl) rfl rfl ?_
 obtain ⟨p, r0_75, n0_76, n0_77, n0_78, n0_79, hs66, h⟩ := h
 refine gDCY 3 hs66 [0] rfl ?_
 obtain ⟨s0_80, hxs0_80, h⟩ := h
 refine bA 4 rfl (by kernel_rfl) (yIO ab rfl rfl rfl rfl (by have := (mapget (f := V.str) hxs0_80); exact (List.getElem?_eq_some_iff.1 this).1)) rfl rfl ?_
 refine aP 5 (.set 3 (.row 9 1 (List.map V.str ((((vN 3).set 0 a.Lead).set 1 i).set 2 p)))) rfl (by kernel_rfl) (dSe ab rfl rfl rfl rfl (mapget (f := V.str) hxs0_80) rfl (cg V.str (((vN 3).set 0 a.Lead).set 1 i) 2 p)) (okS rfl) rfl (by kernel_rfl) rfl rfl ?_
 refine gDe (by kernel_rfl) <| gR 2 rfl <| go_sub (F' := (mkF 115 0 [(0, .ptr 0 0), (2, .ptr 1 0), (4, .ptr 2 0)])) (H' := ⟨5, [(4, .row 25 4 (kidsV ([b] ++ [e]))), (3, .row 9 1 (List.map V.str ((((vN 3).set 0 a.Lead).set 1 i).set 2 p))), (2, vG 19 []), (1, vB 0 []), (0, vA r0_75 n0_76 n0_77 n0_78 n0_79)]⟩) [0, 1, 2, 3, 4] [0] rfl hK pq3 ⟨⟨_, rfl, rfl, rfl, (aC _ ([b] ++ [e])).symm⟩, ⟨_, rfl, rfl, rfl, (vK _ ((((vN 3).set 0 a.Lead).set 1 i).set 2 p)).symm⟩, (pqo3 rfl rfl rfl rfl rfl rfl)⟩ rfl ?_
 refine gDs [2] 7 8 rfl (by kernel_rfl) (by kernel_rfl) ?_
 refine gDr [(0, 2), (1, 3), (2, 0)] (by kernel_rfl) rfl rfl ?_
 obtain ⟨l, r0_82, n0_83, n0_84, n0_85, n0_86, hs67, h⟩ := h
 refine gDCY 3 hs67 [0] rfl ?_
 refine gDr [(4, 0)] (by kernel_rfl) rfl rfl <| gHR 7 (kidsV [l]) rfl (cI l) rfl ?_
 obtain ⟨hb, h⟩ := h
 refine aP 5 (.repl 4 (.row 25 4 (kidsV (([b] ++ [e]) ++ [l])))) rfl (by kernel_rfl) (bm ab rfl rfl rfl rfl rfl (bC ([b] ++ [e]) [l]).symm (by rw [aG]; exact hb)) (okR rfl) rfl (by kernel_rfl) rfl rfl ?_
 refine gDr [(6, 0), (7, 1)] (by kernel_rfl) rfl rfl <| gDe (by kernel_rfl) <| gR 10 rfl <| gFR 3 rfl (cb _ (fun _ => rfl) _) rfl rfl <| gFR 8 rfl (bo _) rfl rfl ?_
 obtain ⟨rfl, rfl, rfl, rfl, rfl, rfl⟩ := h
 refine go_sub (F' := (mkF 115 0 [(2, .ptr 1 0)])) (H' := ⟨2, [(1, vF ((Tree.node 19 [] ((((vN 3).set 0 a.Lead).set 1 i).set 2 p) (([b] ++ [e]) ++ [l])).kind) ((Tree.node 19 [] ((((vN 3).set 0 a.Lead).set 1 i).set 2 p) (([b] ++ [e]) ++ [l])).text) ((Tree.node 19 [] ((((vN 3).set 0 a.Lead).set 1 i).set 2 p) (([b] ++ [e]) ++ [l])).leads) ((Tree.node 19 [] ((((vN 3).set 0 a.Lead).set 1 i).set 2 p) (([b] ++ [e]) ++ [l])).kids)), (0, vA r0_82 n0_83 n0_84 n0_85 n0_86)]⟩) [0, 1] [0] rfl hK pq1 (pqo2 rfl rfl rfl rfl) rfl ?_
 exact go_endD [1] ab (rs := [.cell 2 25]) rfl rfl ⟨rfl, rfl⟩
 refine gF 55 rfl hd rfl ?_
 replace hd := (ne_of_beq_false hd)
 replace h := h.2 hd
 refine gR 7 rfl ?_
 obtain ⟨t0_87, r0_88, n0_89, n0_90, n0_91, n0_92, hs68, h⟩ := h
 refine gCY hs68 [0] ?_
 exact gR 4 rfl <| go_sub (F' := (mkF 115 0 [(0, .ptr 0 0), (2, .ptr 1 0), (5, .ptr 2 0)])) (H' := ⟨3, [(2, .var 25 (ai t0_87)), (1, vB 0 []), (0, vA r0_88 n0_89 n0_90 n0_91 n0_92)]⟩) [0, 1, 6] [0] rfl hK pq3 (pqo3 rfl rfl rfl rfl rfl rfl) rfl <| gR 2 rfl <| go_loop m <| gJ (h K _ hK (by omega)) [0, 1, 2] [0] rfl hK pq3 (pqo3 rfl rfl rfl rfl rfl rfl) rfl
theorem iL (m : Nat) (η : List GToken) (θ ι κ μ : Int) (a r0 : Tree) (d : List GToken) (e g f p : Int) (h : ∃ ζ q r s t v, aH η θ ι κ μ ζ q r s t v ∧ ∃ ε, iF ζ.Text ε ∧ ((ε = true) → ∃ x y k l n o, aI q r s t v x y k l n o ∧ ∃ b z α β γ δ, cP y k l n o b z α β γ δ ∧ jn m x z α β γ δ [a, b] r0 d e g f p) ∧ ((ε = false) → a = r0 ∧ q = d ∧ r = e ∧ s = g ∧ t = f ∧ v = p)) : cM (m + 1) η θ ι κ μ a r0 d e g f p := by
 intro K j1 hK hj1
 obtain ⟨j1, rfl⟩ : ∃ j, j1 = j + 1 := ⟨j1 - 1, by omega⟩
 refine gR 4 rfl ?_
 obtain ⟨ζ, q, r, s, t, v, hs69, h⟩ := h
 refine gCY hs69 [0] ?_
 refine gR 1 rfl ?_
 obtain ⟨ε, hs70, h⟩ := h
 refine gC0 hs70 (by kernel_rfl) rfl rfl .rfl rfl <| gR 2 rfl <| gB 101 rfl rfl rfl ?_ ?_ <;> intro hd
 replace h := h.1 hd
 refine gR 7 rfl ?_
 obtain ⟨x, y, k, l, n, o, hs71, h⟩ := h
 refine gCY hs71 [0] ?_
 refine gR 4 rfl <| go_sub (F' := (mkF 115 0 [(0, .ptr 0 0), (2, .ptr 1 0), (5, .ptr 2 0), (6, .ptr 3 0)])) (H' := ⟨4, [(3, .var 46 (GToken.c x)), (2, .var 25 (ai a)), (1, vB 0 []), (0, vA y k l n o)]⟩) [0, 1, 2, 7] [0] rfl hK pq4 (pqo4 rfl rfl rfl rfl rfl rfl rfl rfl) rfl <| gDs [3, 2] 10 11 rfl (by kernel_rfl) (by kernel_rfl) <| gDr [(0, 2), (1, 3), (2, 2), (3, 3), (5, 3), (6, 2)] (by kernel_rfl) rfl rfl ?_
 obtain ⟨b, z, α, β, γ, δ, hs72, h⟩ := h
 apply mh (i := 4) (j := 7) (by kernel_rfl) rfl rfl rfl rfl
 exact (jp ab rfl rfl)
 exact (sq (L' := [3, 2]) (by kernel_rfl) rfl rfl (vn (H := ⟨4, [(3, .var 46 (GToken.c x)), (2, .var 25 (ai a)), (1, vB 0 []), (0, vA y k l n o)]⟩) hs72 [0] .rfl ⟨⟨_, rfl, ⟨rfl, ar.rfl⟩⟩, trivial⟩ rfl [3, 2] rfl) (.inl rfl))
 refine gDCY 7 hs72 [0] rfl ?_
 exact gDr [(8, 0)] (by kernel_rfl) rfl rfl <| gHR 7 (kidsV [a, b]) rfl (rD [a, b]) rfl <| gDr [(9, 0), (10, 1)] (by kernel_rfl) rfl rfl <| gDe (by kernel_rfl) <| gJ (h K _ hK (by omega)) [0, 1, 2, 4, 7] [0] rfl hK pq3 ⟨⟨_, rfl, rfl, rfl, (aC _ [a, b]).symm⟩, ⟨_, rfl, rfl, rfl, rfl⟩, (pqo3 rfl rfl rfl rfl rfl rfl)⟩ rfl
 apply mh (i := 4) (j := 8) (by kernel_rfl) rfl rfl rfl rfl
 exact (jp ab rfl rfl)
 exact (jp ab rfl rfl)
 exact gDr [(8, 0)] (by kernel_rfl) rfl rfl <| gHR 7 (kidsV [a, b]) rfl (rD [a, b]) rfl <| gDr [(9, 0), (10, 1)] (by kernel_rfl) rfl rfl <| gDe (by kernel_rfl) <| gJ (h K _ hK (by omega)) [0, 1, 2, 6, 7] [0] rfl hK pq3 ⟨⟨_, rfl, rfl, rfl, (aC _ [a, b]).symm⟩, ⟨_, rfl, rfl, rfl, rfl⟩, (pqo3 rfl rfl rfl rfl rfl rfl)⟩ rfl
 exact gHR 6 (kidsV [a, b]) rfl (rD [a, b]) rfl <| gDr [(4, 0), (9, 0), (10, 1)] (by kernel_rfl) rfl rfl <| gDe (by kernel_rfl) <| gJ (h K _ hK (by omega)) [0, 1, 2, 7, 6] [0] rfl hK pq3 ⟨⟨_, rfl, rfl, rfl, (aC _ [a, b]).symm⟩, ⟨_, rfl, rfl, rfl, rfl⟩, (pqo3 rfl rfl rfl rfl rfl rfl)⟩ rfl
 replace h := h.2 hd
 refine gR 3 rfl <| go_xloopE <| gR 9 rfl ?_
 obtain ⟨rfl, rfl, rfl, rfl, rfl, rfl⟩ := h
 exact go_sub (F' := (mkF 115 0 [(2, .ptr 1 0)])) (H' := ⟨2, [(1, vF a.kind a.text a.leads a.kids), (0, vA q r s t v)]⟩) [0, 1] [0] rfl hK pq1 (pqo2 rfl rfl rfl rfl) rfl <| go_endD [1] ab (rs := [.cell 2 25]) rfl rfl ⟨rfl, rfl⟩
theorem nN (m : Nat) (f : GToken) (g : List GToken) (i k l n : Int) (o : List Tree) (r0 : Tree) (a : List GToken) (b d c e : Int) (h : cM m g i k l n (Tree.node 21 f.Text [f.Lead] o) r0 a b d c e) : jn (m + 1) f g i k l n o r0 a b d c e := by
 intro K j1 hK hj1
 obtain ⟨j1, rfl⟩ : ∃ j, j1 = j + 1 := ⟨j1 - 1, by omega⟩
 exact gR 1 rfl <| go_xloop <| gFR 3 rfl rfl rfl rfl <| gFR 4 rfl (bo _) rfl rfl <| gJ (h K _ hK (by omega)) [0, 1, 2] [0] rfl hK pq3 (pqo3 rfl rfl rfl rfl rfl rfl) rfl
def dd (m : Nat) (g : GToken) (i : List GToken) (j k l n : Int) (o : Nat) (r0 : Tree) (a : List GToken) (b e d f : Int) : Prop := ∀ (K : Ctx), av K [0] → qLG K Tryz.f109 (fun u G => u = .agg (ai r0) ∧ G = ⟨2, [(0, vA a b e d f)]⟩) (xJ (ac Tryz.f109)) [] 69 (mkF 69 0 [(0, .ptr 0 0), (2, .ptr 1 0), (3, .ptr 2 0), (4, .int .i64 (o : Int)), (5, .str g.Text)]) ⟨3, [(2, .var 46 (GToken.c g)), (1, vB 0 []), (0, vA i j k l n)]⟩
def cz (m : Nat) (f : List GToken) (g i j k : Int) (l : Nat) (n : List UInt8) (r0 : Tree) (a : List GToken) (b d c e : Int) : Prop := ∀ (K : Ctx), av K [0] → qLG K Tryz.f109 (fun u G => u = .agg (ai r0) ∧ G = ⟨2, [(0, vA a b d c e)]⟩) (xN (ac Tryz.f109)) [] 69 (mkF 69 0 [(0, .ptr 0 0), (2, .ptr 1 0), (4, .int .i64 (l : Int)), (5, .str n)]) ⟨2, [(1, vB 0 []), (0, vA f g i j k)]⟩
theorem rS_syntax_parser_unit (m : Nat) (p : List GToken) (q δ r ε : Int) (r0 : Tree) (a : List GToken) (b f d g : Int) (h : ∃ e i j k l n, aH p q δ r ε e i j k l n ∧ ((e.Kind = 5) → dd m e i j k l n 10 r0 a b f d g) ∧ ((e.Kind ≠ 5) → ((e.Kind = 6) → dd m e i j k l n 11 r0 a b f d g) ∧ ((e.Kind ≠ 6) → ((e.Kind = 1) → ∃ s ζ η t v x, gw i j k l n s ζ η t v x ∧ s = r0 ∧ ζ = a ∧ η = b ∧ t = f ∧ v = d ∧ x = g) ∧ ((e.Kind ≠ 1) → ((e.Kind = 3) → ∃ o y z α β γ, gw i j k l n o y z α β γ ∧ o = r0 ∧ y = a ∧ z = b ∧ α = f ∧ β = d ∧ γ = g) ∧ ((e.Kind ≠ 3) → dd m e i j k l n 0 r0 a b f d g))))) : cP p q δ r ε r0 a b f d g := by
 refine am 69 [0] Tryz.func109 rfl rfl rfl (aM rfl) fun K hK => ?_
 refine gR 8 rfl ?_
 obtain ⟨e, i, j, k, l, n, hs26, h⟩ := h
 refine gCY hs26 [0] ?_
 refine gR 5 rfl <| go_sub (F' := (mkF 69 0 [(0, .ptr 0 0), (2, .ptr 1 0), (3, .ptr 2 0)])) (H' := ⟨3, [(2, .var 46 (GToken.c e)), (1, vB 0 []), (0, vA i j k l n)]⟩) [0, 1, 4] [0] rfl hK pq3 (pqo3 rfl rfl rfl rfl rfl rfl) rfl <| gDs [2] 3 4 rfl (by kernel_rfl) (by kernel_rfl) <| gDr [(0, 2), (1, 3), (2, 0), (3, 1)] (by kernel_rfl) rfl rfl <| gDe (by kernel_rfl) <| gR 15 rfl <| qBeZ 13 14 rfl rfl rfl rfl h (fun h => ?_) fun h => ?_
 exact gR 6 rfl <| gJ (h K hK) [0, 1, 2] [0] rfl hK pq5 (pqo3 rfl rfl rfl rfl rfl rfl) rfl
 refine gR 7 rfl <| qBeZ 15 16 rfl rfl rfl rfl h (fun h => ?_) fun h => ?_
 exact gR 6 rfl <| gJ (h K hK) [0, 1, 2] [0] rfl hK pq5 (pqo3 rfl rfl rfl rfl rfl rfl) rfl
 refine gR 8 rfl <| qBeZ 17 18 rfl rfl rfl rfl h (fun h => ?_) fun h => ?_
 refine gR 4 rfl <| go_sub (F' := (mkF 69 0 [(0, .ptr 0 0), (2, .ptr 1 0)])) (H' := ⟨2, [(1, vB 0 []), (0, vA i j k l n)]⟩) [0, 1] [0] rfl hK pq2 (pqo2 rfl rfl rfl rfl) rfl <| gR 3 rfl ?_
 obtain ⟨s, ζ, η, t, v, x, hs27, h⟩ := h
 refine gCY hs27 [0] ?_
 refine gR 6 rfl ?_
 obtain ⟨rfl, rfl, rfl, rfl, rfl, rfl⟩ := h
 exact go_sub (F' := (mkF 69 0 [(2, .ptr 1 0)])) (H' := ⟨2, [(1, vF s.kind s.text s.leads s.kids), (0, vA ζ η t v x)]⟩) [0, 1] [0] rfl hK pq1 (pqo2 rfl rfl rfl rfl) rfl <| go_endD [1] ab (rs := [.cell 2 25]) rfl rfl ⟨rfl, rfl⟩
 refine gR 6 rfl <| qBeZ 17 19 rfl rfl rfl rfl h (fun h => ?_) fun h => ?_
 refine gR 1 rfl <| go_sub (F' := (mkF 69 0 [(0, .ptr 0 0), (2, .ptr 1 0)])) (H' := ⟨2, [(1, vB 0 []), (0, vA i j k l n)]⟩) [0, 1] [0] rfl hK pq2 (pqo2 rfl rfl rfl rfl) rfl <| gR 3 rfl ?_
 obtain ⟨o, y, z, α, β, γ, hs28, h⟩ := h
 refine gCY hs28 [0] ?_
 refine gR 6 rfl ?_
 obtain ⟨rfl, rfl, rfl, rfl, rfl, rfl⟩ := h
 exact go_sub (F' := (mkF 69 0 [(2, .ptr 1 0)])) (H' := ⟨2, [(1, vF o.kind o.text o.leads o.kids), (0, vA y z α β γ)]⟩) [0, 1] [0] rfl hK pq1 (pqo2 rfl rfl rfl rfl) rfl <| go_endD [1] ab (rs := [.cell 2 25]) rfl rfl ⟨rfl, rfl⟩
 exact gR 4 rfl <| gJ (h K hK) [0, 1, 2] [0] rfl hK pq5 (pqo3 rfl rfl rfl rfl rfl rfl) rfl
theorem rL0_syntax_parser_unit (m : Nat) (k : GToken) (l : List GToken) (n o p q : Int) (υ : Nat) (r0 : Tree) (a : List GToken) (b g c i : Int) (h : ((k.Text = [116, 114, 117, 101]) → cz m l n o p q 13 [] r0 a b g c i) ∧ ((k.Text ≠ [116, 114, 117, 101]) → ((k.Text = [102, 97, 108, 115, 101]) → cz m l n o p q 14 [] r0 a b g c i) ∧ ((k.Text ≠ [102, 97, 108, 115, 101]) → ((k.Text = [63]) → cz m l n o p q 15 [] r0 a b g c i) ∧ ((k.Text ≠ [63]) → ((k.Text = [91]) → ∃ r θ ι κ μ ν, ju l n o p q r θ ι κ μ ν ∧ r = r0 ∧ θ = a ∧ ι = b ∧ κ = g ∧ μ = c ∧ ν = i) ∧ ((k.Text ≠ [91]) → ((k.Text = [40]) → 2 ≤ 1000000000 ∧ ∃ e ξ ο s t v, aI l n o p q e ξ ο s t v ∧ ∃ π, (List.replicate 2 ([] : List UInt8))[0]? = some π ∧ ∃ d x y z α β, aJ ξ ο s t v d x y z α β ∧ ∃ j γ δ ε ζ η, ay x y z α β [41] j γ δ ε ζ η ∧ ∃ τ, ((List.replicate 2 ([] : List UInt8)).set 0 e.Lead)[1]? = some τ ∧ (Tree.node 22 [] (((List.replicate 2 ([] : List UInt8)).set 0 e.Lead).set 1 j) [d]) = r0 ∧ γ = a ∧ δ = b ∧ ε = g ∧ ζ = c ∧ η = i) ∧ ((k.Text ≠ [40]) → cz m l n o p q υ k.Text r0 a b g c i)))))) : dd (m + 1) k l n o p q υ r0 a b g c i := by
 intro K hK
 refine gR 14 rfl <| qBeZ 24 25 rfl rfl rfl rfl h (fun h => ?_) fun h => ?_
 exact gR 7 rfl <| gJ (h K hK) [0, 1] [0] rfl hK pq4 (pqo2 rfl rfl rfl rfl) rfl
 refine gR 7 rfl <| qBeZ 26 27 rfl rfl rfl rfl h (fun h => ?_) fun h => ?_
 exact gR 7 rfl <| gJ (h K hK) [0, 1] [0] rfl hK pq4 (pqo2 rfl rfl rfl rfl) rfl
 refine gR 7 rfl <| qBeZ 28 29 rfl rfl rfl rfl h (fun h => ?_) fun h => ?_
 exact gR 7 rfl <| gJ (h K hK) [0, 1] [0] rfl hK pq4 (pqo2 rfl rfl rfl rfl) rfl
 refine gR 7 rfl <| qBeZ 30 31 rfl rfl rfl rfl h (fun h => ?_) fun h => ?_
 refine gR 4 rfl ?_
 obtain ⟨r, θ, ι, κ, μ, ν, hs29, h⟩ := h
 refine gCY hs29 [0] ?_
 refine gR 6 rfl ?_
 obtain ⟨rfl, rfl, rfl, rfl, rfl, rfl⟩ := h
 exact go_sub (F' := (mkF 69 0 [(2, .ptr 1 0)])) (H' := ⟨2, [(1, vF r.kind r.text r.leads r.kids), (0, vA θ ι κ μ ν)]⟩) [0, 1] [0] rfl hK pq1 (pqo2 rfl rfl rfl rfl) rfl <| go_endD [1] ab (rs := [.cell 2 25]) rfl rfl ⟨rfl, rfl⟩
 refine gR 7 rfl <| qBeZ 34 35 rfl rfl rfl rfl h (fun h => ?_) fun h => ?_
 refine gR 1 rfl <| go_sub (F' := (mkF 69 0 [(0, .ptr 0 0), (2, .ptr 1 0)])) (H' := ⟨2, [(1, vB 0 []), (0, vA l n o p q)]⟩) [0, 1] [0] rfl hK pq2 (pqo2 rfl rfl rfl rfl) rfl <| gR 2 rfl ?_
 obtain ⟨hb, h⟩ := h
 refine gDo (.new (.row 9 1 (List.replicate 2 (.str [])))) (dMk ab rfl rfl rfl rfl rfl rfl rfl (by kernel_rfl) hb) trivial rfl rfl rfl <| gHR 2 (List.map V.str (List.replicate 2 ([] : List UInt8))) rfl (by first | (simp only [bk, List.map_replicate]; done) | (simp only [bk, List.map_replicate]; rfl)) rfl <| gR 6 rfl <| go_sub (F' := (mkF 69 0 [(0, .ptr 0 0), (2, .ptr 1 0), (6, .ptr 2 0)])) (H' := ⟨4, [(3, .row 9 1 (List.map V.str (List.replicate 2 ([] : List UInt8)))), (2, vH 22 []), (1, vB 0 []), (0, vA l n o p q)]⟩) [0, 1, 3, 2] [0] rfl hK pq3 ⟨⟨_, rfl, rfl, rfl, (vK _ (List.replicate 2 ([] : List UInt8))).symm⟩, (pqo3 rfl rfl rfl rfl rfl rfl)⟩ rfl ?_
 refine gDs [2] 6 7 rfl (by kernel_rfl) (by kernel_rfl) ?_
 refine gDr [(0, 2), (1, 3), (2, 0)] (by kernel_rfl) rfl rfl ?_
 obtain ⟨e, ξ, ο, s, t, v, hs30, h⟩ := h
 refine gDCY 3 hs30 [0] rfl ?_
 refine gDr [(4, 0)] (by kernel_rfl) rfl rfl ?_
 obtain ⟨π, hxs1_13, h⟩ := h
 refine bA 5 rfl (by kernel_rfl) (yIO ab rfl rfl rfl rfl (by have := (mapget (f := V.str) hxs1_13); exact (List.getElem?_eq_some_iff.1 this).1)) rfl rfl ?_
 refine aP 6 (.set 3 (.row 9 1 (List.map V.str ((vN 2).set 0 e.Lead)))) rfl (by kernel_rfl) (dSe ab rfl rfl rfl rfl (mapget (f := V.str) hxs1_13) rfl (cg V.str (List.replicate 2 ([] : List UInt8)) 0 e.Lead)) (okS rfl) rfl (by kernel_rfl) rfl rfl ?_
 refine gDe (by kernel_rfl) <| gR 2 rfl <| go_sub (F' := (mkF 69 0 [(0, .ptr 0 0), (2, .ptr 1 0), (6, .ptr 2 0)])) (H' := ⟨4, [(3, .row 9 1 (List.map V.str ((vN 2).set 0 e.Lead))), (2, vH 22 []), (1, vB 0 []), (0, vA ξ ο s t v)]⟩) [0, 1, 2, 3] [0] rfl hK pq3 ⟨⟨_, rfl, rfl, rfl, (vK _ ((vN 2).set 0 e.Lead)).symm⟩, (pqo3 rfl rfl rfl rfl rfl rfl)⟩ rfl <| gDs [2] 7 8 rfl (by kernel_rfl) (by kernel_rfl) <| gDr [(0, 2), (1, 3), (2, 0)] (by kernel_rfl) rfl rfl ?_
 obtain ⟨d, x, y, z, α, β, hs31, h⟩ := h
 refine gDCY 3 hs31 [0] rfl ?_
 refine gDr [(4, 0)] (by kernel_rfl) rfl rfl <| gHR 6 (kidsV [d]) rfl (cI d) rfl <| aP 5 (.new (.row 25 4 (kidsV [d]))) rfl (by kernel_rfl) (nU ab rfl rfl rfl rfl rfl (by first | decide | (simp; done) | (simp [aG]; done))) trivial rfl (by kernel_rfl) rfl rfl <| gDr [(6, 0), (7, 1)] (by kernel_rfl) rfl rfl <| gDe (by kernel_rfl) <| gR 2 rfl <| go_sub (F' := (mkF 69 0 [(0, .ptr 0 0), (2, .ptr 1 0), (6, .ptr 2 0)])) (H' := ⟨5, [(4, .row 25 4 (kidsV [d])), (3, .row 9 1 (List.map V.str ((vN 2).set 0 e.Lead))), (2, vG 22 []), (1, vB 0 []), (0, vA x y z α β)]⟩) [0, 1, 2, 3, 7] [0] rfl hK pq3 ⟨⟨_, rfl, rfl, rfl, (aC _ [d]).symm⟩, ⟨_, rfl, rfl, rfl, (vK _ ((vN 2).set 0 e.Lead)).symm⟩, (pqo3 rfl rfl rfl rfl rfl rfl)⟩ rfl ?_
 refine gDs [2] 5 6 rfl (by kernel_rfl) (by kernel_rfl) ?_
 refine gDr [(0, 2), (1, 3), (2, 0)] (by kernel_rfl) rfl rfl ?_
 obtain ⟨j, γ, δ, ε, ζ, η, hs32, h⟩ := h
 refine gDCY 3 hs32 [0] rfl ?_
 obtain ⟨τ, hxs1_26, h⟩ := h
 refine bA 4 rfl (by kernel_rfl) (yIO ab rfl rfl rfl rfl (by have := (mapget (f := V.str) hxs1_26); exact (List.getElem?_eq_some_iff.1 this).1)) rfl rfl ?_
 refine aP 5 (.set 3 (.row 9 1 (List.map V.str (((vN 2).set 0 e.Lead).set 1 j)))) rfl (by kernel_rfl) (dSe ab rfl rfl rfl rfl (mapget (f := V.str) hxs1_26) rfl (cg V.str ((vN 2).set 0 e.Lead) 1 j)) (okS rfl) rfl (by kernel_rfl) rfl rfl ?_
 refine gDe (by kernel_rfl) <| gR 10 rfl <| gFR 3 rfl (cb _ (fun _ => rfl) _) rfl rfl <| gFR 4 rfl (bo _) rfl rfl ?_
 obtain ⟨rfl, rfl, rfl, rfl, rfl, rfl⟩ := h
 refine go_sub (F' := (mkF 69 0 [(2, .ptr 1 0)])) (H' := ⟨2, [(1, vF ((Tree.node 22 [] (((vN 2).set 0 e.Lead).set 1 j) [d]).kind) ((Tree.node 22 [] (((vN 2).set 0 e.Lead).set 1 j) [d]).text) ((Tree.node 22 [] (((vN 2).set 0 e.Lead).set 1 j) [d]).leads) ((Tree.node 22 [] (((vN 2).set 0 e.Lead).set 1 j) [d]).kids)), (0, vA γ δ ε ζ η)]⟩) [0, 1] [0] rfl hK pq1 (pqo2 rfl rfl rfl rfl) rfl ?_
 exact go_endD [1] ab (rs := [.cell 2 25]) rfl rfl ⟨rfl, rfl⟩
 exact gR 4 rfl <| gJ (h K hK) [0, 1] [0] rfl hK pq4 (pqo2 rfl rfl rfl rfl) rfl
theorem rL1_syntax_parser_unit (m : Nat) (v : List GToken) (x y z α : Int) (d : Nat) (g : List UInt8) (r0 : Tree) (a : List GToken) (b e c i : Int) (h : (((d : Int) = 0) → ∃ l n o p q, bX v x y z α 2 l n o p q ∧ (Tree.node 0 [] [] []) = r0 ∧ l = a ∧ n = b ∧ o = e ∧ p = c ∧ q = i) ∧ (((d : Int) ≠ 0) → ∃ f r s t j k, aI v x y z α f r s t j k ∧ (Tree.node (d : Int) g [f.Lead] []) = r0 ∧ r = a ∧ s = b ∧ t = e ∧ j = c ∧ k = i)) : cz (m + 1) v x y z α d g r0 a b e c i := by
 intro K hK
 refine gR 7 rfl <| qBe 58 rfl rfl rfl h (fun h => ?_) fun h => ?_
 refine gR 4 rfl ?_
 obtain ⟨l, n, o, p, q, hs33, h⟩ := h
 refine gCY hs33 [0] ?_
 refine gR 10 rfl ?_
 obtain ⟨rfl, rfl, rfl, rfl, rfl, rfl⟩ := h
 exact go_sub (F' := (mkF 69 0 [(2, .ptr 1 0)])) (H' := ⟨2, [(1, vF ((Tree.node 0 [] [] []).kind) ((Tree.node 0 [] [] []).text) ((Tree.node 0 [] [] []).leads) ((Tree.node 0 [] [] []).kids)), (0, vA l n o p q)]⟩) [0, 1] [0] rfl hK pq1 ⟨⟨_, rfl, rfl, (.cons .rfl (.cons .rfl (.cons (.nil 1) (.cons (.nil 4) .nil))))⟩, (pqo1 rfl rfl)⟩ rfl <| go_endD [1] ab (rs := [.cell 2 25]) rfl rfl ⟨rfl, rfl⟩
 refine gR 8 rfl ?_
 obtain ⟨f, r, s, t, j, k, hs34, h⟩ := h
 refine gCY hs34 [0] ?_
 refine gR 7 rfl <| gFR 4 rfl rfl rfl rfl ?_
 obtain ⟨rfl, rfl, rfl, rfl, rfl, rfl⟩ := h
 exact go_sub (F' := (mkF 69 0 [(2, .ptr 1 0)])) (H' := ⟨2, [(1, vF ((Tree.node (d : Int) g [f.Lead] []).kind) ((Tree.node (d : Int) g [f.Lead] []).text) ((Tree.node (d : Int) g [f.Lead] []).leads) ((Tree.node (d : Int) g [f.Lead] []).kids)), (0, vA r s t j k)]⟩) [0, 1] [0] rfl hK pq1 ⟨⟨_, rfl, rfl, (.cons .rfl (.cons .rfl (.cons .rfl (.cons (.nil 4) .nil))))⟩, (pqo1 rfl rfl)⟩ rfl <| go_endD [1] ab (rs := [.cell 2 25]) rfl rfl ⟨rfl, rfl⟩
def fN (m : Nat) (g : GToken) (i : List GToken) (j k l n : Int) (r0 : Tree) (a : List GToken) (b e d f : Int) : Prop := ∀ (K : Ctx), av K [0] → qLG K Tryz.f123 (fun u G => u = .agg (ai r0) ∧ G = ⟨2, [(0, vA a b e d f)]⟩) (xH (ac Tryz.f123)) [] 83 (mkF 83 0 [(0, .ptr 0 0), (2, .ptr 1 0), (3, .ptr 2 0)]) ⟨3, [(2, .var 46 (GToken.c g)), (1, vB 0 []), (0, vA i j k l n)]⟩
def nd (m : Nat) (g : GToken) (i : List GToken) (j k l n : Int) (r0 : Tree) (a : List GToken) (b e d f : Int) : Prop := ∀ (K : Ctx), av K [0] → Go Tryz.prog K (bodyPost Tryz.prog Tryz.f123 (SP K (fun u G => u = .agg (ai r0) ∧ G = ⟨2, [(0, vA a b e d f)]⟩))) (.ex .normal) [.seq (xJ (ac Tryz.f123))] 83 (mkF 83 0 [(0, .ptr 0 0), (2, .ptr 1 0), (3, .ptr 2 0), (4, .ptr 3 0)]) ⟨5, [(4, .row 9 1 (List.map V.str (List.replicate 3 ([] : List UInt8)))), (3, vI 16 g.Text), (2, .var 46 (GToken.c g)), (1, vB 0 []), (0, vA i j k l n)]⟩
def dt (m : Nat) (f : GToken) (g : List GToken) (i j k l : Int) (n : (List (List UInt8))) (o : List Tree) (r0 : Tree) (a : List GToken) (b d c e : Int) : Prop := ∀ (K : Ctx) (j1 : Nat), av K [0] → m ≤ j1 → qLG K Tryz.f123 (fun u G => u = .agg (ai r0) ∧ G = ⟨2, [(0, vA a b d c e)]⟩) (cL (xE (xI (cA (xJ (xA (ac Tryz.f123))))))) [.loop (cL (xE (xI (cA (xJ (xA (ac Tryz.f123))))))) j1, .blk 0, .seq (xJ (xH (ac Tryz.f123)))] 83 (mkF 83 0 [(0, .ptr 0 0), (2, .ptr 1 0), (4, .ptr 2 0)]) ⟨5, [(4, .row 25 4 (kidsV o)), (3, .row 9 1 (List.map V.str n)), (2, vG 16 f.Text), (1, vB 0 []), (0, vA g i j k l)]⟩
theorem mW (m : Nat) (l : List GToken) (n r o s : Int) (r0 : Tree) (b : List GToken) (d f e k : Int) (h : ∃ a t v x y z, aI l n r o s a t v x y z ∧ ((a.Kind = 1) → ∃ α p q g i j, aH t v x y z α p q g i j ∧ ((α.Text ≠ [40]) → (Tree.node 12 a.Text [a.Lead] []) = r0 ∧ p = b ∧ q = d ∧ g = f ∧ i = e ∧ j = k) ∧ ((α.Text = [40]) → fN m a p q g i j r0 b d f e k)) ∧ ((a.Kind ≠ 1) → fN m a t v x y z r0 b d f e k)) : gw l n r o s r0 b d f e k := by
 refine am 83 [0] Tryz.func123 rfl rfl rfl (aM rfl) fun K hK => ?_
 refine gR 8 rfl ?_
 obtain ⟨a, t, v, x, y, z, hs32, h⟩ := h
 refine gCY hs32 [0] ?_
 refine gR 11 rfl <| qBeZ 10 9 rfl rfl rfl rfl h (fun h => ?_) fun h => ?_
 refine gR 1 rfl ?_
 obtain ⟨α, p, q, g, i, j, hs33, h⟩ := h
 refine gCY hs33 [0] ?_
 refine gR 5 rfl <| qBh 15 rfl rfl rfl h fh dz (fun h => ?_) fun h => ?_
 refine gR 1 rfl <| go_sub (F' := (mkF 83 0 [(2, .ptr 1 0), (3, .ptr 2 0)])) (H' := ⟨3, [(2, .var 46 (GToken.c a)), (1, vB 0 []), (0, vA p q g i j)]⟩) [0, 1, 4] [0] rfl hK pq2 (pqo3 rfl rfl rfl rfl rfl rfl) rfl <| gR 13 rfl <| gFR 3 rfl rfl rfl rfl ?_
 obtain ⟨rfl, rfl, rfl, rfl, rfl, rfl⟩ := h
 exact go_sub (F' := (mkF 83 0 [(2, .ptr 1 0)])) (H' := ⟨2, [(1, vF ((Tree.node 12 a.Text [a.Lead] []).kind) ((Tree.node 12 a.Text [a.Lead] []).text) ((Tree.node 12 a.Text [a.Lead] []).leads) ((Tree.node 12 a.Text [a.Lead] []).kids)), (0, vA p q g i j)]⟩) [0, 1] [0] rfl hK pq1 ⟨⟨_, rfl, rfl, (.cons .rfl (.cons .rfl (.cons .rfl (.cons (.nil 4) .nil))))⟩, (pqo1 rfl rfl)⟩ rfl <| go_endD [1] ab (rs := [.cell 2 25]) rfl rfl ⟨rfl, rfl⟩
 exact gR 3 rfl <| gJ (h K hK) [0, 1, 4] [0] rfl hK pq3 (pqo3 rfl rfl rfl rfl rfl rfl) rfl
 exact gR 10 rfl <| gJ (h K hK) [0, 1, 4] [0] rfl hK pq3 (pqo3 rfl rfl rfl rfl rfl rfl) rfl
theorem mA (m : Nat) (f : GToken) (g : List GToken) (k l n o : Int) (r0 : Tree) (a : List GToken) (b d c e : Int) (h : 3 ≤ 1000000000 ∧ nd m f g k l n o r0 a b d c e) : fN (m + 1) f g k l n o r0 a b d c e := by
 intro K hK
 refine gR 1 rfl <| gDs [2] 5 6 rfl (by kernel_rfl) (by kernel_rfl) <| gDr [(0, 2), (1, 3)] (by kernel_rfl) rfl rfl ?_
 obtain ⟨hb, h⟩ := h
 have hb34 := hb
 apply mh (i := 2) (j := 4) (by kernel_rfl) rfl rfl rfl rfl
 exact (we (.new (.row 9 1 (List.replicate 3 (.str [])))) (dMk ab rfl rfl rfl rfl rfl rfl rfl (by kernel_rfl) hb34) trivial (by kernel_rfl))
 exact (jp ab rfl rfl)
 exact gHR 3 (List.map V.str (List.replicate 3 ([] : List UInt8))) rfl (by first | (simp only [bk, List.map_replicate]; done) | (simp only [bk, List.map_replicate]; rfl)) rfl <| gDr [(3, 2), (4, 0), (5, 1)] (by kernel_rfl) rfl rfl <| gDe (by kernel_rfl) <| gJ (h K hK) [0, 1, 2, 4, 3] [0] rfl hK pq4 ⟨⟨_, rfl, rfl, rfl, (vK _ (List.replicate 3 ([] : List UInt8))).symm⟩, (pqo4 rfl rfl rfl rfl rfl rfl rfl rfl)⟩ rfl
 refine aP 2 (.new (.row 9 1 (List.replicate 3 (.str [])))) rfl (by kernel_rfl) (dMk ab rfl rfl rfl rfl rfl rfl rfl (by kernel_rfl) hb34) trivial rfl (by kernel_rfl) rfl rfl ?_
 exact gHR 4 (List.map V.str (List.replicate 3 ([] : List UInt8))) rfl (by first | (simp only [bk, List.map_replicate]; done) | (simp only [bk, List.map_replicate]; rfl)) rfl <| gDr [(3, 0), (5, 1)] (by kernel_rfl) rfl rfl <| gDe (by kernel_rfl) <| gJ (h K hK) [0, 1, 2, 3, 4] [0] rfl hK pq4 ⟨⟨_, rfl, rfl, rfl, (vK _ (List.replicate 3 ([] : List UInt8))).symm⟩, (pqo4 rfl rfl rfl rfl rfl rfl rfl rfl)⟩ rfl
theorem mC (m : Nat) (a : GToken) (ε : List GToken) (ζ η θ ι : Int) (r0 : Tree) (d : List GToken) (e p g q : Int) (h : ∃ τ, (List.replicate 3 ([] : List UInt8))[0]? = some τ ∧ ∃ b κ μ ν ξ ο, ay ε ζ η θ ι [40] b κ μ ν ξ ο ∧ ∃ υ, ((List.replicate 3 ([] : List UInt8)).set 0 a.Lead)[1]? = some υ ∧ ∃ δ j k l n o, aH κ μ ν ξ ο δ j k l n o ∧ ((δ.Text ≠ [41]) → ∃ i y z α β γ, cD j k l n o i y z α β γ ∧ dt m a y z α β γ (((List.replicate 3 ([] : List UInt8)).set 0 a.Lead).set 1 b) [i] r0 d e p g q) ∧ ((δ.Text = [41]) → ∃ c r s t v x, ay j k l n o [41] c r s t v x ∧ ∃ π, (((List.replicate 3 ([] : List UInt8)).set 0 a.Lead).set 1 b)[2]? = some π ∧ (Tree.node 16 a.Text ((((List.replicate 3 ([] : List UInt8)).set 0 a.Lead).set 1 b).set 2 c) []) = r0 ∧ r = d ∧ s = e ∧ t = p ∧ v = g ∧ x = q)) : nd (m + 1) a ε ζ η θ ι r0 d e p g q := by
 intro K hK
 refine gR 7 rfl ?_
 obtain ⟨τ, hxs2_1, h⟩ := h
 refine gY (yIO ab rfl rfl rfl rfl (by have := (mapget (f := V.str) hxs2_1); exact (List.getElem?_eq_some_iff.1 this).1)) rfl rfl ?_
 refine gDo (.set 4 (.row 9 1 (List.map V.str ((vN 3).set 0 a.Lead)))) (dSe ab rfl rfl rfl rfl (mapget (f := V.str) hxs2_1) rfl (cg V.str (List.replicate 3 ([] : List UInt8)) 0 a.Lead)) (okS rfl) rfl rfl rfl <| gR 3 rfl <| go_sub (F' := (mkF 83 0 [(0, .ptr 0 0), (2, .ptr 1 0), (4, .ptr 2 0)])) (H' := ⟨4, [(3, .row 9 1 (List.map V.str ((vN 3).set 0 a.Lead))), (2, vH 16 a.Text), (1, vB 0 []), (0, vA ε ζ η θ ι)]⟩) [0, 1, 3, 4] [0] rfl hK pq3 ⟨⟨_, rfl, rfl, rfl, (vK _ ((vN 3).set 0 a.Lead)).symm⟩, (pqo3 rfl rfl rfl rfl rfl rfl)⟩ rfl ?_
 refine gDs [2] 5 6 rfl (by kernel_rfl) (by kernel_rfl) ?_
 refine gDr [(0, 2), (1, 3), (2, 0)] (by kernel_rfl) rfl rfl ?_
 obtain ⟨b, κ, μ, ν, ξ, ο, hs35, h⟩ := h
 refine gDCY 3 hs35 [0] rfl ?_
 obtain ⟨υ, hxs2_8, h⟩ := h
 refine bA 4 rfl (by kernel_rfl) (yIO ab rfl rfl rfl rfl (by have := (mapget (f := V.str) hxs2_8); exact (List.getElem?_eq_some_iff.1 this).1)) rfl rfl ?_
 refine aP 5 (.set 3 (.row 9 1 (List.map V.str (((vN 3).set 0 a.Lead).set 1 b)))) rfl (by kernel_rfl) (dSe ab rfl rfl rfl rfl (mapget (f := V.str) hxs2_8) rfl (cg V.str ((vN 3).set 0 a.Lead) 1 b)) (okS rfl) rfl (by kernel_rfl) rfl rfl ?_
 refine gDe (by kernel_rfl) <| gR 5 rfl ?_
 obtain ⟨δ, j, k, l, n, o, hs36, h⟩ := h
 refine gCY hs36 [0] ?_
 refine gR 4 rfl <| gB 39 rfl rfl rfl ?_ ?_ <;> intro hd
 replace hd := (fh hd)
 replace h := h.1 hd
 refine gR 2 rfl <| go_sub (F' := (mkF 83 0 [(0, .ptr 0 0), (2, .ptr 1 0), (4, .ptr 2 0)])) (H' := ⟨4, [(3, .row 9 1 (List.map V.str (((vN 3).set 0 a.Lead).set 1 b))), (2, vH 16 a.Text), (1, vB 0 []), (0, vA j k l n o)]⟩) [0, 1, 2, 3] [0] rfl hK pq3 ⟨⟨_, rfl, rfl, rfl, (vK _ (((vN 3).set 0 a.Lead).set 1 b)).symm⟩, (pqo3 rfl rfl rfl rfl rfl rfl)⟩ rfl <| gDs [2] 7 8 rfl (by kernel_rfl) (by kernel_rfl) <| gDr [(0, 2), (1, 3), (2, 0)] (by kernel_rfl) rfl rfl ?_
 obtain ⟨i, y, z, α, β, γ, hs37, h⟩ := h
 refine gDCY 3 hs37 [0] rfl ?_
 exact gDr [(4, 0)] (by kernel_rfl) rfl rfl <| gHR 6 (kidsV [i]) rfl (cI i) rfl <| aP 5 (.new (.row 25 4 (kidsV [i]))) rfl (by kernel_rfl) (nU ab rfl rfl rfl rfl rfl (by first | decide | (simp; done) | (simp [aG]; done))) trivial rfl (by kernel_rfl) rfl rfl <| gDr [(6, 0), (7, 1)] (by kernel_rfl) rfl rfl <| gDe (by kernel_rfl) <| gR 2 rfl <| go_loop m <| gJ (h K _ hK (by omega)) [0, 1, 2, 3, 7] [0] rfl hK pq3 ⟨⟨_, rfl, rfl, rfl, (aC _ [i]).symm⟩, ⟨_, rfl, rfl, rfl, (vK _ (((vN 3).set 0 a.Lead).set 1 b)).symm⟩, (pqo3 rfl rfl rfl rfl rfl rfl)⟩ rfl
 replace hd := (dz hd)
 replace h := h.2 hd
 refine gR 4 rfl <| go_sub (F' := (mkF 83 0 [(0, .ptr 0 0), (2, .ptr 1 0), (4, .ptr 2 0)])) (H' := ⟨4, [(3, .row 9 1 (List.map V.str (((vN 3).set 0 a.Lead).set 1 b))), (2, vH 16 a.Text), (1, vB 0 []), (0, vA j k l n o)]⟩) [0, 1, 2, 3] [0] rfl hK pq3 ⟨⟨_, rfl, rfl, rfl, (vK _ (((vN 3).set 0 a.Lead).set 1 b)).symm⟩, (pqo3 rfl rfl rfl rfl rfl rfl)⟩ rfl <| gDs [2] 5 6 rfl (by kernel_rfl) (by kernel_rfl) <| gDr [(0, 2), (1, 3), (2, 0)] (by kernel_rfl) rfl rfl ?_
 obtain ⟨c, r, s, t, v, x, hs38, h⟩ := h
 refine gDCY 3 hs38 [0] rfl ?_
 obtain ⟨π, hxs2_27, h⟩ := h
 refine bA 4 rfl (by kernel_rfl) (yIO ab rfl rfl rfl rfl (by have := (mapget (f := V.str) hxs2_27); exact (List.getElem?_eq_some_iff.1 this).1)) rfl rfl ?_
 refine aP 5 (.set 3 (.row 9 1 (List.map V.str ((((vN 3).set 0 a.Lead).set 1 b).set 2 c)))) rfl (by kernel_rfl) (dSe ab rfl rfl rfl rfl (mapget (f := V.str) hxs2_27) rfl (cg V.str (((vN 3).set 0 a.Lead).set 1 b) 2 c)) (okS rfl) rfl (by kernel_rfl) rfl rfl ?_
 refine gDe (by kernel_rfl) <| gR 8 rfl <| gFR 3 rfl (cb _ (fun _ => rfl) _) rfl rfl ?_
 obtain ⟨rfl, rfl, rfl, rfl, rfl, rfl⟩ := h
 refine go_sub (F' := (mkF 83 0 [(2, .ptr 1 0)])) (H' := ⟨2, [(1, vF ((Tree.node 16 a.Text ((((vN 3).set 0 a.Lead).set 1 b).set 2 c) []).kind) ((Tree.node 16 a.Text ((((vN 3).set 0 a.Lead).set 1 b).set 2 c) []).text) ((Tree.node 16 a.Text ((((vN 3).set 0 a.Lead).set 1 b).set 2 c) []).leads) ((Tree.node 16 a.Text ((((vN 3).set 0 a.Lead).set 1 b).set 2 c) []).kids)), (0, vA r s t v x)]⟩) [0, 1] [0] rfl hK pq1 ⟨⟨_, rfl, rfl, (.cons .rfl (.cons .rfl (.cons .rfl (.cons (.nil 4) .nil))))⟩, (pqo1 rfl rfl)⟩ rfl ?_
 exact go_endD [1] ab (rs := [.cell 2 25]) rfl rfl ⟨rfl, rfl⟩
theorem mB (m : Nat) (i : GToken) (l3v1 : List GToken) (z3v2 z3v3 z3v4 z3v5 : Int) (b : (List (List UInt8))) (a : List Tree) (r0 : Tree) (d : List GToken) (e p g q : Int) (h : ∃ r3_1 β γ δ ε ζ, aH l3v1 z3v2 z3v3 z3v4 z3v5 r3_1 β γ δ ε ζ ∧ ((r3_1.Text = [44]) → ∃ c φ χ r s t, aI β γ δ ε ζ c φ χ r s t ∧ (b ++ [c.Lead]).length ≤ 1000000000 ∧ (((a.length : Int) = 8) → ∃ ψ v x y z α, aH φ χ r s t ψ v x y z α ∧ ∃ η, pL ψ η ∧ ((η = true) → ∃ θ ι κ μ ν, bX v x y z α 3 θ ι κ μ ν ∧ ∃ k ω n3_27 n3_28 n3_29 n3_30, cD θ ι κ μ ν k ω n3_27 n3_28 n3_29 n3_30 ∧ (a ++ [k]).length ≤ 1000000000 ∧ dt m i ω n3_27 n3_28 n3_29 n3_30 (b ++ [c.Lead]) (a ++ [k]) r0 d e p g q) ∧ ((η = false) → ∃ l r3_32 n3_33 n3_34 n3_35 n3_36, cD v x y z α l r3_32 n3_33 n3_34 n3_35 n3_36 ∧ (a ++ [l]).length ≤ 1000000000 ∧ dt m i r3_32 n3_33 n3_34 n3_35 n3_36 (b ++ [c.Lead]) (a ++ [l]) r0 d e p g q)) ∧ (((a.length : Int) ≠ 8) → ∃ n r3_38 n3_39 n3_40 n3_41 n3_42, cD φ χ r s t n r3_38 n3_39 n3_40 n3_41 n3_42 ∧ (a ++ [n]).length ≤ 1000000000 ∧ dt m i r3_38 n3_39 n3_40 n3_41 n3_42 (b ++ [c.Lead]) (a ++ [n]) r0 d e p g q)) ∧ ((r3_1.Text ≠ [44]) → ∃ o ξ ο π τ υ, ay β γ δ ε ζ [41] o ξ ο π τ υ ∧ ∃ s3_49, b[2]? = some s3_49 ∧ (Tree.node 16 i.Text (b.set 2 o) a) = r0 ∧ ξ = d ∧ ο = e ∧ π = p ∧ τ = g ∧ υ = q)) : dt (m + 1) i l3v1 z3v2 z3v3 z3v4 z3v5 b a r0 d e p g q := by
 intro K j1 hK hj1
 obtain ⟨j1, rfl⟩ : ∃ j, j1 = j + 1 := ⟨j1 - 1, by omega⟩
 refine gR 4 rfl ?_
 obtain ⟨r3_1, β, γ, δ, ε, ζ, hs39, h⟩ := h
 refine gCY hs39 [0] ?_
 refine gR 4 rfl <| gB 50 rfl rfl rfl ?_ ?_ <;> intro hd
 replace hd := (eq_of_beq hd)
 replace h := h.1 hd
 refine gR 5 rfl <| go_sub (F' := (mkF 83 0 [(0, .ptr 0 0), (2, .ptr 1 0), (4, .ptr 2 0)])) (H' := ⟨5, [(4, .row 25 4 (kidsV a)), (3, .row 9 1 (List.map V.str b)), (2, vG 16 i.Text), (1, vB 0 []), (0, vA β γ δ ε ζ)]⟩) [0, 1, 2, 3, 4] [0] rfl hK pq3 ⟨⟨_, rfl, rfl, rfl, (aC _ a).symm⟩, ⟨_, rfl, rfl, rfl, (vK _ b).symm⟩, (pqo3 rfl rfl rfl rfl rfl rfl)⟩ rfl <| gDs [2] 8 9 rfl (by kernel_rfl) (by kernel_rfl) <| gDr [(0, 2), (1, 3), (2, 0)] (by kernel_rfl) rfl rfl ?_
 obtain ⟨c, φ, χ, r, s, t, hs40, h⟩ := h
 refine gDCY 3 hs40 [0] rfl ?_
 refine gDr [(4, 0), (5, 0)] (by kernel_rfl) rfl rfl ?_
 obtain ⟨hb, h⟩ := h
 refine aP 6 (.repl 3 (.row 9 1 (List.map V.str (b ++ [c.Lead])))) rfl (by kernel_rfl) (bm ab rfl rfl rfl rfl rfl (apM V.str b c.Lead) (by rw [aZ]; exact hb)) (okR rfl) rfl (by kernel_rfl) rfl rfl ?_
 refine gDr [(7, 0), (8, 1)] (by kernel_rfl) rfl rfl <| gDe (by kernel_rfl) <| gR 7 rfl <| gV 61 (.int .i64 (a.length : Int)) rfl (bx (aG _)) rfl <| gLO 4 rfl (aG _) fun hl41 => gR 2 rfl <| gB 63 rfl rfl rfl ?_ ?_ <;> intro hd
 refine gT 62 rfl hd rfl ?_
 replace hd := (eq_of_beq hd)
 replace h := h.1 hd
 refine gR 1 rfl ?_
 obtain ⟨ψ, v, x, y, z, α, hs42, h⟩ := h
 refine gCY hs42 [0] ?_
 obtain ⟨η, hs43, h⟩ := h
 refine gC0 hs43 (by kernel_rfl) rfl rfl .rfl rfl <| gR 3 rfl <| gB 67 rfl rfl rfl ?_ ?_ <;> intro hd
 replace h := h.1 hd
 refine gR 3 rfl ?_
 obtain ⟨θ, ι, κ, μ, ν, hs44, h⟩ := h
 refine gCY hs44 [0] ?_
 refine gR 2 rfl <| go_sub (F' := (mkF 83 0 [(0, .ptr 0 0), (2, .ptr 1 0), (4, .ptr 2 0)])) (H' := ⟨5, [(4, .row 25 4 (kidsV a)), (3, .row 9 1 (List.map V.str (b ++ [c.Lead]))), (2, vG 16 i.Text), (1, vB 0 []), (0, vA θ ι κ μ ν)]⟩) [0, 1, 2, 8, 4] [0] rfl hK pq3 ⟨⟨_, rfl, rfl, rfl, (aC _ a).symm⟩, ⟨_, rfl, rfl, rfl, (vK _ (b ++ [c.Lead])).symm⟩, (pqo3 rfl rfl rfl rfl rfl rfl)⟩ rfl <| gDs [2] 7 8 rfl (by kernel_rfl) (by kernel_rfl) <| gDr [(0, 2), (1, 3), (2, 0)] (by kernel_rfl) rfl rfl ?_
 obtain ⟨k, ω, n3_27, n3_28, n3_29, n3_30, hs45, h⟩ := h
 refine gDCY 3 hs45 [0] rfl ?_
 refine gDr [(4, 0)] (by kernel_rfl) rfl rfl <| gHR 7 (kidsV [k]) rfl (cI k) rfl ?_
 obtain ⟨hb, h⟩ := h
 refine aP 5 (.repl 4 (.row 25 4 (kidsV (a ++ [k])))) rfl (by kernel_rfl) (bm ab rfl rfl rfl rfl rfl (bC a [k]).symm (by rw [aG]; exact hb)) (okR rfl) rfl (by kernel_rfl) rfl rfl ?_
 exact gDr [(6, 0), (7, 1)] (by kernel_rfl) rfl rfl <| gDe (by kernel_rfl) <| gR 1 rfl <| go_xloop <| gJ (h K _ hK (by omega)) [0, 1, 2, 3, 8] [0] rfl hK pq3 ⟨⟨_, rfl, rfl, rfl, (aC _ (a ++ [k])).symm⟩, ⟨_, rfl, rfl, rfl, (vK _ (b ++ [c.Lead])).symm⟩, (pqo3 rfl rfl rfl rfl rfl rfl)⟩ rfl
 replace h := h.2 hd
 refine gR 3 rfl <| go_sub (F' := (mkF 83 0 [(0, .ptr 0 0), (2, .ptr 1 0), (4, .ptr 2 0)])) (H' := ⟨5, [(4, .row 25 4 (kidsV a)), (3, .row 9 1 (List.map V.str (b ++ [c.Lead]))), (2, vG 16 i.Text), (1, vB 0 []), (0, vA v x y z α)]⟩) [0, 1, 2, 8, 4] [0] rfl hK pq3 ⟨⟨_, rfl, rfl, rfl, (aC _ a).symm⟩, ⟨_, rfl, rfl, rfl, (vK _ (b ++ [c.Lead])).symm⟩, (pqo3 rfl rfl rfl rfl rfl rfl)⟩ rfl <| gDs [2] 7 8 rfl (by kernel_rfl) (by kernel_rfl) <| gDr [(0, 2), (1, 3), (2, 0)] (by kernel_rfl) rfl rfl ?_
 obtain ⟨l, r3_32, n3_33, n3_34, n3_35, n3_36, hs46, h⟩ := h
 refine gDCY 3 hs46 [0] rfl ?_
 refine gDr [(4, 0)] (by kernel_rfl) rfl rfl <| gHR 7 (kidsV [l]) rfl (cI l) rfl ?_
 obtain ⟨hb, h⟩ := h
 refine aP 5 (.repl 4 (.row 25 4 (kidsV (a ++ [l])))) rfl (by kernel_rfl) (bm ab rfl rfl rfl rfl rfl (bC a [l]).symm (by rw [aG]; exact hb)) (okR rfl) rfl (by kernel_rfl) rfl rfl ?_
 exact gDr [(6, 0), (7, 1)] (by kernel_rfl) rfl rfl <| gDe (by kernel_rfl) <| gR 1 rfl <| go_xloop <| gJ (h K _ hK (by omega)) [0, 1, 2, 3, 8] [0] rfl hK pq3 ⟨⟨_, rfl, rfl, rfl, (aC _ (a ++ [l])).symm⟩, ⟨_, rfl, rfl, rfl, (vK _ (b ++ [c.Lead])).symm⟩, (pqo3 rfl rfl rfl rfl rfl rfl)⟩ rfl
 refine gF 62 rfl hd rfl ?_
 replace hd := (ne_of_beq_false hd)
 replace h := h.2 hd
 refine gR 9 rfl <| go_sub (F' := (mkF 83 0 [(0, .ptr 0 0), (2, .ptr 1 0), (4, .ptr 2 0)])) (H' := ⟨5, [(4, .row 25 4 (kidsV a)), (3, .row 9 1 (List.map V.str (b ++ [c.Lead]))), (2, vG 16 i.Text), (1, vB 0 []), (0, vA φ χ r s t)]⟩) [0, 1, 2, 8, 4] [0] rfl hK pq3 ⟨⟨_, rfl, rfl, rfl, (aC _ a).symm⟩, ⟨_, rfl, rfl, rfl, (vK _ (b ++ [c.Lead])).symm⟩, (pqo3 rfl rfl rfl rfl rfl rfl)⟩ rfl <| gDs [2] 7 8 rfl (by kernel_rfl) (by kernel_rfl) <| gDr [(0, 2), (1, 3), (2, 0)] (by kernel_rfl) rfl rfl ?_
 obtain ⟨n, r3_38, n3_39, n3_40, n3_41, n3_42, hs47, h⟩ := h
 refine gDCY 3 hs47 [0] rfl ?_
 refine gDr [(4, 0)] (by kernel_rfl) rfl rfl <| gHR 7 (kidsV [n]) rfl (cI n) rfl ?_
 obtain ⟨hb, h⟩ := h
 refine aP 5 (.repl 4 (.row 25 4 (kidsV (a ++ [n])))) rfl (by kernel_rfl) (bm ab rfl rfl rfl rfl rfl (bC a [n]).symm (by rw [aG]; exact hb)) (okR rfl) rfl (by kernel_rfl) rfl rfl ?_
 exact gDr [(6, 0), (7, 1)] (by kernel_rfl) rfl rfl <| gDe (by kernel_rfl) <| gR 1 rfl <| go_xloop <| gJ (h K _ hK (by omega)) [0, 1, 2, 3, 8] [0] rfl hK pq3 ⟨⟨_, rfl, rfl, rfl, (aC _ (a ++ [n])).symm⟩, ⟨_, rfl, rfl, rfl, (vK _ (b ++ [c.Lead])).symm⟩, (pqo3 rfl rfl rfl rfl rfl rfl)⟩ rfl
 replace hd := (ne_of_beq_false hd)
 replace h := h.2 hd
 refine gR 3 rfl <| go_xloopE <| gR 3 rfl <| go_sub (F' := (mkF 83 0 [(0, .ptr 0 0), (2, .ptr 1 0), (4, .ptr 2 0)])) (H' := ⟨5, [(4, .row 25 4 (kidsV a)), (3, .row 9 1 (List.map V.str b)), (2, vG 16 i.Text), (1, vB 0 []), (0, vA β γ δ ε ζ)]⟩) [0, 1, 2, 3, 4] [0] rfl hK pq3 ⟨⟨_, rfl, rfl, rfl, (aC _ a).symm⟩, ⟨_, rfl, rfl, rfl, (vK _ b).symm⟩, (pqo3 rfl rfl rfl rfl rfl rfl)⟩ rfl <| gDs [2] 5 6 rfl (by kernel_rfl) (by kernel_rfl) <| gDr [(0, 2), (1, 3), (2, 0)] (by kernel_rfl) rfl rfl ?_
 obtain ⟨o, ξ, ο, π, τ, υ, hs48, h⟩ := h
 refine gDCY 3 hs48 [0] rfl ?_
 obtain ⟨s3_49, hxs3_49, h⟩ := h
 refine bA 4 rfl (by kernel_rfl) (yIO ab rfl rfl rfl rfl (by have := (mapget (f := V.str) hxs3_49); exact (List.getElem?_eq_some_iff.1 this).1)) rfl rfl ?_
 refine aP 5 (.set 3 (.row 9 1 (List.map V.str (b.set 2 o)))) rfl (by kernel_rfl) (dSe ab rfl rfl rfl rfl (mapget (f := V.str) hxs3_49) rfl (cg V.str b 2 o)) (okS rfl) rfl (by kernel_rfl) rfl rfl ?_
 refine gDe (by kernel_rfl) <| gR 8 rfl <| gFR 3 rfl (cb _ (fun _ => rfl) _) rfl rfl <| gFR 4 rfl (bo _) rfl rfl ?_
 obtain ⟨rfl, rfl, rfl, rfl, rfl, rfl⟩ := h
 exact go_sub (F' := (mkF 83 0 [(2, .ptr 1 0)])) (H' := ⟨2, [(1, vF ((Tree.node 16 i.Text (b.set 2 o) a).kind) ((Tree.node 16 i.Text (b.set 2 o) a).text) ((Tree.node 16 i.Text (b.set 2 o) a).leads) ((Tree.node 16 i.Text (b.set 2 o) a).kids)), (0, vA ξ ο π τ υ)]⟩) [0, 1] [0] rfl hK pq1 (pqo2 rfl rfl rfl rfl) rfl <| go_endD [1] ab (rs := [.cell 2 25]) rfl rfl ⟨rfl, rfl⟩
theorem oD (m : Nat) (b : List GToken) (c i d k : Int) (r0 : Tree) (e : List GToken) (f j g l : Int) (h : ∃ a n o p q r, aJ b c i d k a n o p q r ∧ (Tree.node 17 [] [] [a]) = r0 ∧ n = e ∧ o = f ∧ p = j ∧ q = g ∧ r = l) : cD b c i d k r0 e f j g l := by
 refine am 7 [0] Tryz.func128 rfl rfl rfl (aM rfl) fun K hK => ?_
 refine gR 8 rfl ?_
 obtain ⟨a, n, o, p, q, r, hs2, h⟩ := h
 refine gCY hs2 [0] ?_
 refine gR 1 rfl <| gHR 4 (kidsV [a]) rfl (cI a) rfl <| gR 5 rfl <| gFR 4 rfl (bo _) rfl rfl ?_
 obtain ⟨rfl, rfl, rfl, rfl, rfl, rfl⟩ := h
 exact go_sub (F' := (mkF 7 0 [(2, .ptr 1 0)])) (H' := ⟨2, [(1, vF ((Tree.node 17 [] [] [a]).kind) ((Tree.node 17 [] [] [a]).text) ((Tree.node 17 [] [] [a]).leads) ((Tree.node 17 [] [] [a]).kids)), (0, vA n o p q r)]⟩) [0, 1] [0] rfl hK pq1 ⟨⟨_, rfl, rfl, (.cons .rfl (.cons .rfl (.cons (.nil 1) (.cons .rfl .nil))))⟩, (pqo1 rfl rfl)⟩ rfl <| go_endD [1] ab (rs := [.cell 2 25]) rfl rfl ⟨rfl, rfl⟩
def da (m : Nat) (f : List GToken) (g i j k : Int) (l : (List (List UInt8))) (n : List Tree) (r0 : Tree) (a : List GToken) (b d c e : Int) : Prop := ∀ (K : Ctx) (j1 : Nat), av K [0] → m ≤ j1 → qLG K Tryz.f124 (fun u G => u = .agg (ai r0) ∧ G = ⟨2, [(0, vA a b d c e)]⟩) (cL (cK (cA (xJ (ac Tryz.f124))))) [.loop (cL (cK (cA (xJ (ac Tryz.f124))))) j1, .blk 0, .seq (xN (ac Tryz.f124))] 54 (mkF 54 0 [(0, .ptr 0 0), (2, .ptr 1 0), (3, .ptr 2 0)]) ⟨5, [(4, .row 25 4 (kidsV n)), (3, .row 9 1 (List.map V.str l)), (2, vG 18 []), (1, vB 0 []), (0, vA f g i j k)]⟩
theorem qu (m : Nat) (a : List GToken) (b e c l : Int) (r0 : Tree) (g : List GToken) (i n j s : Int) (h : 2 ≤ 1000000000 ∧ ∃ d t v x y z, ay a b e c l [91] d t v x y z ∧ ∃ β, (List.replicate 2 ([] : List UInt8))[0]? = some β ∧ ∃ k α o p q r, aJ t v x y z k α o p q r ∧ da m α o p q r ((List.replicate 2 ([] : List UInt8)).set 0 d) [k] r0 g i n j s) : ju a b e c l r0 g i n j s := by
 refine am 54 [0] Tryz.func124 rfl rfl rfl (aM rfl) fun K hK => ?_
 refine gR 7 rfl ?_
 obtain ⟨hb, h⟩ := h
 refine gDo (.new (.row 9 1 (List.replicate 2 (.str [])))) (dMk ab rfl rfl rfl rfl rfl rfl rfl (by kernel_rfl) hb) trivial rfl rfl rfl <| gHR 2 (List.map V.str (List.replicate 2 ([] : List UInt8))) rfl (by first | (simp only [bk, List.map_replicate]; done) | (simp only [bk, List.map_replicate]; rfl)) rfl <| gR 6 rfl <| go_sub (F' := (mkF 54 0 [(0, .ptr 0 0), (2, .ptr 1 0), (3, .ptr 2 0)])) (H' := ⟨4, [(3, .row 9 1 (List.map V.str (List.replicate 2 ([] : List UInt8)))), (2, vH 18 []), (1, vB 0 []), (0, vA a b e c l)]⟩) [0, 1, 3, 2] [0] rfl hK pq3 ⟨⟨_, rfl, rfl, rfl, (vK _ (List.replicate 2 ([] : List UInt8))).symm⟩, (pqo3 rfl rfl rfl rfl rfl rfl)⟩ rfl ?_
 refine gDs [2] 5 6 rfl (by kernel_rfl) (by kernel_rfl) ?_
 refine gDr [(0, 2), (1, 3), (2, 0)] (by kernel_rfl) rfl rfl ?_
 obtain ⟨d, t, v, x, y, z, hs19, h⟩ := h
 refine gDCY 3 hs19 [0] rfl ?_
 obtain ⟨β, hxs0_7, h⟩ := h
 refine bA 4 rfl (by kernel_rfl) (yIO ab rfl rfl rfl rfl (by have := (mapget (f := V.str) hxs0_7); exact (List.getElem?_eq_some_iff.1 this).1)) rfl rfl ?_
 refine aP 5 (.set 3 (.row 9 1 (List.map V.str ((vN 2).set 0 d)))) rfl (by kernel_rfl) (dSe ab rfl rfl rfl rfl (mapget (f := V.str) hxs0_7) rfl (cg V.str (List.replicate 2 ([] : List UInt8)) 0 d)) (okS rfl) rfl (by kernel_rfl) rfl rfl ?_
 refine gDe (by kernel_rfl) <| gR 2 rfl <| go_sub (F' := (mkF 54 0 [(0, .ptr 0 0), (2, .ptr 1 0), (3, .ptr 2 0)])) (H' := ⟨4, [(3, .row 9 1 (List.map V.str ((vN 2).set 0 d))), (2, vH 18 []), (1, vB 0 []), (0, vA t v x y z)]⟩) [0, 1, 2, 3] [0] rfl hK pq3 ⟨⟨_, rfl, rfl, rfl, (vK _ ((vN 2).set 0 d)).symm⟩, (pqo3 rfl rfl rfl rfl rfl rfl)⟩ rfl <| gDs [2] 7 8 rfl (by kernel_rfl) (by kernel_rfl) <| gDr [(0, 2), (1, 3), (2, 0)] (by kernel_rfl) rfl rfl ?_
 obtain ⟨k, α, o, p, q, r, hs20, h⟩ := h
 refine gDCY 3 hs20 [0] rfl ?_
 exact gDr [(4, 0)] (by kernel_rfl) rfl rfl <| gHR 6 (kidsV [k]) rfl (cI k) rfl <| aP 5 (.new (.row 25 4 (kidsV [k]))) rfl (by kernel_rfl) (nU ab rfl rfl rfl rfl rfl (by first | decide | (simp; done) | (simp [aG]; done))) trivial rfl (by kernel_rfl) rfl rfl <| gDr [(6, 0), (7, 1)] (by kernel_rfl) rfl rfl <| gDe (by kernel_rfl) <| gR 3 rfl <| go_loop m <| gJ (h K _ hK (by omega)) [0, 1, 2, 3, 7] [0] rfl hK pq3 ⟨⟨_, rfl, rfl, rfl, (aC _ [k]).symm⟩, ⟨_, rfl, rfl, rfl, (vK _ ((vN 2).set 0 d)).symm⟩, (pqo3 rfl rfl rfl rfl rfl rfl)⟩ rfl
theorem lI (m : Nat) (l1v1 : List GToken) (z1v2 z1v3 z1v4 z1v5 : Int) (b : (List (List UInt8))) (a : List Tree) (r0 : Tree) (d : List GToken) (e o g p : Int) (h : ∃ r1_1 α β γ δ ε, aH l1v1 z1v2 z1v3 z1v4 z1v5 r1_1 α β γ δ ε ∧ ((r1_1.Text = [44]) → ∃ c υ φ q r s, aI α β γ δ ε c υ φ q r s ∧ (b ++ [c.Lead]).length ≤ 1000000000 ∧ (((a.length : Int) = 16) → ∃ χ t v x y z, aH υ φ q r s χ t v x y z ∧ ∃ ζ, pL χ ζ ∧ ((ζ = true) → ∃ η θ ι κ μ, bX t v x y z 3 η θ ι κ μ ∧ ∃ i ψ ω n1_28 n1_29 n1_30, aJ η θ ι κ μ i ψ ω n1_28 n1_29 n1_30 ∧ (a ++ [i]).length ≤ 1000000000 ∧ da m ψ ω n1_28 n1_29 n1_30 (b ++ [c.Lead]) (a ++ [i]) r0 d e o g p) ∧ ((ζ = false) → ∃ k r1_32 n1_33 n1_34 n1_35 n1_36, aJ t v x y z k r1_32 n1_33 n1_34 n1_35 n1_36 ∧ (a ++ [k]).length ≤ 1000000000 ∧ da m r1_32 n1_33 n1_34 n1_35 n1_36 (b ++ [c.Lead]) (a ++ [k]) r0 d e o g p)) ∧ (((a.length : Int) ≠ 16) → ∃ l r1_38 n1_39 n1_40 n1_41 n1_42, aJ υ φ q r s l r1_38 n1_39 n1_40 n1_41 n1_42 ∧ (a ++ [l]).length ≤ 1000000000 ∧ da m r1_38 n1_39 n1_40 n1_41 n1_42 (b ++ [c.Lead]) (a ++ [l]) r0 d e o g p)) ∧ ((r1_1.Text ≠ [44]) → ∃ n ν ξ ο π τ, ay α β γ δ ε [93] n ν ξ ο π τ ∧ ∃ s1_49, b[1]? = some s1_49 ∧ (Tree.node 18 [] (b.set 1 n) a) = r0 ∧ ν = d ∧ ξ = e ∧ ο = o ∧ π = g ∧ τ = p)) : da (m + 1) l1v1 z1v2 z1v3 z1v4 z1v5 b a r0 d e o g p := by
 intro K j1 hK hj1
 obtain ⟨j1, rfl⟩ : ∃ j, j1 = j + 1 := ⟨j1 - 1, by omega⟩
 refine gR 4 rfl ?_
 obtain ⟨r1_1, α, β, γ, δ, ε, hs21, h⟩ := h
 refine gCY hs21 [0] ?_
 refine gR 4 rfl <| gB 21 rfl rfl rfl ?_ ?_ <;> intro hd
 replace hd := (eq_of_beq hd)
 replace h := h.1 hd
 refine gR 5 rfl <| go_sub (F' := (mkF 54 0 [(0, .ptr 0 0), (2, .ptr 1 0), (3, .ptr 2 0)])) (H' := ⟨5, [(4, .row 25 4 (kidsV a)), (3, .row 9 1 (List.map V.str b)), (2, vG 18 []), (1, vB 0 []), (0, vA α β γ δ ε)]⟩) [0, 1, 2, 3, 4] [0] rfl hK pq3 ⟨⟨_, rfl, rfl, rfl, (aC _ a).symm⟩, ⟨_, rfl, rfl, rfl, (vK _ b).symm⟩, (pqo3 rfl rfl rfl rfl rfl rfl)⟩ rfl <| gDs [2] 8 9 rfl (by kernel_rfl) (by kernel_rfl) <| gDr [(0, 2), (1, 3), (2, 0)] (by kernel_rfl) rfl rfl ?_
 obtain ⟨c, υ, φ, q, r, s, hs22, h⟩ := h
 refine gDCY 3 hs22 [0] rfl ?_
 refine gDr [(4, 0), (5, 0)] (by kernel_rfl) rfl rfl ?_
 obtain ⟨hb, h⟩ := h
 refine aP 6 (.repl 3 (.row 9 1 (List.map V.str (b ++ [c.Lead])))) rfl (by kernel_rfl) (bm ab rfl rfl rfl rfl rfl (apM V.str b c.Lead) (by rw [aZ]; exact hb)) (okR rfl) rfl (by kernel_rfl) rfl rfl ?_
 refine gDr [(7, 0), (8, 1)] (by kernel_rfl) rfl rfl <| gDe (by kernel_rfl) <| gR 7 rfl <| gV 32 (.int .i64 (a.length : Int)) rfl (bx (aG _)) rfl <| gLO 4 rfl (aG _) fun hl23 => gR 2 rfl <| gB 34 rfl rfl rfl ?_ ?_ <;> intro hd
 refine gT 33 rfl hd rfl ?_
 replace hd := (eq_of_beq hd)
 replace h := h.1 hd
 refine gR 1 rfl ?_
 obtain ⟨χ, t, v, x, y, z, hs24, h⟩ := h
 refine gCY hs24 [0] ?_
 obtain ⟨ζ, hs25, h⟩ := h
 refine gC0 hs25 (by kernel_rfl) rfl rfl .rfl rfl <| gR 3 rfl <| gB 38 rfl rfl rfl ?_ ?_ <;> intro hd
 replace h := h.1 hd
 refine gR 3 rfl ?_
 obtain ⟨η, θ, ι, κ, μ, hs26, h⟩ := h
 refine gCY hs26 [0] ?_
 refine gR 2 rfl <| go_sub (F' := (mkF 54 0 [(0, .ptr 0 0), (2, .ptr 1 0), (3, .ptr 2 0)])) (H' := ⟨5, [(4, .row 25 4 (kidsV a)), (3, .row 9 1 (List.map V.str (b ++ [c.Lead]))), (2, vG 18 []), (1, vB 0 []), (0, vA η θ ι κ μ)]⟩) [0, 1, 2, 8, 4] [0] rfl hK pq3 ⟨⟨_, rfl, rfl, rfl, (aC _ a).symm⟩, ⟨_, rfl, rfl, rfl, (vK _ (b ++ [c.Lead])).symm⟩, (pqo3 rfl rfl rfl rfl rfl rfl)⟩ rfl <| gDs [2] 7 8 rfl (by kernel_rfl) (by kernel_rfl) <| gDr [(0, 2), (1, 3), (2, 0)] (by kernel_rfl) rfl rfl ?_
 obtain ⟨i, ψ, ω, n1_28, n1_29, n1_30, hs27, h⟩ := h
 refine gDCY 3 hs27 [0] rfl ?_
 refine gDr [(4, 0)] (by kernel_rfl) rfl rfl <| gHR 7 (kidsV [i]) rfl (cI i) rfl ?_
 obtain ⟨hb, h⟩ := h
 refine aP 5 (.repl 4 (.row 25 4 (kidsV (a ++ [i])))) rfl (by kernel_rfl) (bm ab rfl rfl rfl rfl rfl (bC a [i]).symm (by rw [aG]; exact hb)) (okR rfl) rfl (by kernel_rfl) rfl rfl ?_
 exact gDr [(6, 0), (7, 1)] (by kernel_rfl) rfl rfl <| gDe (by kernel_rfl) <| gR 1 rfl <| go_xloop <| gJ (h K _ hK (by omega)) [0, 1, 2, 3, 8] [0] rfl hK pq3 ⟨⟨_, rfl, rfl, rfl, (aC _ (a ++ [i])).symm⟩, ⟨_, rfl, rfl, rfl, (vK _ (b ++ [c.Lead])).symm⟩, (pqo3 rfl rfl rfl rfl rfl rfl)⟩ rfl
 replace h := h.2 hd
 refine gR 3 rfl <| go_sub (F' := (mkF 54 0 [(0, .ptr 0 0), (2, .ptr 1 0), (3, .ptr 2 0)])) (H' := ⟨5, [(4, .row 25 4 (kidsV a)), (3, .row 9 1 (List.map V.str (b ++ [c.Lead]))), (2, vG 18 []), (1, vB 0 []), (0, vA t v x y z)]⟩) [0, 1, 2, 8, 4] [0] rfl hK pq3 ⟨⟨_, rfl, rfl, rfl, (aC _ a).symm⟩, ⟨_, rfl, rfl, rfl, (vK _ (b ++ [c.Lead])).symm⟩, (pqo3 rfl rfl rfl rfl rfl rfl)⟩ rfl <| gDs [2] 7 8 rfl (by kernel_rfl) (by kernel_rfl) <| gDr [(0, 2), (1, 3), (2, 0)] (by kernel_rfl) rfl rfl ?_
 obtain ⟨k, r1_32, n1_33, n1_34, n1_35, n1_36, hs28, h⟩ := h
 refine gDCY 3 hs28 [0] rfl ?_
 refine gDr [(4, 0)] (by kernel_rfl) rfl rfl <| gHR 7 (kidsV [k]) rfl (cI k) rfl ?_
 obtain ⟨hb, h⟩ := h
 refine aP 5 (.repl 4 (.row 25 4 (kidsV (a ++ [k])))) rfl (by kernel_rfl) (bm ab rfl rfl rfl rfl rfl (bC a [k]).symm (by rw [aG]; exact hb)) (okR rfl) rfl (by kernel_rfl) rfl rfl ?_
 exact gDr [(6, 0), (7, 1)] (by kernel_rfl) rfl rfl <| gDe (by kernel_rfl) <| gR 1 rfl <| go_xloop <| gJ (h K _ hK (by omega)) [0, 1, 2, 3, 8] [0] rfl hK pq3 ⟨⟨_, rfl, rfl, rfl, (aC _ (a ++ [k])).symm⟩, ⟨_, rfl, rfl, rfl, (vK _ (b ++ [c.Lead])).symm⟩, (pqo3 rfl rfl rfl rfl rfl rfl)⟩ rfl
 refine gF 33 rfl hd rfl ?_
 replace hd := (ne_of_beq_false hd)
 replace h := h.2 hd
 refine gR 9 rfl <| go_sub (F' := (mkF 54 0 [(0, .ptr 0 0), (2, .ptr 1 0), (3, .ptr 2 0)])) (H' := ⟨5, [(4, .row 25 4 (kidsV a)), (3, .row 9 1 (List.map V.str (b ++ [c.Lead]))), (2, vG 18 []), (1, vB 0 []), (0, vA υ φ q r s)]⟩) [0, 1, 2, 8, 4] [0] rfl hK pq3 ⟨⟨_, rfl, rfl, rfl, (aC _ a).symm⟩, ⟨_, rfl, rfl, rfl, (vK _ (b ++ [c.Lead])).symm⟩, (pqo3 rfl rfl rfl rfl rfl rfl)⟩ rfl <| gDs [2] 7 8 rfl (by kernel_rfl) (by kernel_rfl) <| gDr [(0, 2), (1, 3), (2, 0)] (by kernel_rfl) rfl rfl ?_
 obtain ⟨l, r1_38, n1_39, n1_40, n1_41, n1_42, hs29, h⟩ := h
 refine gDCY 3 hs29 [0] rfl ?_
 refine gDr [(4, 0)] (by kernel_rfl) rfl rfl <| gHR 7 (kidsV [l]) rfl (cI l) rfl ?_
 obtain ⟨hb, h⟩ := h
 refine aP 5 (.repl 4 (.row 25 4 (kidsV (a ++ [l])))) rfl (by kernel_rfl) (bm ab rfl rfl rfl rfl rfl (bC a [l]).symm (by rw [aG]; exact hb)) (okR rfl) rfl (by kernel_rfl) rfl rfl ?_
 exact gDr [(6, 0), (7, 1)] (by kernel_rfl) rfl rfl <| gDe (by kernel_rfl) <| gR 1 rfl <| go_xloop <| gJ (h K _ hK (by omega)) [0, 1, 2, 3, 8] [0] rfl hK pq3 ⟨⟨_, rfl, rfl, rfl, (aC _ (a ++ [l])).symm⟩, ⟨_, rfl, rfl, rfl, (vK _ (b ++ [c.Lead])).symm⟩, (pqo3 rfl rfl rfl rfl rfl rfl)⟩ rfl
 replace hd := (ne_of_beq_false hd)
 replace h := h.2 hd
 refine gR 3 rfl <| go_xloopE <| gR 3 rfl <| go_sub (F' := (mkF 54 0 [(0, .ptr 0 0), (2, .ptr 1 0), (3, .ptr 2 0)])) (H' := ⟨5, [(4, .row 25 4 (kidsV a)), (3, .row 9 1 (List.map V.str b)), (2, vG 18 []), (1, vB 0 []), (0, vA α β γ δ ε)]⟩) [0, 1, 2, 3, 4] [0] rfl hK pq3 ⟨⟨_, rfl, rfl, rfl, (aC _ a).symm⟩, ⟨_, rfl, rfl, rfl, (vK _ b).symm⟩, (pqo3 rfl rfl rfl rfl rfl rfl)⟩ rfl <| gDs [2] 5 6 rfl (by kernel_rfl) (by kernel_rfl) <| gDr [(0, 2), (1, 3), (2, 0)] (by kernel_rfl) rfl rfl ?_
 obtain ⟨n, ν, ξ, ο, π, τ, hs30, h⟩ := h
 refine gDCY 3 hs30 [0] rfl ?_
 obtain ⟨s1_49, hxs1_49, h⟩ := h
 refine bA 4 rfl (by kernel_rfl) (yIO ab rfl rfl rfl rfl (by have := (mapget (f := V.str) hxs1_49); exact (List.getElem?_eq_some_iff.1 this).1)) rfl rfl ?_
 refine aP 5 (.set 3 (.row 9 1 (List.map V.str (b.set 1 n)))) rfl (by kernel_rfl) (dSe ab rfl rfl rfl rfl (mapget (f := V.str) hxs1_49) rfl (cg V.str b 1 n)) (okS rfl) rfl (by kernel_rfl) rfl rfl ?_
 refine gDe (by kernel_rfl) <| gR 8 rfl <| gFR 3 rfl (cb _ (fun _ => rfl) _) rfl rfl <| gFR 4 rfl (bo _) rfl rfl ?_
 obtain ⟨rfl, rfl, rfl, rfl, rfl, rfl⟩ := h
 exact go_sub (F' := (mkF 54 0 [(2, .ptr 1 0)])) (H' := ⟨2, [(1, vF ((Tree.node 18 [] (b.set 1 n) a).kind) ((Tree.node 18 [] (b.set 1 n) a).text) ((Tree.node 18 [] (b.set 1 n) a).leads) ((Tree.node 18 [] (b.set 1 n) a).kids)), (0, vA ν ξ ο π τ)]⟩) [0, 1] [0] rfl hK pq1 (pqo2 rfl rfl rfl rfl) rfl <| go_endD [1] ab (rs := [.cell 2 25]) rfl rfl ⟨rfl, rfl⟩
def gc (a : List GToken) (b g c j : Int) (r0 : Tree) (d : List GToken) (e i f k : Int) : Prop := bS [] Tryz.prog 51 [.ptr 0 0] ⟨1, [(0, vA a b g c j)]⟩ (fun u G => u = .agg (ai r0) ∧ G = ⟨2, [(0, vA d e i f k)]⟩)
def ia (a : List GToken) (b i c o j : Int) (k : List UInt8) (g : (List (List UInt8))) (l : List Tree) (d : List GToken) (e n f p : Int) : Prop := bS [] Tryz.prog 25 [.ptr 0 0] ⟨1, [(0, vA a b i c o)]⟩ (fun u G => u = .agg [.int .i64 j, .str k, .sl 1, .row 4 (kidsV l)] ∧ G = ⟨3, [(1, .row 9 1 (List.map V.str g)), (0, vA d e n f p)]⟩)
def gb (p0 : List UInt8) (r0 : Tree) (r1 r2 : Int) : Prop := qS 9 [.str p0] (.tup [.agg (ai r0), .int .i64 r1, .int .i64 r2])
def cr (m : Nat) (f : List UInt8) (g : List GToken) (i j k l : Int) (n : (List (List UInt8))) (o : List Tree) (r0 : Tree) (a : List GToken) (b d c e : Int) : Prop := ∀ (K : Ctx) (j1 : Nat), av K [0] → m ≤ j1 → qLG K Tryz.f51 (fun u G => u = .agg (ai r0) ∧ G = ⟨2, [(0, vA a b d c e)]⟩) (cL (xE (xI (cA (xN (ac Tryz.f51)))))) [.loop (cL (xE (xI (cA (xN (ac Tryz.f51)))))) j1, .blk 0, .seq (xJ (xA (ac Tryz.f51)))] 97 (mkF 97 0 [(0, .ptr 0 0), (2, .ptr 1 0), (3, .ptr 2 0)]) ⟨5, [(4, .row 25 4 (kidsV o)), (3, .row 9 1 (List.map V.str n)), (2, vG 2 f), (1, vB 0 []), (0, vA g i j k l)]⟩
theorem jR (m : Nat) (l : List GToken) (n α o γ : Int) (r0 : Tree) (p : List GToken) (q β r δ : Int) (h : 6 ≤ 1000000000 ∧ ∃ b r0_2 n0_3 n0_4 n0_5 n0_6, ay l n α o γ [100, 101, 102] b r0_2 n0_3 n0_4 n0_5 n0_6 ∧ ∃ s0_7, (List.replicate 6 ([] : List UInt8))[0]? = some s0_7 ∧ ∃ j c ε ζ η θ ι, cm r0_2 n0_3 n0_4 n0_5 n0_6 1 1 j c ε ζ η θ ι ∧ ∃ s0_15, ((List.replicate 6 ([] : List UInt8)).set 0 b)[1]? = some s0_15 ∧ ∃ a r0_17 n0_18 n0_19 n0_20 n0_21, ay ε ζ η θ ι [40] a r0_17 n0_18 n0_19 n0_20 n0_21 ∧ ∃ s0_22, (((List.replicate 6 ([] : List UInt8)).set 0 b).set 1 c)[2]? = some s0_22 ∧ ∃ κ t v x y z, aH r0_17 n0_18 n0_19 n0_20 n0_21 κ t v x y z ∧ ((κ.Text ≠ [41]) → ∃ s r0_30 n0_31 n0_32 n0_33 n0_34, cZ t v x y z s r0_30 n0_31 n0_32 n0_33 n0_34 ∧ cr m j r0_30 n0_31 n0_32 n0_33 n0_34 ((((List.replicate 6 ([] : List UInt8)).set 0 b).set 1 c).set 2 a) [s] r0 p q β r δ) ∧ ((κ.Text = [41]) → ∃ d μ ν ξ ο π, ay t v x y z [41] d μ ν ξ ο π ∧ ∃ s0_41, ((((List.replicate 6 ([] : List UInt8)).set 0 b).set 1 c).set 2 a)[3]? = some s0_41 ∧ ∃ e τ υ φ χ ψ, ay μ ν ξ ο π [58] e τ υ φ χ ψ ∧ ∃ s0_48, (((((List.replicate 6 ([] : List UInt8)).set 0 b).set 1 c).set 2 a).set 3 d)[4]? = some s0_48 ∧ ∃ g ω n0_51 n0_52 n0_53 n0_54, cU τ υ φ χ ψ g ω n0_51 n0_52 n0_53 n0_54 ∧ ∃ k r0_56 n0_57 n0_58 n0_59 n0_60, ay ω n0_51 n0_52 n0_53 n0_54 [61] k r0_56 n0_57 n0_58 n0_59 n0_60 ∧ ∃ s0_61, ((((((List.replicate 6 ([] : List UInt8)).set 0 b).set 1 c).set 2 a).set 3 d).set 4 e)[5]? = some s0_61 ∧ ∃ i r0_63 n0_64 n0_65 n0_66 n0_67, aJ r0_56 n0_57 n0_58 n0_59 n0_60 i r0_63 n0_64 n0_65 n0_66 n0_67 ∧ ([g] ++ [i]).length ≤ 1000000000 ∧ (Tree.node 2 j (((((((List.replicate 6 ([] : List UInt8)).set 0 b).set 1 c).set 2 a).set 3 d).set 4 e).set 5 k) ([g] ++ [i])) = r0 ∧ r0_63 = p ∧ n0_64 = q ∧ n0_65 = β ∧ n0_66 = r ∧ n0_67 = δ)) : gc l n α o γ r0 p q β r δ := by
 refine am 97 [0] Tryz.func51 rfl rfl rfl (aM rfl) fun K hK => ?_
 refine gR 7 rfl ?_
 obtain ⟨hb, h⟩ := h
 refine gDo (.new (.row 9 1 (List.replicate 6 (.str [])))) (dMk ab rfl rfl rfl rfl rfl rfl rfl (by kernel_rfl) hb) trivial rfl rfl rfl <| gHR 2 (List.map V.str (List.replicate 6 ([] : List UInt8))) rfl (by first | (simp only [bk, List.map_replicate]; done) | (simp only [bk, List.map_replicate]; rfl)) rfl <| gR 6 rfl <| go_sub (F' := (mkF 97 0 [(0, .ptr 0 0), (2, .ptr 1 0), (3, .ptr 2 0)])) (H' := ⟨4, [(3, .row 9 1 (List.map V.str (List.replicate 6 ([] : List UInt8)))), (2, vH 2 []), (1, vB 0 []), (0, vA l n α o γ)]⟩) [0, 1, 3, 2] [0] rfl hK pq3 ⟨⟨_, rfl, rfl, rfl, (vK _ (List.replicate 6 ([] : List UInt8))).symm⟩, (pqo3 rfl rfl rfl rfl rfl rfl)⟩ rfl ?_
 refine gDs [2] 5 6 rfl (by kernel_rfl) (by kernel_rfl) ?_
 refine gDr [(0, 2), (1, 3), (2, 0)] (by kernel_rfl) rfl rfl ?_
 obtain ⟨b, r0_2, n0_3, n0_4, n0_5, n0_6, hs42, h⟩ := h
 refine gDCY 3 hs42 [0] rfl ?_
 obtain ⟨s0_7, hxs0_7, h⟩ := h
 refine bA 4 rfl (by kernel_rfl) (yIO ab rfl rfl rfl rfl (by have := (mapget (f := V.str) hxs0_7); exact (List.getElem?_eq_some_iff.1 this).1)) rfl rfl ?_
 refine aP 5 (.set 3 (.row 9 1 (List.map V.str ((vN 6).set 0 b)))) rfl (by kernel_rfl) (dSe ab rfl rfl rfl rfl (mapget (f := V.str) hxs0_7) rfl (cg V.str (List.replicate 6 ([] : List UInt8)) 0 b)) (okS rfl) rfl (by kernel_rfl) rfl rfl ?_
 refine gDe (by kernel_rfl) <| gR 2 rfl <| go_sub (F' := (mkF 97 0 [(0, .ptr 0 0), (2, .ptr 1 0), (3, .ptr 2 0)])) (H' := ⟨4, [(3, .row 9 1 (List.map V.str ((vN 6).set 0 b))), (2, vH 2 []), (1, vB 0 []), (0, vA r0_2 n0_3 n0_4 n0_5 n0_6)]⟩) [0, 1, 2, 3] [0] rfl hK pq3 ⟨⟨_, rfl, rfl, rfl, (vK _ ((vN 6).set 0 b)).symm⟩, (pqo3 rfl rfl rfl rfl rfl rfl)⟩ rfl <| gDs [2] 8 11 rfl (by kernel_rfl) (by kernel_rfl) <| gDr [(0, 2), (1, 3), (2, 0)] (by kernel_rfl) rfl rfl ?_
 obtain ⟨j, c, ε, ζ, η, θ, ι, hs43, h⟩ := h
 refine gDCY 3 hs43 [0] rfl ?_
 refine gDr [(4, 0), (5, 2), (6, 2), (7, 0), (8, 1)] (by kernel_rfl) rfl rfl ?_
 obtain ⟨s0_15, hxs0_15, h⟩ := h
 refine bA 9 rfl (by kernel_rfl) (yIO ab rfl rfl rfl rfl (by have := (mapget (f := V.str) hxs0_15); exact (List.getElem?_eq_some_iff.1 this).1)) rfl rfl ?_
 refine aP 10 (.set 3 (.row 9 1 (List.map V.str (((vN 6).set 0 b).set 1 c)))) rfl (by kernel_rfl) (dSe ab rfl rfl rfl rfl (mapget (f := V.str) hxs0_15) rfl (cg V.str ((vN 6).set 0 b) 1 c)) (okS rfl) rfl (by kernel_rfl) rfl rfl ?_
 refine gDe (by kernel_rfl) <| gR 1 rfl <| go_sub (F' := (mkF 97 0 [(0, .ptr 0 0), (2, .ptr 1 0), (3, .ptr 2 0)])) (H' := ⟨4, [(3, .row 9 1 (List.map V.str (((vN 6).set 0 b).set 1 c))), (2, vH 2 j), (1, vB 0 []), (0, vA ε ζ η θ ι)]⟩) [0, 1, 2, 3] [0] rfl hK pq3 ⟨⟨_, rfl, rfl, rfl, (vK _ (((vN 6).set 0 b).set 1 c)).symm⟩, (pqo3 rfl rfl rfl rfl rfl rfl)⟩ rfl <| gR 1 rfl <| gDs [2] 5 6 rfl (by kernel_rfl) (by kernel_rfl) <| gDr [(0, 2), (1, 3), (2, 0)] (by kernel_rfl) rfl rfl ?_
 obtain ⟨a, r0_17, n0_18, n0_19, n0_20, n0_21, hs44, h⟩ := h
 refine gDCY 3 hs44 [0] rfl ?_
 obtain ⟨s0_22, hxs0_22, h⟩ := h
 refine bA 4 rfl (by kernel_rfl) (yIO ab rfl rfl rfl rfl (by have := (mapget (f := V.str) hxs0_22); exact (List.getElem?_eq_some_iff.1 this).1)) rfl rfl ?_
 refine aP 5 (.set 3 (.row 9 1 (List.map V.str ((((vN 6).set 0 b).set 1 c).set 2 a)))) rfl (by kernel_rfl) (dSe ab rfl rfl rfl rfl (mapget (f := V.str) hxs0_22) rfl (cg V.str (((vN 6).set 0 b).set 1 c) 2 a)) (okS rfl) rfl (by kernel_rfl) rfl rfl ?_
 refine gDe (by kernel_rfl) <| gR 5 rfl ?_
 obtain ⟨κ, t, v, x, y, z, hs45, h⟩ := h
 refine gCY hs45 [0] ?_
 refine gR 4 rfl <| gB 28 rfl rfl rfl ?_ ?_ <;> intro hd
 replace hd := (fh hd)
 replace h := h.1 hd
 refine gR 2 rfl <| go_sub (F' := (mkF 97 0 [(0, .ptr 0 0), (2, .ptr 1 0), (3, .ptr 2 0)])) (H' := ⟨4, [(3, .row 9 1 (List.map V.str ((((vN 6).set 0 b).set 1 c).set 2 a))), (2, vH 2 j), (1, vB 0 []), (0, vA t v x y z)]⟩) [0, 1, 2, 3] [0] rfl hK pq3 ⟨⟨_, rfl, rfl, rfl, (vK _ ((((vN 6).set 0 b).set 1 c).set 2 a)).symm⟩, (pqo3 rfl rfl rfl rfl rfl rfl)⟩ rfl <| gDs [2] 7 8 rfl (by kernel_rfl) (by kernel_rfl) <| gDr [(0, 2), (1, 3), (2, 0)] (by kernel_rfl) rfl rfl ?_
 obtain ⟨s, r0_30, n0_31, n0_32, n0_33, n0_34, hs46, h⟩ := h
 refine gDCY 3 hs46 [0] rfl ?_
 exact gDr [(4, 0)] (by kernel_rfl) rfl rfl <| gHR 6 (kidsV [s]) rfl (cI s) rfl <| aP 5 (.new (.row 25 4 (kidsV [s]))) rfl (by kernel_rfl) (nU ab rfl rfl rfl rfl rfl (by first | decide | (simp; done) | (simp [aG]; done))) trivial rfl (by kernel_rfl) rfl rfl <| gDr [(6, 0), (7, 1)] (by kernel_rfl) rfl rfl <| gDe (by kernel_rfl) <| gR 2 rfl <| go_loop m <| gJ (h K _ hK (by omega)) [0, 1, 2, 3, 7] [0] rfl hK pq3 ⟨⟨_, rfl, rfl, rfl, (aC _ [s]).symm⟩, ⟨_, rfl, rfl, rfl, (vK _ ((((vN 6).set 0 b).set 1 c).set 2 a)).symm⟩, (pqo3 rfl rfl rfl rfl rfl rfl)⟩ rfl
 replace hd := (dz hd)
 replace h := h.2 hd
 refine gR 4 rfl <| go_sub (F' := (mkF 97 0 [(0, .ptr 0 0), (2, .ptr 1 0), (3, .ptr 2 0)])) (H' := ⟨4, [(3, .row 9 1 (List.map V.str ((((vN 6).set 0 b).set 1 c).set 2 a))), (2, vH 2 j), (1, vB 0 []), (0, vA t v x y z)]⟩) [0, 1, 2, 3] [0] rfl hK pq3 ⟨⟨_, rfl, rfl, rfl, (vK _ ((((vN 6).set 0 b).set 1 c).set 2 a)).symm⟩, (pqo3 rfl rfl rfl rfl rfl rfl)⟩ rfl <| gDs [2] 5 6 rfl (by kernel_rfl) (by kernel_rfl) <| gDr [(0, 2), (1, 3), (2, 0)] (by kernel_rfl) rfl rfl ?_
 obtain ⟨d, μ, ν, ξ, ο, π, hs47, h⟩ := h
 refine gDCY 3 hs47 [0] rfl ?_
 obtain ⟨s0_41, hxs0_41, h⟩ := h
 refine bA 4 rfl (by kernel_rfl) (yIO ab rfl rfl rfl rfl (by have := (mapget (f := V.str) hxs0_41); exact (List.getElem?_eq_some_iff.1 this).1)) rfl rfl ?_
 refine aP 5 (.set 3 (.row 9 1 (List.map V.str (((((vN 6).set 0 b).set 1 c).set 2 a).set 3 d)))) rfl (by kernel_rfl) (dSe ab rfl rfl rfl rfl (mapget (f := V.str) hxs0_41) rfl (cg V.str ((((vN 6).set 0 b).set 1 c).set 2 a) 3 d)) (okS rfl) rfl (by kernel_rfl) rfl rfl ?_
 refine gDe (by kernel_rfl) <| gR 2 rfl <| go_sub (F' := (mkF 97 0 [(0, .ptr 0 0), (2, .ptr 1 0), (3, .ptr 2 0)])) (H' := ⟨4, [(3, .row 9 1 (List.map V.str (((((vN 6).set 0 b).set 1 c).set 2 a).set 3 d))), (2, vH 2 j), (1, vB 0 []), (0, vA μ ν ξ ο π)]⟩) [0, 1, 2, 3] [0] rfl hK pq3 ⟨⟨_, rfl, rfl, rfl, (vK _ (((((vN 6).set 0 b).set 1 c).set 2 a).set 3 d)).symm⟩, (pqo3 rfl rfl rfl rfl rfl rfl)⟩ rfl <| gDs [2] 5 6 rfl (by kernel_rfl) (by kernel_rfl) ?_
 refine gDr [(0, 2), (1, 3), (2, 0)] (by kernel_rfl) rfl rfl ?_
 obtain ⟨e, τ, υ, φ, χ, ψ, hs48, h⟩ := h
 refine gDCY 3 hs48 [0] rfl ?_
 obtain ⟨s0_48, hxs0_48, h⟩ := h
 refine bA 4 rfl (by kernel_rfl) (yIO ab rfl rfl rfl rfl (by have := (mapget (f := V.str) hxs0_48); exact (List.getElem?_eq_some_iff.1 this).1)) rfl rfl ?_
 refine aP 5 (.set 3 (.row 9 1 (List.map V.str ((((((vN 6).set 0 b).set 1 c).set 2 a).set 3 d).set 4 e)))) rfl (by kernel_rfl) (dSe ab rfl rfl rfl rfl (mapget (f := V.str) hxs0_48) rfl (cg V.str (((((vN 6).set 0 b).set 1 c).set 2 a).set 3 d) 4 e)) (okS rfl) rfl (by kernel_rfl) rfl rfl ?_
 refine gDe (by kernel_rfl) <| gR 2 rfl <| go_sub (F' := (mkF 97 0 [(0, .ptr 0 0), (2, .ptr 1 0), (3, .ptr 2 0)])) (H' := ⟨4, [(3, .row 9 1 (List.map V.str ((((((vN 6).set 0 b).set 1 c).set 2 a).set 3 d).set 4 e))), (2, vH 2 j), (1, vB 0 []), (0, vA τ υ φ χ ψ)]⟩) [0, 1, 2, 3] [0] rfl hK pq3 ⟨⟨_, rfl, rfl, rfl, (vK _ ((((((vN 6).set 0 b).set 1 c).set 2 a).set 3 d).set 4 e)).symm⟩, (pqo3 rfl rfl rfl rfl rfl rfl)⟩ rfl ?_
 refine gDs [2] 7 8 rfl (by kernel_rfl) (by kernel_rfl) ?_
 refine gDr [(0, 2), (1, 3), (2, 0)] (by kernel_rfl) rfl rfl ?_
 obtain ⟨g, ω, n0_51, n0_52, n0_53, n0_54, hs49, h⟩ := h
 refine gDCY 3 hs49 [0] rfl ?_
 refine gDr [(4, 0)] (by kernel_rfl) rfl rfl <| gHR 6 (kidsV [g]) rfl (cI g) rfl <| aP 5 (.new (.row 25 4 (kidsV [g]))) rfl (by kernel_rfl) (nU ab rfl rfl rfl rfl rfl (by first | decide | (simp; done) | (simp [aG]; done))) trivial rfl (by kernel_rfl) rfl rfl <| gDr [(6, 0), (7, 1)] (by kernel_rfl) rfl rfl <| gDe (by kernel_rfl) <| gR 2 rfl <| go_sub (F' := (mkF 97 0 [(0, .ptr 0 0), (2, .ptr 1 0), (3, .ptr 2 0)])) (H' := ⟨5, [(4, .row 25 4 (kidsV [g])), (3, .row 9 1 (List.map V.str ((((((vN 6).set 0 b).set 1 c).set 2 a).set 3 d).set 4 e))), (2, vG 2 j), (1, vB 0 []), (0, vA ω n0_51 n0_52 n0_53 n0_54)]⟩) [0, 1, 2, 3, 7] [0] rfl hK pq3 ⟨⟨_, rfl, rfl, rfl, (aC _ [g]).symm⟩, ⟨_, rfl, rfl, rfl, (vK _ ((((((vN 6).set 0 b).set 1 c).set 2 a).set 3 d).set 4 e)).symm⟩, (pqo3 rfl rfl rfl rfl rfl rfl)⟩ rfl ?_
 refine gDs [2] 5 6 rfl (by kernel_rfl) (by kernel_rfl) ?_
 refine gDr [(0, 2), (1, 3), (2, 0)] (by kernel_rfl) rfl rfl ?_
 obtain ⟨k, r0_56, n0_57, n0_58, n0_59, n0_60, hs50, h⟩ := h
 refine gDCY 3 hs50 [0] rfl ?_
 obtain ⟨s0_61, hxs0_61, h⟩ := h
 refine bA 4 rfl (by kernel_rfl) (yIO ab rfl rfl rfl rfl (by have := (mapget (f := V.str) hxs0_61); exact (List.getElem?_eq_some_iff.1 this).1)) rfl rfl ?_
 refine aP 5 (.set 3 (.row 9 1 (List.map V.str (((((((vN 6).set 0 b).set 1 c).set 2 a).set 3 d).set 4 e).set 5 k)))) rfl (by kernel_rfl) (dSe ab rfl rfl rfl rfl (mapget (f := V.str) hxs0_61) rfl (cg V.str ((((((vN 6).set 0 b).set 1 c).set 2 a).set 3 d).set 4 e) 5 k)) (okS rfl) rfl (by kernel_rfl) rfl rfl ?_
 refine gDe (by kernel_rfl) <| gR 2 rfl <| go_sub (F' := (mkF 97 0 [(0, .ptr 0 0), (2, .ptr 1 0), (3, .ptr 2 0)])) (H' := ⟨5, [(4, .row 25 4 (kidsV [g])), (3, .row 9 1 (List.map V.str (((((((vN 6).set 0 b).set 1 c).set 2 a).set 3 d).set 4 e).set 5 k))), (2, vG 2 j), (1, vB 0 []), (0, vA r0_56 n0_57 n0_58 n0_59 n0_60)]⟩) [0, 1, 2, 3, 4] [0] rfl hK pq3 ⟨⟨_, rfl, rfl, rfl, (aC _ [g]).symm⟩, ⟨_, rfl, rfl, rfl, (vK _ (((((((vN 6).set 0 b).set 1 c).set 2 a).set 3 d).set 4 e).set 5 k)).symm⟩, (pqo3 rfl rfl rfl rfl rfl rfl)⟩ rfl ?_
 refine gDs [2] 7 8 rfl (by kernel_rfl) (by kernel_rfl) ?_
 refine gDr [(0, 2), (1, 3), (2, 0)] (by kernel_rfl) rfl rfl ?_
 obtain ⟨i, r0_63, n0_64, n0_65, n0_66, n0_67, hs51, h⟩ := h
 refine gDCY 3 hs51 [0] rfl ?_
 refine gDr [(4, 0)] (by kernel_rfl) rfl rfl <| gHR 7 (kidsV [i]) rfl (cI i) rfl ?_
 obtain ⟨hb, h⟩ := h
 refine aP 5 (.repl 4 (.row 25 4 (kidsV ([g] ++ [i])))) rfl (by kernel_rfl) (bm ab rfl rfl rfl rfl rfl (bC [g] [i]).symm (by rw [aG]; exact hb)) (okR rfl) rfl (by kernel_rfl) rfl rfl ?_
 refine gDr [(6, 0), (7, 1)] (by kernel_rfl) rfl rfl <| gDe (by kernel_rfl) <| gR 8 rfl <| gFR 3 rfl (cb _ (fun _ => rfl) _) rfl rfl <| gFR 8 rfl (bo _) rfl rfl ?_
 obtain ⟨rfl, rfl, rfl, rfl, rfl, rfl⟩ := h
 refine go_sub (F' := (mkF 97 0 [(2, .ptr 1 0)])) (H' := ⟨2, [(1, vF ((Tree.node 2 j (((((((vN 6).set 0 b).set 1 c).set 2 a).set 3 d).set 4 e).set 5 k) ([g] ++ [i])).kind) ((Tree.node 2 j (((((((vN 6).set 0 b).set 1 c).set 2 a).set 3 d).set 4 e).set 5 k) ([g] ++ [i])).text) ((Tree.node 2 j (((((((vN 6).set 0 b).set 1 c).set 2 a).set 3 d).set 4 e).set 5 k) ([g] ++ [i])).leads) ((Tree.node 2 j (((((((vN 6).set 0 b).set 1 c).set 2 a).set 3 d).set 4 e).set 5 k) ([g] ++ [i])).kids)), (0, vA r0_63 n0_64 n0_65 n0_66 n0_67)]⟩) [0, 1] [0] rfl hK pq1 (pqo2 rfl rfl rfl rfl) rfl ?_
 exact go_endD [1] ab (rs := [.cell 2 25]) rfl rfl ⟨rfl, rfl⟩
theorem jE (m : Nat) (g : List UInt8) (l1v1 : List GToken) (z1v2 z1v3 z1v4 z1v5 : Int) (b : (List (List UInt8))) (a : List Tree) (r0 : Tree) (l : List GToken) (n t o v : Int) (h : ∃ r1_1 ζ η θ ι κ, aH l1v1 z1v2 z1v3 z1v4 z1v5 r1_1 ζ η θ ι κ ∧ ((r1_1.Text = [44]) → ∃ i r1_8 n1_9 x y z, aI ζ η θ ι κ i r1_8 n1_9 x y z ∧ (b ++ [i.Lead]).length ≤ 1000000000 ∧ (((a.length : Int) = 8) → ∃ μ α β γ δ ε, aH r1_8 n1_9 x y z μ α β γ δ ε ∧ ((μ.Kind = 1) → ∃ ν ξ ο π τ, bX α β γ δ ε 3 ν ξ ο π τ ∧ ∃ q r1_25 n1_26 n1_27 n1_28 n1_29, cZ ν ξ ο π τ q r1_25 n1_26 n1_27 n1_28 n1_29 ∧ (a ++ [q]).length ≤ 1000000000 ∧ cr m g r1_25 n1_26 n1_27 n1_28 n1_29 (b ++ [i.Lead]) (a ++ [q]) r0 l n t o v) ∧ ((μ.Kind ≠ 1) → ∃ r r1_31 n1_32 n1_33 n1_34 n1_35, cZ α β γ δ ε r r1_31 n1_32 n1_33 n1_34 n1_35 ∧ (a ++ [r]).length ≤ 1000000000 ∧ cr m g r1_31 n1_32 n1_33 n1_34 n1_35 (b ++ [i.Lead]) (a ++ [r]) r0 l n t o v)) ∧ (((a.length : Int) ≠ 8) → ∃ s r1_37 n1_38 n1_39 n1_40 n1_41, cZ r1_8 n1_9 x y z s r1_37 n1_38 n1_39 n1_40 n1_41 ∧ (a ++ [s]).length ≤ 1000000000 ∧ cr m g r1_37 n1_38 n1_39 n1_40 n1_41 (b ++ [i.Lead]) (a ++ [s]) r0 l n t o v)) ∧ ((r1_1.Text ≠ [44]) → ∃ c υ φ χ ψ ω, ay ζ η θ ι κ [41] c υ φ χ ψ ω ∧ ∃ s1_48, b[3]? = some s1_48 ∧ ∃ e r1_50 n1_51 n1_52 n1_53 n1_54, ay υ φ χ ψ ω [58] e r1_50 n1_51 n1_52 n1_53 n1_54 ∧ ∃ s1_55, (b.set 3 c)[4]? = some s1_55 ∧ ∃ d r1_57 n1_58 n1_59 n1_60 n1_61, cU r1_50 n1_51 n1_52 n1_53 n1_54 d r1_57 n1_58 n1_59 n1_60 n1_61 ∧ (a ++ [d]).length ≤ 1000000000 ∧ ∃ p r1_63 n1_64 n1_65 n1_66 n1_67, ay r1_57 n1_58 n1_59 n1_60 n1_61 [61] p r1_63 n1_64 n1_65 n1_66 n1_67 ∧ ∃ s1_68, ((b.set 3 c).set 4 e)[5]? = some s1_68 ∧ ∃ k r1_70 n1_71 n1_72 n1_73 n1_74, aJ r1_63 n1_64 n1_65 n1_66 n1_67 k r1_70 n1_71 n1_72 n1_73 n1_74 ∧ ((a ++ [d]) ++ [k]).length ≤ 1000000000 ∧ (Tree.node 2 g (((b.set 3 c).set 4 e).set 5 p) ((a ++ [d]) ++ [k])) = r0 ∧ r1_70 = l ∧ n1_71 = n ∧ n1_72 = t ∧ n1_73 = o ∧ n1_74 = v)) : cr (m + 1) g l1v1 z1v2 z1v3 z1v4 z1v5 b a r0 l n t o v := by
 intro K j1 hK hj1
 obtain ⟨j1, rfl⟩ : ∃ j, j1 = j + 1 := ⟨j1 - 1, by omega⟩
 refine gR 4 rfl ?_
 obtain ⟨r1_1, ζ, η, θ, ι, κ, hs52, h⟩ := h
 refine gCY hs52 [0] ?_
 refine gR 4 rfl <| gB 39 rfl rfl rfl ?_ ?_ <;> intro hd
 replace hd := (eq_of_beq hd)
 replace h := h.1 hd
 refine gR 5 rfl <| go_sub (F' := (mkF 97 0 [(0, .ptr 0 0), (2, .ptr 1 0), (3, .ptr 2 0)])) (H' := ⟨5, [(4, .row 25 4 (kidsV a)), (3, .row 9 1 (List.map V.str b)), (2, vG 2 g), (1, vB 0 []), (0, vA ζ η θ ι κ)]⟩) [0, 1, 2, 3, 4] [0] rfl hK pq3 ⟨⟨_, rfl, rfl, rfl, (aC _ a).symm⟩, ⟨_, rfl, rfl, rfl, (vK _ b).symm⟩, (pqo3 rfl rfl rfl rfl rfl rfl)⟩ rfl <| gDs [2] 8 9 rfl (by kernel_rfl) (by kernel_rfl) <| gDr [(0, 2), (1, 3), (2, 0)] (by kernel_rfl) rfl rfl ?_
 obtain ⟨i, r1_8, n1_9, x, y, z, hs53, h⟩ := h
 refine gDCY 3 hs53 [0] rfl ?_
 refine gDr [(4, 0), (5, 0)] (by kernel_rfl) rfl rfl ?_
 obtain ⟨hb, h⟩ := h
 refine aP 6 (.repl 3 (.row 9 1 (List.map V.str (b ++ [i.Lead])))) rfl (by kernel_rfl) (bm ab rfl rfl rfl rfl rfl (apM V.str b i.Lead) (by rw [aZ]; exact hb)) (okR rfl) rfl (by kernel_rfl) rfl rfl ?_
 refine gDr [(7, 0), (8, 1)] (by kernel_rfl) rfl rfl <| gDe (by kernel_rfl) <| gR 7 rfl <| gV 50 (.int .i64 (a.length : Int)) rfl (bx (aG _)) rfl <| gLO 4 rfl (aG _) fun hl54 => gR 2 rfl <| gB 52 rfl rfl rfl ?_ ?_ <;> intro hd
 refine gT 51 rfl hd rfl ?_
 replace hd := (eq_of_beq hd)
 replace h := h.1 hd
 refine gR 1 rfl ?_
 obtain ⟨μ, α, β, γ, δ, ε, hs55, h⟩ := h
 refine gCY hs55 [0] ?_
 refine gR 5 rfl <| gB 57 rfl rfl rfl ?_ ?_ <;> intro hd
 replace hd := (eq_of_beq hd)
 replace h := h.1 hd
 refine gR 3 rfl ?_
 obtain ⟨ν, ξ, ο, π, τ, hs56, h⟩ := h
 refine gCY hs56 [0] ?_
 refine gR 2 rfl <| go_sub (F' := (mkF 97 0 [(0, .ptr 0 0), (2, .ptr 1 0), (3, .ptr 2 0)])) (H' := ⟨5, [(4, .row 25 4 (kidsV a)), (3, .row 9 1 (List.map V.str (b ++ [i.Lead]))), (2, vG 2 g), (1, vB 0 []), (0, vA ν ξ ο π τ)]⟩) [0, 1, 2, 8, 4] [0] rfl hK pq3 ⟨⟨_, rfl, rfl, rfl, (aC _ a).symm⟩, ⟨_, rfl, rfl, rfl, (vK _ (b ++ [i.Lead])).symm⟩, (pqo3 rfl rfl rfl rfl rfl rfl)⟩ rfl <| gDs [2] 7 8 rfl (by kernel_rfl) (by kernel_rfl) <| gDr [(0, 2), (1, 3), (2, 0)] (by kernel_rfl) rfl rfl ?_
 obtain ⟨q, r1_25, n1_26, n1_27, n1_28, n1_29, hs57, h⟩ := h
 refine gDCY 3 hs57 [0] rfl ?_
 refine gDr [(4, 0)] (by kernel_rfl) rfl rfl <| gHR 7 (kidsV [q]) rfl (cI q) rfl ?_
 obtain ⟨hb, h⟩ := h
 refine aP 5 (.repl 4 (.row 25 4 (kidsV (a ++ [q])))) rfl (by kernel_rfl) (bm ab rfl rfl rfl rfl rfl (bC a [q]).symm (by rw [aG]; exact hb)) (okR rfl) rfl (by kernel_rfl) rfl rfl ?_
 exact gDr [(6, 0), (7, 1)] (by kernel_rfl) rfl rfl <| gDe (by kernel_rfl) <| gR 1 rfl <| go_xloop <| gJ (h K _ hK (by omega)) [0, 1, 2, 3, 8] [0] rfl hK pq3 ⟨⟨_, rfl, rfl, rfl, (aC _ (a ++ [q])).symm⟩, ⟨_, rfl, rfl, rfl, (vK _ (b ++ [i.Lead])).symm⟩, (pqo3 rfl rfl rfl rfl rfl rfl)⟩ rfl
 replace hd := (ne_of_beq_false hd)
 replace h := h.2 hd
 refine gR 3 rfl <| go_sub (F' := (mkF 97 0 [(0, .ptr 0 0), (2, .ptr 1 0), (3, .ptr 2 0)])) (H' := ⟨5, [(4, .row 25 4 (kidsV a)), (3, .row 9 1 (List.map V.str (b ++ [i.Lead]))), (2, vG 2 g), (1, vB 0 []), (0, vA α β γ δ ε)]⟩) [0, 1, 2, 8, 4] [0] rfl hK pq3 ⟨⟨_, rfl, rfl, rfl, (aC _ a).symm⟩, ⟨_, rfl, rfl, rfl, (vK _ (b ++ [i.Lead])).symm⟩, (pqo3 rfl rfl rfl rfl rfl rfl)⟩ rfl <| gDs [2] 7 8 rfl (by kernel_rfl) (by kernel_rfl) <| gDr [(0, 2), (1, 3), (2, 0)] (by kernel_rfl) rfl rfl ?_
 obtain ⟨r, r1_31, n1_32, n1_33, n1_34, n1_35, hs58, h⟩ := h
 refine gDCY 3 hs58 [0] rfl ?_
 refine gDr [(4, 0)] (by kernel_rfl) rfl rfl <| gHR 7 (kidsV [r]) rfl (cI r) rfl ?_
 obtain ⟨hb, h⟩ := h
 refine aP 5 (.repl 4 (.row 25 4 (kidsV (a ++ [r])))) rfl (by kernel_rfl) (bm ab rfl rfl rfl rfl rfl (bC a [r]).symm (by rw [aG]; exact hb)) (okR rfl) rfl (by kernel_rfl) rfl rfl ?_
 exact gDr [(6, 0), (7, 1)] (by kernel_rfl) rfl rfl <| gDe (by kernel_rfl) <| gR 1 rfl <| go_xloop <| gJ (h K _ hK (by omega)) [0, 1, 2, 3, 8] [0] rfl hK pq3 ⟨⟨_, rfl, rfl, rfl, (aC _ (a ++ [r])).symm⟩, ⟨_, rfl, rfl, rfl, (vK _ (b ++ [i.Lead])).symm⟩, (pqo3 rfl rfl rfl rfl rfl rfl)⟩ rfl
 refine gF 51 rfl hd rfl ?_
 replace hd := (ne_of_beq_false hd)
 replace h := h.2 hd
 refine gR 10 rfl <| go_sub (F' := (mkF 97 0 [(0, .ptr 0 0), (2, .ptr 1 0), (3, .ptr 2 0)])) (H' := ⟨5, [(4, .row 25 4 (kidsV a)), (3, .row 9 1 (List.map V.str (b ++ [i.Lead]))), (2, vG 2 g), (1, vB 0 []), (0, vA r1_8 n1_9 x y z)]⟩) [0, 1, 2, 8, 4] [0] rfl hK pq3 ⟨⟨_, rfl, rfl, rfl, (aC _ a).symm⟩, ⟨_, rfl, rfl, rfl, (vK _ (b ++ [i.Lead])).symm⟩, (pqo3 rfl rfl rfl rfl rfl rfl)⟩ rfl <| gDs [2] 7 8 rfl (by kernel_rfl) (by kernel_rfl) <| gDr [(0, 2), (1, 3), (2, 0)] (by kernel_rfl) rfl rfl ?_
 obtain ⟨s, r1_37, n1_38, n1_39, n1_40, n1_41, hs59, h⟩ := h
 refine gDCY 3 hs59 [0] rfl ?_
 refine gDr [(4, 0)] (by kernel_rfl) rfl rfl <| gHR 7 (kidsV [s]) rfl (cI s) rfl ?_
 obtain ⟨hb, h⟩ := h
 refine aP 5 (.repl 4 (.row 25 4 (kidsV (a ++ [s])))) rfl (by kernel_rfl) (bm ab rfl rfl rfl rfl rfl (bC a [s]).symm (by rw [aG]; exact hb)) (okR rfl) rfl (by kernel_rfl) rfl rfl ?_
 exact gDr [(6, 0), (7, 1)] (by kernel_rfl) rfl rfl <| gDe (by kernel_rfl) <| gR 1 rfl <| go_xloop <| gJ (h K _ hK (by omega)) [0, 1, 2, 3, 8] [0] rfl hK pq3 ⟨⟨_, rfl, rfl, rfl, (aC _ (a ++ [s])).symm⟩, ⟨_, rfl, rfl, rfl, (vK _ (b ++ [i.Lead])).symm⟩, (pqo3 rfl rfl rfl rfl rfl rfl)⟩ rfl
 replace hd := (ne_of_beq_false hd)
 replace h := h.2 hd
 refine gR 3 rfl <| go_xloopE <| gR 3 rfl <| go_sub (F' := (mkF 97 0 [(0, .ptr 0 0), (2, .ptr 1 0), (3, .ptr 2 0)])) (H' := ⟨5, [(4, .row 25 4 (kidsV a)), (3, .row 9 1 (List.map V.str b)), (2, vG 2 g), (1, vB 0 []), (0, vA ζ η θ ι κ)]⟩) [0, 1, 2, 3, 4] [0] rfl hK pq3 ⟨⟨_, rfl, rfl, rfl, (aC _ a).symm⟩, ⟨_, rfl, rfl, rfl, (vK _ b).symm⟩, (pqo3 rfl rfl rfl rfl rfl rfl)⟩ rfl <| gDs [2] 5 6 rfl (by kernel_rfl) (by kernel_rfl) <| gDr [(0, 2), (1, 3), (2, 0)] (by kernel_rfl) rfl rfl ?_
 obtain ⟨c, υ, φ, χ, ψ, ω, hs60, h⟩ := h
 refine gDCY 3 hs60 [0] rfl ?_
 obtain ⟨s1_48, hxs1_48, h⟩ := h
 refine bA 4 rfl (by kernel_rfl) (yIO ab rfl rfl rfl rfl (by have := (mapget (f := V.str) hxs1_48); exact (List.getElem?_eq_some_iff.1 this).1)) rfl rfl ?_
 refine aP 5 (.set 3 (.row 9 1 (List.map V.str (b.set 3 c)))) rfl (by kernel_rfl) (dSe ab rfl rfl rfl rfl (mapget (f := V.str) hxs1_48) rfl (cg V.str b 3 c)) (okS rfl) rfl (by kernel_rfl) rfl rfl ?_
 refine gDe (by kernel_rfl) <| gR 2 rfl <| go_sub (F' := (mkF 97 0 [(0, .ptr 0 0), (2, .ptr 1 0), (3, .ptr 2 0)])) (H' := ⟨5, [(4, .row 25 4 (kidsV a)), (3, .row 9 1 (List.map V.str (b.set 3 c))), (2, vG 2 g), (1, vB 0 []), (0, vA υ φ χ ψ ω)]⟩) [0, 1, 2, 3, 4] [0] rfl hK pq3 ⟨⟨_, rfl, rfl, rfl, (aC _ a).symm⟩, ⟨_, rfl, rfl, rfl, (vK _ (b.set 3 c)).symm⟩, (pqo3 rfl rfl rfl rfl rfl rfl)⟩ rfl <| gDs [2] 5 6 rfl (by kernel_rfl) (by kernel_rfl) <| gDr [(0, 2), (1, 3), (2, 0)] (by kernel_rfl) rfl rfl ?_
 obtain ⟨e, r1_50, n1_51, n1_52, n1_53, n1_54, hs61, h⟩ := h
 refine gDCY 3 hs61 [0] rfl ?_
 obtain ⟨s1_55, hxs1_55, h⟩ := h
 refine bA 4 rfl (by kernel_rfl) (yIO ab rfl rfl rfl rfl (by have := (mapget (f := V.str) hxs1_55); exact (List.getElem?_eq_some_iff.1 this).1)) rfl rfl ?_
 refine aP 5 (.set 3 (.row 9 1 (List.map V.str ((b.set 3 c).set 4 e)))) rfl (by kernel_rfl) (dSe ab rfl rfl rfl rfl (mapget (f := V.str) hxs1_55) rfl (cg V.str (b.set 3 c) 4 e)) (okS rfl) rfl (by kernel_rfl) rfl rfl ?_
 refine gDe (by kernel_rfl) <| gR 2 rfl <| go_sub (F' := (mkF 97 0 [(0, .ptr 0 0), (2, .ptr 1 0), (3, .ptr 2 0)])) (H' := ⟨5, [(4, .row 25 4 (kidsV a)), (3, .row 9 1 (List.map V.str ((b.set 3 c).set 4 e))), (2, vG 2 g), (1, vB 0 []), (0, vA r1_50 n1_51 n1_52 n1_53 n1_54)]⟩) [0, 1, 2, 3, 4] [0] rfl hK pq3 ⟨⟨_, rfl, rfl, rfl, (aC _ a).symm⟩, ⟨_, rfl, rfl, rfl, (vK _ ((b.set 3 c).set 4 e)).symm⟩, (pqo3 rfl rfl rfl rfl rfl rfl)⟩ rfl <| gDs [2] 7 8 rfl (by kernel_rfl) (by kernel_rfl) <| gDr [(0, 2), (1, 3), (2, 0)] (by kernel_rfl) rfl rfl ?_
 obtain ⟨d, r1_57, n1_58, n1_59, n1_60, n1_61, hs62, h⟩ := h
 refine gDCY 3 hs62 [0] rfl ?_
 refine gDr [(4, 0)] (by kernel_rfl) rfl rfl <| gHR 7 (kidsV [d]) rfl (cI d) rfl ?_
 obtain ⟨hb, h⟩ := h
 refine aP 5 (.repl 4 (.row 25 4 (kidsV (a ++ [d])))) rfl (by kernel_rfl) (bm ab rfl rfl rfl rfl rfl (bC a [d]).symm (by rw [aG]; exact hb)) (okR rfl) rfl (by kernel_rfl) rfl rfl ?_
 refine gDr [(6, 0), (7, 1)] (by kernel_rfl) rfl rfl <| gDe (by kernel_rfl) <| gR 2 rfl <| go_sub (F' := (mkF 97 0 [(0, .ptr 0 0), (2, .ptr 1 0), (3, .ptr 2 0)])) (H' := ⟨5, [(4, .row 25 4 (kidsV (a ++ [d]))), (3, .row 9 1 (List.map V.str ((b.set 3 c).set 4 e))), (2, vG 2 g), (1, vB 0 []), (0, vA r1_57 n1_58 n1_59 n1_60 n1_61)]⟩) [0, 1, 2, 3, 8] [0] rfl hK pq3 ⟨⟨_, rfl, rfl, rfl, (aC _ (a ++ [d])).symm⟩, ⟨_, rfl, rfl, rfl, (vK _ ((b.set 3 c).set 4 e)).symm⟩, (pqo3 rfl rfl rfl rfl rfl rfl)⟩ rfl ?_
 refine gDs [2] 5 6 rfl (by kernel_rfl) (by kernel_rfl) ?_
 refine gDr [(0, 2), (1, 3), (2, 0)] (by kernel_rfl) rfl rfl ?_
 obtain ⟨p, r1_63, n1_64, n1_65, n1_66, n1_67, hs63, h⟩ := h
 refine gDCY 3 hs63 [0] rfl ?_
 obtain ⟨s1_68, hxs1_68, h⟩ := h
 refine bA 4 rfl (by kernel_rfl) (yIO ab rfl rfl rfl rfl (by have := (mapget (f := V.str) hxs1_68); exact (List.getElem?_eq_some_iff.1 this).1)) rfl rfl ?_
 refine aP 5 (.set 3 (.row 9 1 (List.map V.str (((b.set 3 c).set 4 e).set 5 p)))) rfl (by kernel_rfl) (dSe ab rfl rfl rfl rfl (mapget (f := V.str) hxs1_68) rfl (cg V.str ((b.set 3 c).set 4 e) 5 p)) (okS rfl) rfl (by kernel_rfl) rfl rfl ?_
 refine gDe (by kernel_rfl) <| gR 2 rfl <| go_sub (F' := (mkF 97 0 [(0, .ptr 0 0), (2, .ptr 1 0), (3, .ptr 2 0)])) (H' := ⟨5, [(4, .row 25 4 (kidsV (a ++ [d]))), (3, .row 9 1 (List.map V.str (((b.set 3 c).set 4 e).set 5 p))), (2, vG 2 g), (1, vB 0 []), (0, vA r1_63 n1_64 n1_65 n1_66 n1_67)]⟩) [0, 1, 2, 3, 4] [0] rfl hK pq3 ⟨⟨_, rfl, rfl, rfl, (aC _ (a ++ [d])).symm⟩, ⟨_, rfl, rfl, rfl, (vK _ (((b.set 3 c).set 4 e).set 5 p)).symm⟩, (pqo3 rfl rfl rfl rfl rfl rfl)⟩ rfl <| gDs [2] 7 8 rfl (by kernel_rfl) (by kernel_rfl) ?_
 refine gDr [(0, 2), (1, 3), (2, 0)] (by kernel_rfl) rfl rfl ?_
 obtain ⟨k, r1_70, n1_71, n1_72, n1_73, n1_74, hs64, h⟩ := h
 refine gDCY 3 hs64 [0] rfl ?_
 refine gDr [(4, 0)] (by kernel_rfl) rfl rfl <| gHR 7 (kidsV [k]) rfl (cI k) rfl ?_
 obtain ⟨hb, h⟩ := h
 refine aP 5 (.repl 4 (.row 25 4 (kidsV ((a ++ [d]) ++ [k])))) rfl (by kernel_rfl) (bm ab rfl rfl rfl rfl rfl (bC (a ++ [d]) [k]).symm (by rw [aG]; exact hb)) (okR rfl) rfl (by kernel_rfl) rfl rfl ?_
 refine gDr [(6, 0), (7, 1)] (by kernel_rfl) rfl rfl <| gDe (by kernel_rfl) <| gR 8 rfl <| gFR 3 rfl (cb _ (fun _ => rfl) _) rfl rfl <| gFR 8 rfl (bo _) rfl rfl ?_
 obtain ⟨rfl, rfl, rfl, rfl, rfl, rfl⟩ := h
 refine go_sub (F' := (mkF 97 0 [(2, .ptr 1 0)])) (H' := ⟨2, [(1, vF ((Tree.node 2 g (((b.set 3 c).set 4 e).set 5 p) ((a ++ [d]) ++ [k])).kind) ((Tree.node 2 g (((b.set 3 c).set 4 e).set 5 p) ((a ++ [d]) ++ [k])).text) ((Tree.node 2 g (((b.set 3 c).set 4 e).set 5 p) ((a ++ [d]) ++ [k])).leads) ((Tree.node 2 g (((b.set 3 c).set 4 e).set 5 p) ((a ++ [d]) ++ [k])).kids)), (0, vA r1_70 n1_71 n1_72 n1_73 n1_74)]⟩) [0, 1] [0] rfl hK pq1 (pqo2 rfl rfl rfl rfl) rfl ?_
 exact go_endD [1] ab (rs := [.cell 2 25]) rfl rfl ⟨rfl, rfl⟩
def ci (m : Nat) (k l n : List UInt8) (o : List GToken) (p q r s : Int) (t : List Tree) (e : Int) (f : List UInt8) (d : (List (List UInt8))) (g : List Tree) (a : List GToken) (b i c j : Int) : Prop := ∀ (K : Ctx) (j1 : Nat), av K [0] → m ≤ j1 → qLG K Tryz.f25 (fun u G => u = .agg [.int .i64 e, .str f, .sl 1, .row 4 (kidsV g)] ∧ G = ⟨3, [(1, .row 9 1 (List.map V.str d)), (0, vA a b i c j)]⟩) (cL (cK (cA (xJ (ac Tryz.f25))))) [.loop (cL (cK (cA (xJ (ac Tryz.f25))))) j1, .blk 0, .seq (xN (ac Tryz.f25))] 64 (mkF 64 0 [(0, .ptr 0 0), (2, .ptr 1 0), (3, .ptr 2 0)]) ⟨5, [(4, .row 25 4 (kidsV t)), (3, .row 9 1 (List.map V.str (((List.replicate 3 ([] : List UInt8)).set 0 k).set 1 n))), (2, vG 1 l), (1, vB 0 []), (0, vA o p q r s)]⟩
def gH (m : Nat) (k l n : List UInt8) (o : GToken) (p : List GToken) (q r s t : Int) (v : Bool) (x : List Tree) (e : Int) (f : List UInt8) (d : (List (List UInt8))) (g : List Tree) (a : List GToken) (b i c j : Int) : Prop := ∀ (K : Ctx) (j1 : Nat), av K [0] → m ≤ j1 → qLG K Tryz.f25 (fun u G => u = .agg [.int .i64 e, .str f, .sl 1, .row 4 (kidsV g)] ∧ G = ⟨3, [(1, .row 9 1 (List.map V.str d)), (0, vA a b i c j)]⟩) (cB (xE (xE (cL (cK (cA (xJ (ac Tryz.f25)))))))) [.blk 2, .blk 1, .loop (cL (cK (cA (xJ (ac Tryz.f25))))) j1, .blk 0, .seq (xN (ac Tryz.f25))] 64 (mkF 64 0 [(0, .ptr 0 0), (2, .ptr 1 0), (3, .ptr 2 0), (4, .str o.Text), (37, .bool v)]) ⟨5, [(4, .row 25 4 (kidsV x)), (3, .row 9 1 (List.map V.str (((List.replicate 3 ([] : List UInt8)).set 0 k).set 1 n))), (2, vG 1 l), (1, vB 0 []), (0, vA p q r s t)]⟩
theorem px (m : Nat) (b : List GToken) (c g d n t : Int) (v : List UInt8) (l : (List (List UInt8))) (x : List Tree) (i : List GToken) (j y k z : Int) (h : 3 ≤ 1000000000 ∧ ∃ a α β γ δ ε, ay b c g d n [109, 111, 100, 117, 108, 101] a α β γ δ ε ∧ ∃ θ, (List.replicate 3 ([] : List UInt8))[0]? = some θ ∧ ∃ ζ e o p q r s, cm α β γ δ ε 2 2 ζ e o p q r s ∧ ∃ η, ((List.replicate 3 ([] : List UInt8)).set 0 a)[1]? = some η ∧ ci m a ζ e o p q r s ([] : List Tree) t v l x i j y k z) : ia b c g d n t v l x i j y k z := by
 refine am 64 [0] Tryz.func25 rfl rfl rfl (aM rfl) fun K hK => ?_
 refine gR 7 rfl ?_
 obtain ⟨hb, h⟩ := h
 refine gDo (.new (.row 9 1 (List.replicate 3 (.str [])))) (dMk ab rfl rfl rfl rfl rfl rfl rfl (by kernel_rfl) hb) trivial rfl rfl rfl <| gHR 2 (List.map V.str (List.replicate 3 ([] : List UInt8))) rfl (by first | (simp only [bk, List.map_replicate]; done) | (simp only [bk, List.map_replicate]; rfl)) rfl <| gR 6 rfl <| go_sub (F' := (mkF 64 0 [(0, .ptr 0 0), (2, .ptr 1 0), (3, .ptr 2 0)])) (H' := ⟨4, [(3, .row 9 1 (List.map V.str (List.replicate 3 ([] : List UInt8)))), (2, vH 1 []), (1, vB 0 []), (0, vA b c g d n)]⟩) [0, 1, 3, 2] [0] rfl hK pq3 ⟨⟨_, rfl, rfl, rfl, (vK _ (List.replicate 3 ([] : List UInt8))).symm⟩, (pqo3 rfl rfl rfl rfl rfl rfl)⟩ rfl ?_
 refine gDs [2] 5 6 rfl (by kernel_rfl) (by kernel_rfl) ?_
 refine gDr [(0, 2), (1, 3), (2, 0)] (by kernel_rfl) rfl rfl ?_
 obtain ⟨a, α, β, γ, δ, ε, hs33, h⟩ := h
 refine gDCY 3 hs33 [0] rfl ?_
 obtain ⟨θ, hxs0_7, h⟩ := h
 refine bA 4 rfl (by kernel_rfl) (yIO ab rfl rfl rfl rfl (by have := (mapget (f := V.str) hxs0_7); exact (List.getElem?_eq_some_iff.1 this).1)) rfl rfl ?_
 refine aP 5 (.set 3 (.row 9 1 (List.map V.str ((vN 3).set 0 a)))) rfl (by kernel_rfl) (dSe ab rfl rfl rfl rfl (mapget (f := V.str) hxs0_7) rfl (cg V.str (List.replicate 3 ([] : List UInt8)) 0 a)) (okS rfl) rfl (by kernel_rfl) rfl rfl ?_
 refine gDe (by kernel_rfl) <| gR 2 rfl <| go_sub (F' := (mkF 64 0 [(0, .ptr 0 0), (2, .ptr 1 0), (3, .ptr 2 0)])) (H' := ⟨4, [(3, .row 9 1 (List.map V.str ((vN 3).set 0 a))), (2, vH 1 []), (1, vB 0 []), (0, vA α β γ δ ε)]⟩) [0, 1, 2, 3] [0] rfl hK pq3 ⟨⟨_, rfl, rfl, rfl, (vK _ ((vN 3).set 0 a)).symm⟩, (pqo3 rfl rfl rfl rfl rfl rfl)⟩ rfl <| gDs [2] 8 11 rfl (by kernel_rfl) (by kernel_rfl) <| gDr [(0, 2), (1, 3), (2, 0)] (by kernel_rfl) rfl rfl ?_
 obtain ⟨ζ, e, o, p, q, r, s, hs34, h⟩ := h
 refine gDCY 3 hs34 [0] rfl ?_
 refine gDr [(4, 0), (5, 2), (6, 2), (7, 0), (8, 1)] (by kernel_rfl) rfl rfl ?_
 obtain ⟨η, hxs0_15, h⟩ := h
 refine bA 9 rfl (by kernel_rfl) (yIO ab rfl rfl rfl rfl (by have := (mapget (f := V.str) hxs0_15); exact (List.getElem?_eq_some_iff.1 this).1)) rfl rfl ?_
 refine aP 10 (.set 3 (.row 9 1 (List.map V.str (((vN 3).set 0 a).set 1 e)))) rfl (by kernel_rfl) (dSe ab rfl rfl rfl rfl (mapget (f := V.str) hxs0_15) rfl (cg V.str ((vN 3).set 0 a) 1 e)) (okS rfl) rfl (by kernel_rfl) rfl rfl ?_
 exact gDe (by kernel_rfl) <| gR 1 rfl <| go_sub (F' := (mkF 64 0 [(0, .ptr 0 0), (2, .ptr 1 0), (3, .ptr 2 0)])) (H' := ⟨4, [(3, .row 9 1 (List.map V.str (((vN 3).set 0 a).set 1 e))), (2, vH 1 ζ), (1, vB 0 []), (0, vA o p q r s)]⟩) [0, 1, 2, 3] [0] rfl hK pq3 ⟨⟨_, rfl, rfl, rfl, (vK _ (((vN 3).set 0 a).set 1 e)).symm⟩, (pqo3 rfl rfl rfl rfl rfl rfl)⟩ rfl <| gR 2 rfl <| go_loop m <| gNC 2 3 25 4 rfl rfl rfl rfl <| gJ (h K _ hK (by omega)) [0, 1, 2, 3, 4] [0] rfl hK pq3 ⟨⟨_, rfl, rfl, rfl, rfl⟩, ⟨_, rfl, rfl, rfl, (vK _ (((vN 3).set 0 a).set 1 e)).symm⟩, (pqo3 rfl rfl rfl rfl rfl rfl)⟩ rfl
theorem gl (m : Nat) (k r l : List UInt8) (o : List GToken) (s t v x : Int) (p : List Tree) (e : Int) (f : List UInt8) (d : (List (List UInt8))) (g : List Tree) (a : List GToken) (b i c n : Int) (h : ((0 < (o.length : Int)) → ∃ q y z α β γ, aH o s t v x q y z α β γ ∧ ((q.Text ≠ [100, 101, 102]) → gH m k r l q y z α β γ (q.Text != [116, 121, 112, 101]) p e f d g a b i c n) ∧ ((q.Text = [100, 101, 102]) → gH m k r l q y z α β γ false p e f d g a b i c n)) ∧ ((¬ 0 < (o.length : Int)) → 1 = e ∧ r = f ∧ (((List.replicate 3 ([] : List UInt8)).set 0 k).set 1 l) = d ∧ p = g ∧ o = a ∧ s = b ∧ t = i ∧ v = c ∧ x = n)) : ci (m + 1) k r l o s t v x p e f d g a b i c n := by
 intro K j1 hK hj1
 obtain ⟨j1, rfl⟩ : ∃ j, j1 = j + 1 := ⟨j1 - 1, by omega⟩
 refine gR 8 rfl <| gV 25 (.int .i64 (o.length : Int)) rfl (bx (aZ GToken.w _)) rfl <| gLB 24 rfl (aZ GToken.w _) fun hl35 => gR 3 rfl <| gB 26 rfl rfl rfl ?_ ?_ <;> intro hd
 replace hd := (of_decide_eq_true hd)
 replace h := h.1 hd
 refine gR 7 rfl ?_
 obtain ⟨q, y, z, α, β, γ, hs36, h⟩ := h
 refine gCY hs36 [0] ?_
 refine gR 10 rfl <| gB 40 rfl rfl rfl ?_ ?_ <;> intro hd
 refine gT 39 rfl hd rfl ?_
 replace hd := (fh hd)
 replace h := h.1 hd
 exact gR 6 rfl <| gJ (h K _ hK (by omega)) [0, 1, 2, 3, 4] [0] rfl hK pq5 ⟨⟨_, rfl, rfl, rfl, (aC _ p).symm⟩, ⟨_, rfl, rfl, rfl, (vK _ (((vN 3).set 0 k).set 1 l)).symm⟩, (pqo3 rfl rfl rfl rfl rfl rfl)⟩ rfl
 refine gF 39 rfl hd rfl ?_
 replace hd := (dz hd)
 replace h := h.2 hd
 exact gR 6 rfl <| gJ (h K _ hK (by omega)) [0, 1, 2, 3, 4] [0] rfl hK pq5 ⟨⟨_, rfl, rfl, rfl, (aC _ p).symm⟩, ⟨_, rfl, rfl, rfl, (vK _ (((vN 3).set 0 k).set 1 l)).symm⟩, (pqo3 rfl rfl rfl rfl rfl rfl)⟩ rfl
 replace hd := (of_decide_eq_false hd)
 replace h := h.2 hd
 refine gR 3 rfl <| go_xloopE <| gR 9 rfl <| gFR 4 rfl (bo _) rfl rfl ?_
 obtain ⟨rfl, rfl, rfl, rfl, rfl, rfl, rfl, rfl, rfl⟩ := h
 exact go_sub (F' := (mkF 64 0 [(2, .ptr 2 0)])) (H' := ⟨3, [(2, .var 25 [.int .i64 1, .str r, .sl 1, .row 4 (kidsV p)]), (1, .row 9 1 (List.map V.str (((vN 3).set 0 k).set 1 l))), (0, vA o s t v x)]⟩) [0, 3, 1] [0] rfl hK pq1 ⟨pqo rfl rfl, ⟨_, rfl, rfl, rfl, (vK _ (((vN 3).set 0 k).set 1 l)).symm⟩, (pqo1 rfl rfl)⟩ rfl <| go_endD [2] ab (rs := [.cell 2 25]) rfl rfl ⟨rfl, rfl⟩
theorem kw (m : Nat) (e r f : List UInt8) (μ : GToken) (s : List GToken) (t v x y : Int) (ν : Bool) (a : List Tree) (l : Int) (n : List UInt8) (g : (List (List UInt8))) (o : List Tree) (b : List GToken) (c p d q : Int) (h : ((ν = true) → ∃ ξ ο π τ υ, bX s t v x y 2 ξ ο π τ υ ∧ ci m e r f ξ ο π τ υ a l n g o b c p d q) ∧ ((ν = false) → (((a.length : Int) = 40) → ∃ φ χ ψ ω z, bX s t v x y 3 φ χ ψ ω z ∧ ci m e r f φ χ ψ ω z a l n g o b c p d q) ∧ (((a.length : Int) ≠ 40) → ((μ.Text = [100, 101, 102]) → ∃ i α β γ δ ε, gc s t v x y i α β γ δ ε ∧ (a ++ [i]).length ≤ 1000000000 ∧ ci m e r f α β γ δ ε (a ++ [i]) l n g o b c p d q) ∧ ((μ.Text ≠ [100, 101, 102]) → ∃ k ζ η θ ι κ, iY s t v x y k ζ η θ ι κ ∧ (a ++ [k]).length ≤ 1000000000 ∧ ci m e r f ζ η θ ι κ (a ++ [k]) l n g o b c p d q)))) : gH (m + 1) e r f μ s t v x y ν a l n g o b c p d q := by
 intro K j1 hK hj1
 obtain ⟨j1, rfl⟩ : ∃ j, j1 = j + 1 := ⟨j1 - 1, by omega⟩
 refine gB 37 rfl rfl rfl ?_ ?_ <;> intro hd
 replace h := h.1 hd
 refine gR 3 rfl ?_
 obtain ⟨ξ, ο, π, τ, υ, hs37, h⟩ := h
 refine gCY hs37 [0] ?_
 exact gR 3 rfl <| go_xloop <| gJ (h K _ hK (by omega)) [0, 1, 2, 3, 4] [0] rfl hK pq3 ⟨⟨_, rfl, rfl, rfl, (aC _ a).symm⟩, ⟨_, rfl, rfl, rfl, (vK _ (((vN 3).set 0 e).set 1 f)).symm⟩, (pqo3 rfl rfl rfl rfl rfl rfl)⟩ rfl
 replace h := h.2 hd
 refine gR 6 rfl <| gV 49 (.int .i64 (a.length : Int)) rfl (bx (aG _)) rfl <| gLO 4 rfl (aG _) fun hl38 => gR 4 rfl <| gB 46 rfl rfl rfl ?_ ?_ <;> intro hd
 refine gT 50 rfl hd rfl ?_
 replace hd := (eq_of_beq hd)
 replace h := h.1 hd
 refine gR 3 rfl ?_
 obtain ⟨φ, χ, ψ, ω, z, hs39, h⟩ := h
 refine gCY hs39 [0] ?_
 exact gR 3 rfl <| go_xloop <| gJ (h K _ hK (by omega)) [0, 1, 2, 3, 4] [0] rfl hK pq3 ⟨⟨_, rfl, rfl, rfl, (aC _ a).symm⟩, ⟨_, rfl, rfl, rfl, (vK _ (((vN 3).set 0 e).set 1 f)).symm⟩, (pqo3 rfl rfl rfl rfl rfl rfl)⟩ rfl
 refine gF 50 rfl hd rfl ?_
 replace hd := (ne_of_beq_false hd)
 replace h := h.2 hd
 refine gR 8 rfl <| gB 53 rfl rfl rfl ?_ ?_ <;> intro hd
 refine gT 55 rfl hd rfl ?_
 replace hd := (eq_of_beq hd)
 replace h := h.1 hd
 refine gR 1 rfl <| go_sub (F' := (mkF 64 0 [(0, .ptr 0 0), (2, .ptr 1 0), (3, .ptr 2 0)])) (H' := ⟨5, [(4, .row 25 4 (kidsV a)), (3, .row 9 1 (List.map V.str (((vN 3).set 0 e).set 1 f))), (2, vG 1 r), (1, vB 0 []), (0, vA s t v x y)]⟩) [0, 1, 2, 3, 4] [0] rfl hK pq3 ⟨⟨_, rfl, rfl, rfl, (aC _ a).symm⟩, ⟨_, rfl, rfl, rfl, (vK _ (((vN 3).set 0 e).set 1 f)).symm⟩, (pqo3 rfl rfl rfl rfl rfl rfl)⟩ rfl <| gDs [2] 7 8 rfl (by kernel_rfl) (by kernel_rfl) ?_
 refine gDr [(0, 2), (1, 3), (2, 0)] (by kernel_rfl) rfl rfl ?_
 obtain ⟨i, α, β, γ, δ, ε, hs40, h⟩ := h
 refine gDCY 3 hs40 [0] rfl ?_
 refine gDr [(4, 0)] (by kernel_rfl) rfl rfl <| gHR 7 (kidsV [i]) rfl (cI i) rfl ?_
 obtain ⟨hb, h⟩ := h
 refine aP 5 (.repl 4 (.row 25 4 (kidsV (a ++ [i])))) rfl (by kernel_rfl) (bm ab rfl rfl rfl rfl rfl (bC a [i]).symm (by rw [aG]; exact hb)) (okR rfl) rfl (by kernel_rfl) rfl rfl ?_
 exact gDr [(6, 0), (7, 1)] (by kernel_rfl) rfl rfl <| gDe (by kernel_rfl) <| gR 2 rfl <| go_xloop <| gJ (h K _ hK (by omega)) [0, 1, 2, 3, 8] [0] rfl hK pq3 ⟨⟨_, rfl, rfl, rfl, (aC _ (a ++ [i])).symm⟩, ⟨_, rfl, rfl, rfl, (vK _ (((vN 3).set 0 e).set 1 f)).symm⟩, (pqo3 rfl rfl rfl rfl rfl rfl)⟩ rfl
 refine gF 55 rfl hd rfl ?_
 replace hd := (ne_of_beq_false hd)
 replace h := h.2 hd
 refine gR 1 rfl <| go_sub (F' := (mkF 64 0 [(0, .ptr 0 0), (2, .ptr 1 0), (3, .ptr 2 0)])) (H' := ⟨5, [(4, .row 25 4 (kidsV a)), (3, .row 9 1 (List.map V.str (((vN 3).set 0 e).set 1 f))), (2, vG 1 r), (1, vB 0 []), (0, vA s t v x y)]⟩) [0, 1, 2, 3, 4] [0] rfl hK pq3 ⟨⟨_, rfl, rfl, rfl, (aC _ a).symm⟩, ⟨_, rfl, rfl, rfl, (vK _ (((vN 3).set 0 e).set 1 f)).symm⟩, (pqo3 rfl rfl rfl rfl rfl rfl)⟩ rfl <| gDs [2] 7 8 rfl (by kernel_rfl) (by kernel_rfl) ?_
 refine gDr [(0, 2), (1, 3), (2, 0)] (by kernel_rfl) rfl rfl ?_
 obtain ⟨k, ζ, η, θ, ι, κ, hs41, h⟩ := h
 refine gDCY 3 hs41 [0] rfl ?_
 refine gDr [(4, 0)] (by kernel_rfl) rfl rfl <| gHR 7 (kidsV [k]) rfl (cI k) rfl ?_
 obtain ⟨hb, h⟩ := h
 refine aP 5 (.repl 4 (.row 25 4 (kidsV (a ++ [k])))) rfl (by kernel_rfl) (bm ab rfl rfl rfl rfl rfl (bC a [k]).symm (by rw [aG]; exact hb)) (okR rfl) rfl (by kernel_rfl) rfl rfl ?_
 exact gDr [(6, 0), (7, 1)] (by kernel_rfl) rfl rfl <| gDe (by kernel_rfl) <| gR 2 rfl <| go_xloop <| gJ (h K _ hK (by omega)) [0, 1, 2, 3, 8] [0] rfl hK pq3 ⟨⟨_, rfl, rfl, rfl, (aC _ (a ++ [k])).symm⟩, ⟨_, rfl, rfl, rfl, (vK _ (((vN 3).set 0 e).set 1 f)).symm⟩, (pqo3 rfl rfl rfl rfl rfl rfl)⟩ rfl
def ni (m : Nat) (p0 : List UInt8) (a : List GToken) (b : List UInt8) (c : Nat) (r0 : Tree) (r1 r2 : Int) : Prop := ∀ (K : Ctx), av K [] → qLG K Tryz.f9 (fun u _ => u = .tup [.agg (ai r0), .int .i64 r1, .int .i64 r2]) (xJ (xA (ac Tryz.f9))) [] 68 (mkF 68 0 [(2, .ptr 0 0), (6, .str b), (7, .ptr 1 0)]) ⟨2, [(1, vA a (c : Int) (p0.length : Int) 0 0), (0, vB 0 [])]⟩
theorem uA (m : Nat) (p0 : List UInt8) (r0 : Tree) (r1 r2 : Int) (h : ∃ a c d b, uu p0 a c d b ∧ ((b ≠ 0) → (Tree.node 0 [] [] []) = r0 ∧ d = r1 ∧ b = r2) ∧ ((b = 0) → ((0 < (a.length : Int)) → ∃ e, a[0]? = some e ∧ ni m p0 a c e.Lead.length r0 r1 r2) ∧ ((¬ 0 < (a.length : Int)) → ni m p0 a c p0.length r0 r1 r2))) : gb p0 r0 r1 r2 := by
 refine ⟨rfl, rfl, ?_⟩
 refine am 68 [] Tryz.func9 rfl rfl rfl (aM rfl) fun K hK => ?_
 refine gR 10 rfl ?_
 obtain ⟨a, c, d, b, hs13, h⟩ := h
 refine gC0 hs13 (by kernel_rfl) rfl rfl .rfl rfl <| gR 11 rfl <| go_sub (F' := (mkF 68 0 [(0, .str p0), (2, .ptr 0 0), (3, .int .i64 d), (4, .int .i64 b), (5, .row 3 (List.map GToken.w a)), (6, .str c)])) (H' := ⟨1, [(0, vB 0 [])]⟩) [0] [] rfl hK pq6 (pqo1 rfl rfl) rfl <| gR 7 rfl <| qBh 16 rfl rfl rfl h fh dz (fun h => ?_) fun h => ?_
 refine gR 13 rfl ?_
 obtain ⟨rfl, rfl, rfl⟩ := h
 exact go_sub (F' := (mkF 68 0 [(2, .ptr 0 0), (3, .int .i64 d), (4, .int .i64 b)])) (H' := ⟨1, [(0, vF ((Tree.node 0 [] [] []).kind) ((Tree.node 0 [] [] []).text) ((Tree.node 0 [] [] []).leads) ((Tree.node 0 [] [] []).kids))]⟩) [0] [] rfl hK pq3 ⟨⟨_, rfl, rfl, (.cons .rfl (.cons .rfl (.cons (.nil 1) (.cons (.nil 4) .nil))))⟩, trivial⟩ rfl <| go_end ab (rs := [.cell 2 25, .tmp 3, .tmp 4]) rfl rfl rfl
 refine gR 25 rfl <| go_sub (F' := (mkF 68 0 [(2, .ptr 0 0), (5, .row 3 (List.map GToken.w a)), (6, .str c), (7, .ptr 1 0)])) (H' := ⟨2, [(1, vA a (p0.length : Int) (p0.length : Int) 0 0), (0, vB 0 [])]⟩) [0, 1] [] rfl hK pq4 (pqo2 rfl rfl rfl rfl) rfl <| gR 5 rfl <| gV 33 (.int .i64 (a.length : Int)) rfl (bx (aZ GToken.w _)) rfl <| gLB 32 rfl (aZ GToken.w _) fun hl14 => gR 3 rfl <| qBd 34 rfl rfl rfl h (fun h => ?_) fun h => ?_
 refine gR 4 rfl ?_
 obtain ⟨e, hxx0_5, h⟩ := h
 exact gY (az (mapget (f := GToken.w) hxx0_5) ab rfl rfl rfl rfl) rfl rfl <| gR 8 rfl <| gJ (h K hK) [0, 1] [] rfl hK pq3 (pqo2 rfl rfl rfl rfl) rfl
 exact gR 3 rfl <| gJ (h K hK) [0, 1] [] rfl hK pq3 (pqo2 rfl rfl rfl rfl) rfl
theorem tJ (m : Nat) (p0 : List UInt8) (p : List GToken) (e : List UInt8) (q : Nat) (r0 : Tree) (r1 r2 : Int) (h : ∃ b c a d k l n g j, ia p (q : Int) (p0.length : Int) 0 0 b c a d k l n g j ∧ ((g ≠ 0) → (Tree.node 0 [] [] []) = r0 ∧ j = r1 ∧ g = r2) ∧ ((g = 0) → ∃ i, fY (Tree.node b c a d) i ∧ ((40 < i) → (Tree.node 0 [] [] []) = r0 ∧ 0 = r1 ∧ 4 = r2) ∧ ((¬ 40 < i) → ∃ o, a[2]? = some o ∧ (Tree.node b c (a.set 2 e) d) = r0 ∧ 0 = r1 ∧ 0 = r2))) : ni (m + 1) p0 p e q r0 r1 r2 := by
 intro K hK
 refine gR 3 rfl ?_
 obtain ⟨b, c, a, d, k, l, n, g, j, hs15, h⟩ := h
 refine gCY hs15 [1] ?_
 refine gHR 3 (List.map V.str a) rfl (vK _ a) rfl <| gR 13 rfl <| qBh 49 rfl rfl rfl h fh dz (fun h => ?_) fun h => ?_
 refine gR 2 rfl <| go_sub (F' := (mkF 68 0 [(2, .ptr 0 0), (7, .ptr 1 0)])) (H' := ⟨3, [(2, .row 9 1 (List.map V.str a)), (1, vA k l n g j), (0, .var 25 [.int .i64 b, .str c, .sl 2, .row 4 (kidsV d)])]⟩) [0, 1, 3] [] rfl hK pq2 ⟨⟨_, rfl, rfl, rfl, (vK _ a).symm⟩, (pqo2 rfl rfl rfl rfl)⟩ rfl <| gDs [1] 11 12 rfl (by kernel_rfl) (by kernel_rfl) <| gDr [(0, 2), (1, 2), (2, 2), (3, 2), (4, 3), (5, 2), (6, 2), (7, 2), (8, 3), (9, 0), (10, 0), (11, 1)] (by kernel_rfl) rfl rfl <| gDe (by kernel_rfl) <| gR 3 rfl ?_
 obtain ⟨rfl, rfl, rfl⟩ := h
 exact go_sub (F' := (mkF 68 0 [(2, .ptr 0 0), (3, .int .i64 j), (4, .int .i64 g)])) (H' := ⟨1, [(0, vF ((Tree.node 0 [] [] []).kind) ((Tree.node 0 [] [] []).text) ((Tree.node 0 [] [] []).leads) ((Tree.node 0 [] [] []).kids))]⟩) [0] [] rfl hK pq3 ⟨⟨_, rfl, rfl, (.cons .rfl (.cons .rfl (.cons (.nil 1) (.cons (.nil 4) .nil))))⟩, trivial⟩ rfl <| go_end ab (rs := [.cell 2 25, .tmp 3, .tmp 4]) rfl rfl rfl
 refine gR 7 rfl ?_
 obtain ⟨i, hs16, h⟩ := h
 refine gCL 3 hs16 (by kernel_rfl) rfl rfl rfl (cb _ (fun _ => rfl) _) rfl ?_
 refine gR 3 rfl <| qBd 61 rfl rfl rfl h (fun h => ?_) fun h => ?_
 refine gR 1 rfl <| go_sub (F' := (mkF 68 0 [(2, .ptr 0 0)])) (H' := ⟨2, [(1, .row 9 1 (List.map V.str a)), (0, .var 25 [.int .i64 b, .str c, .sl 1, .row 4 (kidsV d)])]⟩) [0, 3] [] rfl hK pq1 ⟨⟨_, rfl, rfl, rfl, (vK _ a).symm⟩, (pqo1 rfl rfl)⟩ rfl <| gR 10 rfl ?_
 obtain ⟨rfl, rfl, rfl⟩ := h
 exact go_sub (F' := (mkF 68 0 [(2, .ptr 0 0), (3, .int .i64 0), (4, .int .i64 4)])) (H' := ⟨1, [(0, vF ((Tree.node 0 [] [] []).kind) ((Tree.node 0 [] [] []).text) ((Tree.node 0 [] [] []).leads) ((Tree.node 0 [] [] []).kids))]⟩) [0] [] rfl hK pq3 ⟨⟨_, rfl, rfl, (.cons .rfl (.cons .rfl (.cons (.nil 1) (.cons (.nil 4) .nil))))⟩, trivial⟩ rfl <| go_end ab (rs := [.cell 2 25, .tmp 3, .tmp 4]) rfl rfl rfl
 refine gR 3 rfl <| go_sub (F' := (mkF 68 0 [(2, .ptr 0 0), (6, .str e)])) (H' := ⟨2, [(1, .row 9 1 (List.map V.str a)), (0, .var 25 [.int .i64 b, .str c, .sl 1, .row 4 (kidsV d)])]⟩) [0, 3] [] rfl hK pq2 ⟨⟨_, rfl, rfl, rfl, (vK _ a).symm⟩, (pqo1 rfl rfl)⟩ rfl <| gR 5 rfl ?_
 obtain ⟨o, hxs1_11, h⟩ := h
 refine gY (yIO ab rfl rfl rfl rfl (by have := (mapget (f := V.str) hxs1_11); exact (List.getElem?_eq_some_iff.1 this).1)) rfl rfl ?_
 refine gDo (.set 1 (.row 9 1 (List.map V.str (a.set 2 e)))) (dSe ab rfl rfl rfl rfl (mapget (f := V.str) hxs1_11) rfl (cg V.str a 2 e)) (okS rfl) rfl rfl rfl <| gR 11 rfl <| gFR 1 rfl (cb _ (fun _ => rfl) _) rfl rfl ?_
 obtain ⟨rfl, rfl, rfl⟩ := h
 exact go_sub (F' := (mkF 68 0 [(2, .ptr 0 0), (3, .int .i64 0), (4, .int .i64 0)])) (H' := ⟨1, [(0, vF ((Tree.node b c (a.set 2 e) d).kind) ((Tree.node b c (a.set 2 e) d).text) ((Tree.node b c (a.set 2 e) d).leads) ((Tree.node b c (a.set 2 e) d).kids))]⟩) [0] [] rfl hK pq3 (pqo1 rfl rfl) rfl <| go_end ab (rs := [.cell 2 25, .tmp 3, .tmp 4]) rfl rfl rfl
def wA : List TokZ → Nat
 | [] => 0
 | t :: r => t.lead.length + t.text.length + wA r
def wT : List TokZ → Nat
 | [] => 0
 | t :: r => t.text.length + wA r
def Iv (ts : List TokZ) (off : Int) : Prop := 0 ≤ off ∧ off + wT ts ≤ 4000000000
def Ok {α : Type} (S : List GToken → Int → Int → Int → Int → α → List GToken → Int → Int → Int → Int → Prop) (a : List TokZ) (x : α) (b : List TokZ) : Prop :=
 ∀ off sz at_, Iv a off → 0 ≤ sz → sz ≤ 4000000000 → ∃ off', S (a.map gTk) off sz 0 at_ x (b.map gTk) off' sz 0 at_ ∧ Iv b off'
theorem CO (t : TokZ) (r : List TokZ) : wA (t :: r) = t.lead.length + wT (t :: r) := by simp only [wA, wT]; omega
theorem cq {t : TokZ} {r : List TokZ} {o s f a : Int} : aH ((t :: r).map gTk) o s f a (gTk t) ((t :: r).map gTk) o s f a :=
 rS_syntax_parser_next 0 _ _ _ _ _ _ _ _ _ _ _ ⟨fun h => by simp at h; omega, fun _ => ⟨gTk t, rfl, rfl, rfl, rfl, rfl, rfl, rfl⟩⟩
theorem BY {o s f a : Int} : aH (([] : List TokZ).map gTk) o s f a (GToken.mk 0 [] []) (([] : List TokZ).map gTk) o s f a :=
 rS_syntax_parser_next 0 _ _ _ _ _ _ _ _ _ _ _ ⟨fun _ => ⟨rfl, rfl, rfl, rfl, rfl, rfl⟩, fun h => absurd rfl h⟩
def hdT (l : List TokZ) : GToken := (l.map gTk).headD (GToken.mk 0 [] [])
theorem nM {l : List TokZ} {o s f a : Int} : aH (l.map gTk) o s f a (hdT l) (l.map gTk) o s f a := by
 cases l with
 | nil => exact BY
 | cons t r => exact cq
theorem fC (t : TokZ) (r : List TokZ) : Ok (fun a o s f z (x : GToken) b o' s' f' z' => aI a o s f z x b o' s' f' z') (t :: r) (gTk t) r := fun off sz at_ hi h0 h1 => by
 obtain ⟨i0, i1⟩ := hi
 cases r with
 | nil => exact ⟨sz, mq 0 _ _ _ _ _ _ _ _ _ _ _ ⟨gTk t, rfl, by simp, fun _ => ⟨rfl, rfl, rfl, rfl, rfl, rfl⟩, fun h => absurd rfl h⟩, h0, by simp only [wT]; omega⟩
 | cons u r =>
  rw [wT, CO] at i1
  have e : (t.text.length + u.lead.length : Nat) = t.text.length + u.lead.length := rfl
  refine ⟨off + ((t.text.length + u.lead.length : Nat) : Int), mq 0 _ _ _ _ _ _ _ _ _ _ _ ⟨gTk t, rfl, by simp, fun h => ?_, fun _ => ⟨gTk u, rfl, ?_, ?_, rfl, rfl, rfl, rfl, rfl, rfl⟩⟩, by omega, by omega⟩
  ·simp at h; omega
  ·show t.text.length + u.lead.length ≤ _; omega
  ·show InI (off + ((t.text.length + u.lead.length : Nat) : Int)); constructor <;> omega
abbrev Pw (w : List UInt8) := fun (a : List GToken) (o s f z : Int) (x : List UInt8) (b : List GToken) (o' s' f' z' : Int) => ay a o s f z w x b o' s' f' z'
abbrev Pn (k o2 : Int) := fun (a : List GToken) (o s f z : Int) (x : List UInt8 × List UInt8) (b : List GToken) (o' s' f' z' : Int) => cm a o s f z k o2 x.1 x.2 b o' s' f' z'
theorem cC {w : List UInt8} {t : TokZ} {r : List TokZ} (h : t.text = w) : Ok (Pw w) (t :: r) t.lead r := fun off sz at_ hi h0 h1 => by
 obtain ⟨o', hs, hi'⟩ := fC t r off sz at_ hi h0 h1
 exact ⟨o', qH 0 _ _ _ _ _ _ _ _ _ _ _ _ ⟨_, _, _, _, _, _, cq, fun h' => absurd h h', fun _ => ⟨_, _, _, _, _, _, hs, rfl, rfl, rfl, rfl, rfl, rfl⟩⟩, hi'⟩
theorem oG {k o2 : Int} {t : TokZ} {r : List TokZ} (hk : t.kind = k ∨ t.kind = o2) (h0' : t.kind ≠ 0) : Ok (Pn k o2) (t :: r) (t.text, t.lead) r := fun off sz at_ hi h0 h1 => by
 obtain ⟨o', hs, hi'⟩ := fC t r off sz at_ hi h0 h1
 refine ⟨o', qL 0 _ _ _ _ _ _ _ _ _ _ _ _ _ _ ⟨_, _, _, _, _, _, cq, fun h' => absurd h' h0', fun _ => ⟨fun h1 => ⟨fun h2 => ?_, fun _ => ⟨_, _, _, _, _, _, hs, rfl, rfl, rfl, rfl, rfl, rfl, rfl⟩⟩, fun _ => ⟨_, _, _, _, _, _, hs, rfl, rfl, rfl, rfl, rfl, rfl, rfl⟩⟩⟩, hi'⟩
 rcases hk with h | h
 ·exact absurd h h1
 ·exact absurd h h2
def ae : List UInt8 → List Pce → List UInt8
 | last, [] => last
 | _, p :: r => ae p.Text r
theorem bF : ∀ (a b : List Pce) (last : List UInt8), ae last (a ++ b) = ae (ae last a) b
 | [], b, last => rfl
 | p :: r, b, last => bF r b p.Text
theorem fz : ∀ (a b : List Pce) (last : List UInt8), tkA last (a ++ b) = tkA last a ++ tkA (ae last a) b
 | [], b, last => rfl
 | p :: r, b, last => by simp only [List.cons_append, tkA, ae, fz r b p.Text]
def bJ : List (List UInt8 → Tree) → List (List Pce) → Nat → List UInt8 → List Tree
 | f :: r, g :: s, i, last => f (if 0 < i then [44] else last) :: bJ r s (i + 1) (ae (if 0 < i then [44] else last) g)
 | _, _, _, _ => []
def ca (ls : List (List UInt8)) (c : Nat) : List (List Pce) → Nat → List UInt8 → List (List UInt8)
 | g :: s, i, last => (if 0 < i then [ah last (ls.getD (c + i - 1) []) [44]] else []) ++ ca ls c s (i + 1) (ae (if 0 < i then [44] else last) g)
 | [], _, _ => []
def fB : List (List UInt8 → Tree) → List (List Pce) → List UInt8 → List Tree
 | f :: r, g :: s, last => f last :: fB r s (ae last g)
 | _, _, _ => []
def spN (k : Int) (x : List UInt8) (ls : List (List UInt8)) (fs : List (List UInt8 → Tree)) (gs : List (List Pce)) (last : List UInt8) : Tree :=
 let L := fun i => ls.getD i []
 let F := fun (i : Nat) => fs.getD i (fun _ => .node 0 [] [] [])
 let G := fun (i : Nat) => gs.getD i []
 if k = 1 then .node 1 x [ah last (L 0) [109, 111, 100, 117, 108, 101], ah [109, 111, 100, 117, 108, 101] (L 1) x, L 2] (fB fs gs x)
 else if k = 2 then
  let n := gs.length
  .node 2 x ([ah last (L 0) [100, 101, 102], ah [100, 101, 102] (L 1) x, ah x (L 2) [40], ah (ae [40] (aw ls 6 (gs.take (n - 2)) 0)) (L 3) [41], ah [41] (L 4) [58], ah (ae [58] (G (n - 2))) (L 5) [61]] ++ ca ls 6 (gs.take (n - 2)) 0 [40]) (bJ (fs.take (n - 2)) (gs.take (n - 2)) 0 [40] ++ [F (n - 2) [58], F (n - 1) [61]])
 else if k = 3 then .node 3 x [ah last (L 0) [116, 121, 112, 101], ah [116, 121, 112, 101] (L 1) x, ah x (L 2) [61]] [F 0 [61]]
 else if k = 4 then .node 4 x [ah last (L 0) x, ah x (L 1) [58]] [F 0 [58]]
 else if k = 17 then .node 17 x [] [F 0 last]
 else if k = 8 then .node 8 x [ah last (L 0) [91], ah (ae [91] (G 0)) (L 1) [93]] [F 0 [91]]
 else if k = 16 then .node 16 x ([ah last (L 0) x, ah x (L 1) [40], ah (ae [40] (aw ls 3 gs 0)) (L 2) [41]] ++ ca ls 3 gs 0 [40]) (bJ fs gs 0 [40])
 else if k = 18 then .node 18 x ([ah last (L 0) [91], ah (ae [91] (aw ls 2 gs 0)) (L 1) [93]] ++ ca ls 2 gs 0 [91]) (bJ fs gs 0 [91])
 else if k = 19 then .node 19 x [ah last (L 0) [105, 102], ah (ae [105, 102] (G 0)) (L 1) [116, 104, 101, 110], ah (ae [116, 104, 101, 110] (G 1)) (L 2) [101, 108, 115, 101]] [F 0 [105, 102], F 1 [116, 104, 101, 110], F 2 [101, 108, 115, 101]]
 else if k = 20 then .node 20 x [ah last (L 0) [108, 101, 116], ah [108, 101, 116] (L 1) x, ah x (L 2) [61], ah (ae [61] (G 0)) (L 3) [105, 110]] [F 0 [61], F 1 [105, 110]]
 else if k = 21 then .node 21 x [ah (ae last (G 0)) (L 0) x] [F 0 last, F 1 x]
 else if k = 22 then .node 22 x [ah last (L 0) [40], ah (ae [40] (G 0)) (L 1) [41]] [F 0 [40]]
 else .node k x [ah last (L 0) (fX k x)] []
mutual
def spT : Tree → List UInt8 → Tree
 | .node k x ls ks => spN k x ls (spTs ks) (pcTs ks)
def spTs : List Tree → List (List UInt8 → Tree)
 | [] => []
 | t :: r => spT t :: spTs r
end
theorem gf (t : Tree) : spT t = spN t.kind t.text t.leads (spTs t.kids) (pcTs t.kids) := by cases t; simp only [spT]; rfl
theorem qX : ∀ ks : List Tree, spTs ks = ks.map spT
 | [] => rfl
 | t :: r => by simp [spTs, qX r]
theorem cX {ks : List Tree} {i : Nat} {u : Tree} (h : ks[i]? = some u) : (spTs ks).getD i (fun _ => .node 0 [] [] []) = spT u := by rw [List.getD_eq_getElem?_getD, qX, List.getElem?_map, h]; rfl
theorem bE {ks : List Tree} {i : Nat} {u : Tree} (h : ks[i]? = some u) : (pcTs ks).getD i [] = pcT u := by rw [List.getD_eq_getElem?_getD, dI h]; rfl
def tk (last lead x : List UInt8) : TokZ := ⟨aE x, ah last lead x, x⟩
theorem gk (last : List UInt8) (lead x : List UInt8) (r : List Pce) : tkA last (⟨lead, x⟩ :: r) = tk last lead x :: tkA x r := rfl
theorem mD (last : List UInt8) : tkA last [] = [] := rfl
theorem dH (last lead x : List UInt8) (r : List Pce) : ae last (⟨lead, x⟩ :: r) = ae x r := rfl
theorem eb {t : Tree} (hs : shapeK t = true) : dg t.kind t.text = true := by
 rw [gW] at hs
 simp only [Bool.and_eq_true] at hs
 exact hs.1.2
theorem gd {t : Tree} (hs : shapeK t = true) (h : t.kind = 5 ∨ t.kind = 6 ∨ t.kind = 7 ∨ t.kind = 8 ∨ t.kind = 13 ∨ t.kind = 14 ∨ t.kind = 15 ∨ t.kind = 17 ∨ t.kind = 18 ∨ t.kind = 19 ∨ t.kind = 22) : t.text = [] := by
 have := eb hs
 unfold dg at this
 rcases h with h | h | h | h | h | h | h | h | h | h | h <;> (rw [h] at this; simpa using this)
theorem dF {x y : List UInt8} {n : Nat} (h : aE x = n) (hy : aE y ≠ n) : x ≠ y := fun e => hy (by rw [← e]; exact h)
abbrev Pty := fun (a : List GToken) (o s f z : Int) (x : Tree) (b : List GToken) (o' s' f' z' : Int) => cU a o s f z x b o' s' f' z'
theorem uD : ∀ t : Tree, iH t.kind = true → shapeK t = true → ∀ last rest, Ok Pty (tkA last (pcT t) ++ rest) (spT t last) rest := bV fun t ih hk hs last rest => by
 have hn := bu hs
 have hk' : t.kind = 5 ∨ t.kind = 6 ∨ t.kind = 7 ∨ t.kind = 8 ∨ t.kind = 9 := by simp [iH] at hk; omega
 rw [gf, bg]
 rcases hk' with h | h | h | h | h
 ·rw [h, gd hs (by omega)]
  show Ok Pty (tk last (t.leads.getD 0 []) [73, 110, 116] :: rest) (.node 5 [] [ah last (t.leads.getD 0 []) [73, 110, 116]] []) rest
  intro off sz at_ hi h0 h1
  obtain ⟨o', q, hq⟩ := fC _ rest off sz at_ hi h0 h1
  exact ⟨o', dY 0 _ _ _ _ _ _ _ _ _ _ _ ⟨_, _, _, _, _, _, cq, fun _ => ⟨_, _, _, _, _, _, q, rfl, rfl, rfl, rfl, rfl, rfl⟩, fun e => absurd rfl e⟩, hq⟩
 ·rw [h, gd hs (by omega)]
  show Ok Pty (tk last (t.leads.getD 0 []) [84, 101, 120, 116] :: rest) (.node 6 [] [ah last (t.leads.getD 0 []) [84, 101, 120, 116]] []) rest
  intro off sz at_ hi h0 h1
  obtain ⟨o', q, hq⟩ := fC _ rest off sz at_ hi h0 h1
  exact ⟨o', dY 0 _ _ _ _ _ _ _ _ _ _ _ ⟨_, _, _, _, _, _, cq, fun e => absurd e (show ¬ ([84, 101, 120, 116] : List UInt8) = [73, 110, 116] by decide), fun _ => ⟨fun _ => ⟨_, _, _, _, _, _, q, rfl, rfl, rfl, rfl, rfl, rfl⟩, fun e => absurd rfl e⟩⟩, hq⟩
 ·rw [h, gd hs (by omega)]
  show Ok Pty (tk last (t.leads.getD 0 []) [66, 111, 111, 108] :: rest) (.node 7 [] [ah last (t.leads.getD 0 []) [66, 111, 111, 108]] []) rest
  intro off sz at_ hi h0 h1
  obtain ⟨o', q, hq⟩ := fC _ rest off sz at_ hi h0 h1
  exact ⟨o', dY 0 _ _ _ _ _ _ _ _ _ _ _ ⟨_, _, _, _, _, _, cq, fun e => absurd e (show ¬ ([66, 111, 111, 108] : List UInt8) = [73, 110, 116] by decide), fun _ => ⟨fun e => absurd e (show ¬ ([66, 111, 111, 108] : List UInt8) = [84, 101, 120, 116] by decide), fun _ => ⟨fun _ => ⟨_, _, _, _, _, _, q, rfl, rfl, rfl, rfl, rfl, rfl⟩, fun e => absurd rfl e⟩⟩⟩, hq⟩
 ·have hkn : t.kids.length = 1 := hn.2.2.1 (by simp [h])
  obtain ⟨u, hu, _⟩ | h' := aN t.kids 0
  rotate_left
  ·omega
  have hsu := aL hs hu
  have hku : iH u.kind = true := by have := hsu.2; rw [h] at this; simpa [dh] using this
  rw [h, gd hs (by omega)]
  have e1 : tkA last (bc 8 [] t.leads (pcTs t.kids)) ++ rest = tk last (t.leads.getD 0 []) [91] :: (tkA [91] (pcT u) ++ (tk (ae [91] (pcT u)) (t.leads.getD 1 []) [93] :: rest)) := by
   show tkA last (⟨t.leads.getD 0 [], [91]⟩ :: ((pcTs t.kids).getD 0 [] ++ [⟨t.leads.getD 1 [], [93]⟩])) ++ rest = _
   rw [bE hu, gk, fz, gk, mD]
   simp
  have e2 : spN 8 [] t.leads (spTs t.kids) (pcTs t.kids) last = .node 8 [] [ah last (t.leads.getD 0 []) [91], ah (ae [91] (pcT u)) (t.leads.getD 1 []) [93]] [spT u [91]] := by
   show Tree.node 8 [] [_, ah (ae [91] ((pcTs t.kids).getD 0 [])) _ _] [(spTs t.kids).getD 0 _ _] = _
   rw [bE hu, cX hu]
  rw [e1, e2]
  intro off sz at_ hi h0 h1
  obtain ⟨o1, q1, i1⟩ := fC _ _ off sz at_ hi h0 h1
  obtain ⟨o2, q2, i2⟩ := ih 0 u hu hku hsu.1 [91] _ o1 sz at_ i1 h0 h1
  obtain ⟨o3, q3, i3⟩ := cC (w := [93]) rfl o2 sz at_ i2 h0 h1
  exact ⟨o3, dY 0 _ _ _ _ _ _ _ _ _ _ _ ⟨_, _, _, _, _, _, cq, fun e => absurd e (show ¬ ([91] : List UInt8) = [73, 110, 116] by decide), fun _ => ⟨fun e => absurd e (show ¬ ([91] : List UInt8) = [84, 101, 120, 116] by decide), fun _ => ⟨fun e => absurd e (show ¬ ([91] : List UInt8) = [66, 111, 111, 108] by decide), fun _ => ⟨fun _ => ⟨by decide, _, _, _, _, _, _, q1, [], rfl, _, _, _, _, _, _, q2, _, _, _, _, _, _, q3, [], rfl, rfl, rfl, rfl, rfl, rfl, rfl⟩, fun e => absurd rfl e⟩⟩⟩⟩, i3⟩
 ·have hw := eb hs
  have hc : aE t.text = 2 ∨ aE t.text = 4 := by
   rw [h] at hw
   simp [dg] at hw
   omega
  rw [h]
  show Ok Pty (tk last (t.leads.getD 0 []) t.text :: rest) (.node 9 t.text [ah last (t.leads.getD 0 []) t.text] []) rest
  intro off sz at_ hi h0 h1
  have hne : ∀ y, aE y ≠ 2 → aE y ≠ 4 → t.text ≠ y := fun y a b => by rcases hc with hc | hc; exact dF hc a; exact dF hc b
  obtain ⟨o', q, hq⟩ := oG (k := 2) (o2 := 4) (t := tk last (t.leads.getD 0 []) t.text) (r := rest) (by simp only [tk]; omega) (by simp only [tk]; omega) off sz at_ hi h0 h1
  exact ⟨o', dY 0 _ _ _ _ _ _ _ _ _ _ _ ⟨_, _, _, _, _, _, cq, fun e => absurd e (hne _ (by decide) (by decide)), fun _ => ⟨fun e => absurd e (hne _ (by decide) (by decide)), fun _ => ⟨fun e => absurd e (hne _ (by decide) (by decide)), fun _ => ⟨fun e => absurd e (hne _ (by decide) (by decide)), fun _ => ⟨_, _, _, _, _, _, _, q, rfl, rfl, rfl, rfl, rfl, rfl⟩⟩⟩⟩⟩, hq⟩
mutual
def limK : Tree → Bool
 | .node k _ _ ks => decide ((k = 1 → ks.length ≤ 40) ∧ (k = 2 → ks.length ≤ 10) ∧ (k = 16 → ks.length ≤ 8) ∧ (k = 18 → ks.length ≤ 16)) && limKs ks
def limKs : List Tree → Bool
 | [] => true
 | t :: r => limK t && limKs r
end
theorem sA (t : Tree) : limK t = (decide ((t.kind = 1 → t.kids.length ≤ 40) ∧ (t.kind = 2 → t.kids.length ≤ 10) ∧ (t.kind = 16 → t.kids.length ≤ 8) ∧ (t.kind = 18 → t.kids.length ≤ 16)) && limKs t.kids) := by cases t; simp only [limK]; rfl
theorem vT : ∀ {l : List Tree} {u : Tree}, limKs l = true → u ∈ l → limK u = true
 | t :: r, u, h, hu => by
  simp only [limKs, Bool.and_eq_true] at h
  rcases List.mem_cons.1 hu with rfl | hu
  ·exact h.1
  ·exact vT h.2 hu
theorem uM {t : Tree} (h : limK t = true) : (t.kind = 1 → t.kids.length ≤ 40) ∧ (t.kind = 2 → t.kids.length ≤ 10) ∧ (t.kind = 16 → t.kids.length ≤ 8) ∧ (t.kind = 18 → t.kids.length ≤ 16) := by
 rw [sA, Bool.and_eq_true, decide_eq_true_eq] at h; exact h.1
theorem gK {t u : Tree} {i : Nat} (h : limK t = true) (hu : t.kids[i]? = some u) : limK u = true := by
 rw [sA, Bool.and_eq_true] at h
 exact vT h.2 (List.mem_of_getElem? hu)
def fol (l : List TokZ) : Prop := (hdT l).Text ≠ [40] ∧ en (hdT l).Text = false
theorem ws {l : List Pce} {p : Pce} {r : List Pce} {last : List UInt8} {rest : List TokZ} (h : l = p :: r) : (hdT (tkA last l ++ rest)).Text = p.Text := by subst h; rfl
theorem xo : ∀ t : Tree, cG t.kind = true ∨ t.kind = 17 → shapeK t = true → ∃ p r, pcT t = p :: r ∧ p.Text ≠ [41] ∧ (t.kind ≠ 19 → t.kind ≠ 20 → t.kind ≠ 17 → p.Text ≠ [108, 101, 116] ∧ p.Text ≠ [105, 102]) := bV fun t ih hk hs => by
 have hn := bu hs
 have hw := eb hs
 have hk' : t.kind = 10 ∨ t.kind = 11 ∨ t.kind = 12 ∨ t.kind = 13 ∨ t.kind = 14 ∨ t.kind = 15 ∨ t.kind = 16 ∨ t.kind = 17 ∨ t.kind = 18 ∨ t.kind = 19 ∨ t.kind = 20 ∨ t.kind = 21 ∨ t.kind = 22 := by simp [cG] at hk; omega
 rw [bg]
 have cls : ∀ n : Nat, aE t.text = n → n ≠ 8 → n ≠ 7 → t.text ≠ [41] ∧ (t.kind ≠ 19 → t.kind ≠ 20 → t.kind ≠ 17 → t.text ≠ [108, 101, 116] ∧ t.text ≠ [105, 102]) := fun n h a b =>
  ⟨dF h (fun e => a (by rw [← e]; decide)), fun _ _ _ => ⟨dF h (fun e => b (by rw [← e]; decide)), dF h (fun e => b (by rw [← e]; decide))⟩⟩
 have sg : ∀ (x ld : List UInt8) (r L : List Pce), L = ⟨ld, x⟩ :: r → x ≠ [41] ∧ x ≠ [108, 101, 116] ∧ x ≠ [105, 102] → ∃ p r', L = p :: r' ∧ p.Text ≠ [41] ∧ (t.kind ≠ 19 → t.kind ≠ 20 → t.kind ≠ 17 → p.Text ≠ [108, 101, 116] ∧ p.Text ≠ [105, 102]) := fun x ld r L e h => ⟨_, _, e, h.1, fun _ _ _ => h.2⟩
 rcases hk' with h | h | h | h | h | h | h | h | h | h | h | h | h
 ·refine ⟨_, _, by rw [h]; rfl, ?_⟩
  rw [h] at hw; simp [dg] at hw
  exact cls 5 (by omega) (by decide) (by decide)
 ·refine ⟨_, _, by rw [h]; rfl, ?_⟩
  rw [h] at hw; simp [dg] at hw
  exact cls 6 (by omega) (by decide) (by decide)
 ·refine ⟨_, _, by rw [h]; rfl, ?_⟩
  rw [h] at hw; simp [dg] at hw
  exact cls 1 (by omega) (by decide) (by decide)
 ·exact sg [116, 114, 117, 101] _ _ _ (by rw [h]; rfl) (by decide)
 ·exact sg [102, 97, 108, 115, 101] _ _ _ (by rw [h]; rfl) (by decide)
 ·exact sg [63] _ _ _ (by rw [h]; rfl) (by decide)
 ·refine ⟨_, _, by rw [h]; rfl, ?_⟩
  rw [h] at hw; simp [dg] at hw
  rcases hw with hw | hw
  ·exact cls 1 (by omega) (by decide) (by decide)
  ·exact cls 3 (by omega) (by decide) (by decide)
 ·obtain ⟨u, hu, _⟩ | h' := aN t.kids 0
  rotate_left
  ·have := hn.2.2.1 (by omega); omega
  have hsu := aL hs hu
  have hku : cG u.kind = true := by have := hsu.2; rw [h] at this; simpa [dh] using this
  obtain ⟨p, r, e, e1, _⟩ := ih 0 u hu (.inl hku) hsu.1
  refine ⟨p, r, ?_, e1, fun _ _ c => absurd h c⟩
  rw [h]; show (pcTs t.kids).getD 0 [] = _
  rw [bE hu, e]
 ·exact sg [91] _ _ _ (by rw [h]; rfl) (by decide)
 ·exact ⟨_, _, by rw [h]; rfl, show ([105, 102] : List UInt8) ≠ [41] by decide, fun c _ _ => absurd h c⟩
 ·exact ⟨_, _, by rw [h]; rfl, show ([108, 101, 116] : List UInt8) ≠ [41] by decide, fun _ c _ => absurd h c⟩
 ·obtain ⟨u, hu, _⟩ | h' := aN t.kids 0
  rotate_left
  ·have := hn.2.2.2.2 (by omega); omega
  have hsu := aL hs hu
  have hku : cG u.kind = true ∧ u.kind ≠ 19 ∧ u.kind ≠ 20 ∧ u.kind ≠ 17 := by have := hsu.2; rw [h] at this; simp [dh, jA, cG] at this ⊢; omega
  obtain ⟨p, r, e, e1, e2⟩ := ih 0 u hu (.inl hku.1) hsu.1
  refine ⟨p, r ++ (⟨t.leads.getD 0 [], t.text⟩ :: (pcTs t.kids).getD 1 []), ?_, e1, fun _ _ _ => e2 hku.2.1 hku.2.2.1 hku.2.2.2⟩
  rw [h]; show (pcTs t.kids).getD 0 [] ++ (⟨t.leads.getD 0 [], t.text⟩ :: (pcTs t.kids).getD 1 []) = _
  rw [bE hu, e]; rfl
 ·exact sg [40] _ _ _ (by rw [h]; rfl) (by decide)
abbrev Pun := fun (a : List GToken) (o s f z : Int) (x : Tree) (b : List GToken) (o' s' f' z' : Int) => cP a o s f z x b o' s' f' z'
abbrev Pex := fun (a : List GToken) (o s f z : Int) (x : Tree) (b : List GToken) (o' s' f' z' : Int) => aJ a o s f z x b o' s' f' z'
abbrev Par := fun (a : List GToken) (o s f z : Int) (x : Tree) (b : List GToken) (o' s' f' z' : Int) => cD a o s f z x b o' s' f' z'
def Uok (t : Tree) : Prop := jA t.kind = true → ∀ last rest, (hdT rest).Text ≠ [40] → Ok Pun (tkA last (pcT t) ++ rest) (spT t last) rest
def Xok (t : Tree) : Prop := cG t.kind = true → ∀ last rest, fol rest → Ok Pex (tkA last (pcT t) ++ rest) (spT t last) rest
def Aok (t : Tree) : Prop := t.kind = 17 → ∀ last rest, fol rest → Ok Par (tkA last (pcT t) ++ rest) (spT t last) rest
def Nok (t : Tree) : Prop := jA t.kind = true ∨ t.kind = 21 → ∀ last rest, (hdT rest).Text ≠ [40] → ∀ off sz at_, Iv (tkA last (pcT t) ++ rest) off → 0 ≤ sz → sz ≤ 4000000000 → ∃ t0 b0 o0 o1, cP ((tkA last (pcT t) ++ rest).map gTk) off sz 0 at_ t0 b0 o0 sz 0 at_ ∧ Iv rest o1 ∧ ∀ m r q0 q1 q2 q3 q4, cM m (rest.map gTk) o1 sz 0 at_ (spT t last) r q0 q1 q2 q3 q4 → ∃ m', cM m' b0 o0 sz 0 at_ t0 r q0 q1 q2 q3 q4
theorem uE {ρ : Type} {P : List GToken → Int → Int → Int → Int → Tree → List GToken → Int → Int → Int → Int → Prop} {sz at_ : Int} (h0 : 0 ≤ sz) (h1 : sz ≤ 4000000000) (ls : List (List UInt8)) (c mx : Nat) (E : List UInt8 → List TokZ) (hE : ∀ x, fol (E x)) (L : Nat → List TokZ → Int → List (List UInt8) → List Tree → ρ → Prop)
    (step : ∀ {m : Nat} {t : TokZ} {r : List TokZ} {o o1 : Int} {u : Tree} {b : List TokZ} {o2 : Int} {A : List (List UInt8)} {K : List Tree} {q : ρ}, t.text = [44] → K.length ≠ mx → A.length ≤ 100 → K.length ≤ 100 → aI ((t :: r).map gTk) o sz 0 at_ (gTk t) (r.map gTk) o1 sz 0 at_ → P (r.map gTk) o1 sz 0 at_ u (b.map gTk) o2 sz 0 at_ → L m b o2 (A ++ [t.lead]) (K ++ [u]) q → L (m + 1) (t :: r) o A K q) :
    ∀ (us : List Tree) (i : Nat) (last : List UInt8) (A : List (List UInt8)) (K : List Tree) (off : Int), (∀ u ∈ us, ∀ last rest, fol rest → Ok P (tkA last (pcT u) ++ rest) (spT u last) rest) → A.length + us.length ≤ 100 → K.length + us.length ≤ mx → K.length + us.length ≤ 100 → 0 < i → Iv (tkA last (aw ls c (pcTs us) i) ++ E (ae last (aw ls c (pcTs us) i))) off →
      ∃ o1, Iv (E (ae last (aw ls c (pcTs us) i))) o1 ∧ ∀ m q, L m (E (ae last (aw ls c (pcTs us) i))) o1 (A ++ ca ls c (pcTs us) i last) (K ++ bJ (spTs us) (pcTs us) i last) q → ∃ m', L m' (tkA last (aw ls c (pcTs us) i) ++ E (ae last (aw ls c (pcTs us) i))) off A K q
  | [], i, last, A, K, off, hu, ha, hk, hk2, hi, hv => ⟨off, hv, fun m q h => ⟨m, by simpa [pcTs, aw, ca, bJ, spTs, tkA, ae] using h⟩⟩
  | u :: us, i, last, A, K, off, hu, ha, hk, hk2, hi, hv => by
    simp only [List.length_cons] at ha hk hk2
    have e1 : ∀ Z : List UInt8 → List TokZ, tkA last (aw ls c (pcTs (u :: us)) i) ++ Z (ae last (aw ls c (pcTs (u :: us)) i)) = tk last (ls.getD (c + i - 1) []) [44] :: (tkA [44] (pcT u) ++ (tkA (ae [44] (pcT u)) (aw ls c (pcTs us) (i + 1)) ++ Z (ae (ae [44] (pcT u)) (aw ls c (pcTs us) (i + 1))))) := fun Z => by
      simp only [pcTs, aw, if_pos hi, List.cons_append, List.nil_append, gk, dH, fz, bF, List.append_assoc]
    have e2 : ae last (aw ls c (pcTs (u :: us)) i) = ae (ae [44] (pcT u)) (aw ls c (pcTs us) (i + 1)) := by
      simp only [pcTs, aw, if_pos hi, List.cons_append, List.nil_append, dH, bF]
    have e3 : ca ls c (pcTs (u :: us)) i last = ah last (ls.getD (c + i - 1) []) [44] :: ca ls c (pcTs us) (i + 1) (ae [44] (pcT u)) := by
      simp only [pcTs, ca, if_pos hi, List.cons_append, List.nil_append]
    have e4 : bJ (spTs (u :: us)) (pcTs (u :: us)) i last = spT u [44] :: bJ (spTs us) (pcTs us) (i + 1) (ae [44] (pcT u)) := by
      simp only [pcTs, spTs, bJ, if_pos hi]
    rw [e1 E] at hv ⊢
    rw [e2, e3, e4]
    obtain ⟨o1, q1, i1⟩ := fC _ _ off sz at_ hv h0 h1
    have hf : fol (tkA (ae [44] (pcT u)) (aw ls c (pcTs us) (i + 1)) ++ E (ae (ae [44] (pcT u)) (aw ls c (pcTs us) (i + 1)))) := by
      cases us with
      | nil => exact hE _
      | cons v vs => 
        simp only [pcTs, aw, if_pos (show 0 < i + 1 by omega), List.cons_append, List.nil_append, gk]
        exact ⟨show ([44] : List UInt8) ≠ [40] by decide, show en [44] = false by decide⟩
    obtain ⟨o2, q2, i2⟩ := hu u (by simp) [44] _ hf o1 sz at_ i1 h0 h1
    obtain ⟨o3, i3, k3⟩ := uE h0 h1 ls c mx E hE L step us (i + 1) (ae [44] (pcT u)) (A ++ [ah last (ls.getD (c + i - 1) []) [44]]) (K ++ [spT u [44]]) o2 (fun v hv => hu v (by simp [hv])) (by simp; omega) (by simp; omega) (by simp; omega) (by omega) i2
    refine ⟨o3, i3, fun m q h => ?_⟩
    obtain ⟨m', hm⟩ := k3 m q (by simpa using h)
    exact ⟨m' + 1, step rfl (by omega) (by omega) (by omega) q1 q2 hm⟩
theorem CA {u : TokZ} {r : List TokZ} {o sz at_ o1 : Int} {k : Nat} {x : List UInt8} (hk : (k : Int) ≠ 0) (q : aI ((u :: r).map gTk) o sz 0 at_ (gTk u) (r.map gTk) o1 sz 0 at_) : cz 1 ((u :: r).map gTk) o sz 0 at_ k x (.node (k : Int) x [u.lead] []) (r.map gTk) o1 sz 0 at_ :=
 rL1_syntax_parser_unit 0 _ _ _ _ _ _ _ _ _ _ _ _ _ ⟨fun e => absurd e hk, fun _ => ⟨_, _, _, _, _, _, q, rfl, rfl, rfl, rfl, rfl, rfl⟩⟩
theorem wV {u : TokZ} {r : List TokZ} {o sz at_ : Int} {x : Tree} {b : List GToken} {o1 : Int} (hk : u.kind = 1 ∨ u.kind = 3) (q : gw ((u :: r).map gTk) o sz 0 at_ x b o1 sz 0 at_) : cP ((u :: r).map gTk) o sz 0 at_ x b o1 sz 0 at_ :=
 rS_syntax_parser_unit 0 _ _ _ _ _ _ _ _ _ _ _ ⟨_, _, _, _, _, _, cq, fun e => by simp only [gTk] at e; omega, fun _ => ⟨fun e => by simp only [gTk] at e; omega, fun _ => ⟨fun _ => ⟨_, _, _, _, _, _, q, rfl, rfl, rfl, rfl, rfl, rfl⟩, fun h => ⟨fun _ => ⟨_, _, _, _, _, _, q, rfl, rfl, rfl, rfl, rfl, rfl⟩, fun h3 => by simp only [gTk] at h h3; omega⟩⟩⟩⟩
theorem se {u : TokZ} {r : List TokZ} {o sz at_ : Int} {x : Tree} {b : List GToken} {o1 : Int} (m : Nat) (hk : u.kind ≠ 5 ∧ u.kind ≠ 6 ∧ u.kind ≠ 1 ∧ u.kind ≠ 3) (q : dd m (gTk u) ((u :: r).map gTk) o sz 0 at_ 0 x b o1 sz 0 at_) : cP ((u :: r).map gTk) o sz 0 at_ x b o1 sz 0 at_ :=
 rS_syntax_parser_unit m _ _ _ _ _ _ _ _ _ _ _ ⟨_, _, _, _, _, _, cq, fun e => by simp only [gTk] at e; omega, fun _ => ⟨fun e => by simp only [gTk] at e; omega, fun _ => ⟨fun e => by simp only [gTk] at e; omega, fun _ => ⟨fun e => by simp only [gTk] at e; omega, fun _ => q⟩⟩⟩⟩
theorem GN {t : Tree} (ih : ∀ (i : Nat) (u : Tree), t.kids[i]? = some u → shapeK u = true → Xok u) (hs : shapeK t = true) : Aok t := fun h last rest hr off sz at_ hi h0 h1 => by
 have hn := bu hs
 obtain ⟨u, hu, _⟩ | h' := aN t.kids 0
 rotate_left
 ·have := hn.2.2.1 (by omega); omega
 have hsu := aL hs hu
 have hku : cG u.kind = true := by have := hsu.2; rw [h] at this; simpa [dh] using this
 have e1 : pcT t = pcT u := by rw [bg, h]; show (pcTs t.kids).getD 0 [] = _; rw [bE hu]
 have e2 : spT t last = .node 17 [] [] [spT u last] := by rw [gf, h, gd hs (by omega)]; show Tree.node 17 [] [] [(spTs t.kids).getD 0 _ last] = _; rw [cX hu]
 rw [e1] at hi ⊢
 rw [e2]
 obtain ⟨o1, q1, i1⟩ := ih 0 u hu hsu.1 hku last rest hr off sz at_ hi h0 h1
 exact ⟨o1, oD 0 _ _ _ _ _ _ _ _ _ _ _ ⟨_, _, _, _, _, _, q1, rfl, rfl, rfl, rfl, rfl, rfl⟩, i1⟩
theorem Dx {ls : List (List UInt8)} {us : List Tree} (hA : ∀ u ∈ us, u.kind = 17 ∧ shapeK u = true ∧ Aok u) (hl : us.length ≤ 8) (n : TokZ) {x : List UInt8} {rest : List TokZ} {off sz at_ : Int} (hi : Iv (tk x (ls.getD 1 []) [40] :: (tkA [40] (aw ls 3 (pcTs us) 0) ++ (tk (ae [40] (aw ls 3 (pcTs us) 0)) (ls.getD 2 []) [41] :: rest))) off) (h0 : 0 ≤ sz) (h1 : sz ≤ 4000000000) :
  ∃ m o', fN m (gTk n) ((tk x (ls.getD 1 []) [40] :: (tkA [40] (aw ls 3 (pcTs us) 0) ++ (tk (ae [40] (aw ls 3 (pcTs us) 0)) (ls.getD 2 []) [41] :: rest))).map gTk) off sz 0 at_ (.node 16 n.text ([n.lead, ah x (ls.getD 1 []) [40], ah (ae [40] (aw ls 3 (pcTs us) 0)) (ls.getD 2 []) [41]] ++ ca ls 3 (pcTs us) 0 [40]) (bJ (spTs us) (pcTs us) 0 [40])) (rest.map gTk) o' sz 0 at_ ∧ Iv rest o' := by
 obtain ⟨o1, q1, i1⟩ := cC (w := [40]) rfl off sz at_ hi h0 h1
 cases us with
 | nil =>
  obtain ⟨o2, q2, i2⟩ := cC (w := [41]) rfl o1 sz at_ i1 h0 h1
  exact ⟨2, o2, mA 1 _ _ _ _ _ _ _ _ _ _ _ _ ⟨by decide, mC 0 _ _ _ _ _ _ _ _ _ _ _ _ ⟨[], rfl, _, _, _, _, _, _, q1, [], rfl, _, _, _, _, _, _, cq, fun e => absurd rfl e, fun _ => ⟨_, _, _, _, _, _, q2, [], rfl, rfl, rfl, rfl, rfl, rfl, rfl⟩⟩⟩, i2⟩
 | cons u us =>
  have hu := hA u (by simp)
  simp only [List.length_cons] at hl
  have e1 : ∀ Z : List UInt8 → List TokZ, tkA [40] (aw ls 3 (pcTs (u :: us)) 0) ++ Z (ae [40] (aw ls 3 (pcTs (u :: us)) 0)) = tkA [40] (pcT u) ++ (tkA (ae [40] (pcT u)) (aw ls 3 (pcTs us) 1) ++ Z (ae (ae [40] (pcT u)) (aw ls 3 (pcTs us) 1))) := fun Z => by
   show tkA [40] (pcT u ++ aw ls 3 (pcTs us) 1) ++ Z (ae [40] (pcT u ++ aw ls 3 (pcTs us) 1)) = _
   simp only [fz, bF, List.append_assoc]
  have e2 : ae [40] (aw ls 3 (pcTs (u :: us)) 0) = ae (ae [40] (pcT u)) (aw ls 3 (pcTs us) 1) := by show ae [40] (pcT u ++ aw ls 3 (pcTs us) 1) = _; rw [bF]
  have e3 : ca ls 3 (pcTs (u :: us)) 0 [40] = ca ls 3 (pcTs us) 1 (ae [40] (pcT u)) := rfl
  have e4 : bJ (spTs (u :: us)) (pcTs (u :: us)) 0 [40] = spT u [40] :: bJ (spTs us) (pcTs us) 1 (ae [40] (pcT u)) := rfl
  have hE : ∀ y, fol (tk y (ls.getD 2 []) [41] :: rest) := fun y => ⟨show ([41] : List UInt8) ≠ [40] by decide, show en [41] = false by decide⟩
  obtain ⟨p, r, hp, hp1, _⟩ := xo u (.inr hu.1) hu.2.1
  rw [e1 fun y => tk y (ls.getD 2 []) [41] :: rest] at i1 q1 ⊢
  have hf : fol (tkA (ae [40] (pcT u)) (aw ls 3 (pcTs us) 1) ++ (tk (ae (ae [40] (pcT u)) (aw ls 3 (pcTs us) 1)) (ls.getD 2 []) [41] :: rest)) := by
   cases us with
   | nil => exact hE _
   | cons v vs => exact ⟨show ([44] : List UInt8) ≠ [40] by decide, show en [44] = false by decide⟩
  obtain ⟨o2, q2, i2⟩ := hu.2.2 hu.1 [40] _ hf o1 sz at_ i1 h0 h1
  obtain ⟨o3, i3, k3⟩ := uE (P := Par) (at_ := at_) h0 h1 ls 3 8 (fun y => tk y (ls.getD 2 []) [41] :: rest) hE (fun m b o A K (q : Tree × List GToken × Int × Int × Int × Int) => dt m (gTk n) (b.map gTk) o sz 0 at_ A K q.1 q.2.1 q.2.2.1 q.2.2.2.1 q.2.2.2.2.1 q.2.2.2.2.2)
   (fun {m t r o o1 u b o2 A K q} ht hk ha hk2 qt qp h => mB m _ _ _ _ _ _ _ _ _ _ _ _ _ _ ⟨_, _, _, _, _, _, cq, fun _ => ⟨_, _, _, _, _, _, qt, by simp; omega, fun e => absurd e (by omega), fun _ => ⟨_, _, _, _, _, _, qp, by simp; omega, h⟩⟩, fun e => absurd ht e⟩)
   us 1 (ae [40] (pcT u)) [n.lead, ah x (ls.getD 1 []) [40], []] [spT u [40]] o2 (fun v hv => (hA v (by simp [hv])).2.2 (hA v (by simp [hv])).1) (by simp; omega) (by simp; omega) (by simp; omega) (by decide) i2
  obtain ⟨o4, q4, i4⟩ := cC (w := [41]) rfl o3 sz at_ i3 h0 h1
  obtain ⟨m, hm⟩ := k3 1 (_, _, _, _, _, _) (mB 0 _ _ _ _ _ _ _ _ _ _ _ _ _ _ ⟨_, _, _, _, _, _, cq, fun e => absurd e (show ¬ ([41] : List UInt8) = [44] by decide), fun _ => ⟨_, _, _, _, _, _, q4, [], rfl, rfl, rfl, rfl, rfl, rfl, rfl⟩⟩)
  refine ⟨m + 2, o4, mA (m + 1) _ _ _ _ _ _ _ _ _ _ _ _ ⟨by decide, mC m _ _ _ _ _ _ _ _ _ _ _ _ ⟨[], rfl, _, _, _, _, _, _, q1, [], rfl, _, _, _, _, _, _, nM, fun _ => ⟨_, _, _, _, _, _, q2, ?_⟩, fun e => absurd e ?_⟩⟩, i4⟩
  ·rw [e2, e3, e4]; exact hm
  ·rw [ws hp]; exact hp1
theorem CU {ls : List (List UInt8)} {us : List Tree} (hX : ∀ u ∈ us, cG u.kind = true ∧ shapeK u = true ∧ Xok u) (hl : 1 ≤ us.length ∧ us.length ≤ 16) {last : List UInt8} {rest : List TokZ} : Ok (fun a o s f z (x : Tree) b o' s' f' z' => ju a o s f z x b o' s' f' z') (tk last (ls.getD 0 []) [91] :: (tkA [91] (aw ls 2 (pcTs us) 0) ++ (tk (ae [91] (aw ls 2 (pcTs us) 0)) (ls.getD 1 []) [93] :: rest))) (.node 18 [] ([ah last (ls.getD 0 []) [91], ah (ae [91] (aw ls 2 (pcTs us) 0)) (ls.getD 1 []) [93]] ++ ca ls 2 (pcTs us) 0 [91]) (bJ (spTs us) (pcTs us) 0 [91])) rest := fun off sz at_ hi h0 h1 => by
 obtain ⟨o1, q1, i1⟩ := cC (w := [91]) rfl off sz at_ hi h0 h1
 cases us with
 | nil => simp at hl
 | cons u us =>
  have hu := hX u (by simp)
  simp only [List.length_cons] at hl
  have e1 : ∀ Z : List UInt8 → List TokZ, tkA [91] (aw ls 2 (pcTs (u :: us)) 0) ++ Z (ae [91] (aw ls 2 (pcTs (u :: us)) 0)) = tkA [91] (pcT u) ++ (tkA (ae [91] (pcT u)) (aw ls 2 (pcTs us) 1) ++ Z (ae (ae [91] (pcT u)) (aw ls 2 (pcTs us) 1))) := fun Z => by
   show tkA [91] (pcT u ++ aw ls 2 (pcTs us) 1) ++ Z (ae [91] (pcT u ++ aw ls 2 (pcTs us) 1)) = _
   simp only [fz, bF, List.append_assoc]
  have e2 : ae [91] (aw ls 2 (pcTs (u :: us)) 0) = ae (ae [91] (pcT u)) (aw ls 2 (pcTs us) 1) := by show ae [91] (pcT u ++ aw ls 2 (pcTs us) 1) = _; rw [bF]
  have e3 : ca ls 2 (pcTs (u :: us)) 0 [91] = ca ls 2 (pcTs us) 1 (ae [91] (pcT u)) := rfl
  have e4 : bJ (spTs (u :: us)) (pcTs (u :: us)) 0 [91] = spT u [91] :: bJ (spTs us) (pcTs us) 1 (ae [91] (pcT u)) := rfl
  have hE : ∀ y, fol (tk y (ls.getD 1 []) [93] :: rest) := fun y => ⟨show ([93] : List UInt8) ≠ [40] by decide, show en [93] = false by decide⟩
  rw [e1 fun y => tk y (ls.getD 1 []) [93] :: rest] at i1 q1 ⊢
  have hf : fol (tkA (ae [91] (pcT u)) (aw ls 2 (pcTs us) 1) ++ (tk (ae (ae [91] (pcT u)) (aw ls 2 (pcTs us) 1)) (ls.getD 1 []) [93] :: rest)) := by
   cases us with
   | nil => exact hE _
   | cons v vs => exact ⟨show ([44] : List UInt8) ≠ [40] by decide, show en [44] = false by decide⟩
  obtain ⟨o2, q2, i2⟩ := hu.2.2 hu.1 [91] _ hf o1 sz at_ i1 h0 h1
  obtain ⟨o3, i3, k3⟩ := uE (P := Pex) (at_ := at_) h0 h1 ls 2 16 (fun y => tk y (ls.getD 1 []) [93] :: rest) hE (fun m b o A K (q : Tree × List GToken × Int × Int × Int × Int) => da m (b.map gTk) o sz 0 at_ A K q.1 q.2.1 q.2.2.1 q.2.2.2.1 q.2.2.2.2.1 q.2.2.2.2.2)
   (fun {m t r o o1 u b o2 A K q} ht hk ha hk2 qt qp h => lI m _ _ _ _ _ _ _ _ _ _ _ _ _ ⟨_, _, _, _, _, _, cq, fun _ => ⟨_, _, _, _, _, _, qt, by simp; omega, fun e => absurd e (by omega), fun _ => ⟨_, _, _, _, _, _, qp, by simp; omega, h⟩⟩, fun e => absurd ht e⟩)
   us 1 (ae [91] (pcT u)) [ah last (ls.getD 0 []) [91], []] [spT u [91]] o2 (fun v hv => (hX v (by simp [hv])).2.2 (hX v (by simp [hv])).1) (by simp; omega) (by simp; omega) (by simp; omega) (by decide) i2
  obtain ⟨o4, q4, i4⟩ := cC (w := [93]) rfl o3 sz at_ i3 h0 h1
  obtain ⟨m, hm⟩ := k3 1 (_, _, _, _, _, _) (lI 0 _ _ _ _ _ _ _ _ _ _ _ _ _ ⟨_, _, _, _, _, _, cq, fun e => absurd e (show ¬ ([93] : List UInt8) = [44] by decide), fun _ => ⟨_, _, _, _, _, _, q4, [], rfl, rfl, rfl, rfl, rfl, rfl, rfl⟩⟩)
  refine ⟨o4, qu m _ _ _ _ _ _ _ _ _ _ _ ⟨by decide, _, _, _, _, _, _, q1, [], rfl, _, _, _, _, _, _, q2, ?_⟩, i4⟩
  rw [e2, e3, e4]; exact hm
end Go.Proofs.YtaoiaeohojfdgaaGreat
