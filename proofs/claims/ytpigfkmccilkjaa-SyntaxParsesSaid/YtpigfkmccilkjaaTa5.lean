/- Contracts of the functions that the law reaches, part 5. -/
import Derived.Test.YtpigfkmccilkjaaTa4
set_option linter.unusedVariables false
set_option linter.unusedSimpArgs false
namespace Go.Proofs.Ytpigfkmccilkjaa
open Go.RowKit Lx Sx
set_option maxRecDepth 100000
set_option maxHeartbeats 1000000
open Go.RowKit Lx
open Lx
theorem Lv.get {L : List TokZ} {sz k : Nat} {s : PS} (h : Lv L sz s k) (e : s.toks ≠ []) : L[k]? = some (ab s) ∧ k < L.length := by
 cases hs : s.toks with
 | nil => exact absurd hs e
 | cons t r =>
  have hd := h.2.2.1
  have hk : k < L.length := Nat.lt_of_not_le fun hc => by rw [List.drop_of_length_le hc, hs] at hd; cases hd
  rw [List.drop_eq_getElem_cons hk, hs] at hd
  have : ab s = t := by simp [ab, hs]
  rw [this, List.getElem?_eq_getElem hk]
  injection hd with h1 h2
  exact ⟨congrArg some h1, hk⟩
theorem Lv.fail {L : List TokZ} {sz k : Nat} {s : PS} (h : Lv L sz s k) {e : Nat} (he : e ≠ 0) : Ds L sz (aV e s) k ∧ (aV e s).failed = e := by
 unfold aV
 rw [if_pos h.1]
 exact ⟨⟨⟨he, rfl⟩, h.2.1, h.2.2.2.1⟩, rfl⟩
theorem Lv.take {L : List TokZ} {sz k : Nat} {s : PS} (h : Lv L sz s k) (e : s.toks ≠ []) : Lv L sz (ac s) (k + 1) := by
 obtain ⟨hf, hk, hd, ho, hsz⟩ := h
 obtain ⟨hg, hlt⟩ := Lv.get ⟨hf, hk, hd, ho, hsz⟩ e
 obtain ⟨ts, o, z, f, p⟩ := s
 simp only at hf hd ho hsz e
 have hdr : L.drop (k + 1) = ts.tail := by rw [← hd, ← List.drop_one, List.drop_drop]
 have htk : wA (L.take (k + 1)) = wA (L.take k) + ((L.getD k dK).lead.length + (L.getD k dK).text.length) := by
  rw [List.take_add_one, ou, List.getD_eq_getElem?_getD, hg]
  simp [wA]
 have hgd : L.getD k dK = ab ⟨ts, o, z, f, p⟩ := by rw [List.getD_eq_getElem?_getD, hg]; rfl
 unfold kS at ho
 rw [if_pos hlt] at ho
 match ts, e with
 | [t], _ =>
  have hl : k + 1 = L.length := by
   have := congrArg List.length hdr
   simp at this; omega
  refine ⟨hf, by omega, by rw [hdr]; rfl, ?_, hsz⟩
  show z = kS L sz (k + 1)
  unfold kS
  rw [if_neg (by omega)]; exact hsz
 | t :: u :: r, _ =>
  have hl : k + 1 < L.length := by
   have := congrArg List.length hdr
   simp at this; omega
  refine ⟨hf, by omega, by rw [hdr]; rfl, ?_, hsz⟩
  show o + (t.text.length + u.lead.length) = kS L sz (k + 1)
  have hu : L.getD (k + 1) dK = u := by
   have := List.drop_eq_getElem_cons hl
   rw [hdr] at this
   injection this with h1 _
   rw [List.getD_eq_getElem?_getD, List.getElem?_eq_getElem hl, ← h1]; rfl
  have ht : L.getD k dK = t := hgd
  unfold kS
  rw [if_pos hl, htk, hu]
  rw [ht] at ho ⊢
  omega
section
variable {P : Program} {n : Nat} {F : Fm} {H : Hp}
end
section
variable {P : Program} {T : Tab} {K : Ctx} {Q : Exit → Act → World → Prop} {s : List EI} {n : Nat} {F : Fm} {H : Hp}
end
section
variable {P : Program} {K : Ctx} {Q : Exit → Act → World → Prop} {p : EP} {s : List EI} {n : Nat} {F : Fm} {H H1 : Hp}
theorem gHX {e : TypeId} {sz : Nat} {els : List V} (id : Nat) (els' : List V) (ho : H.get id = .row e sz els) (he : ak els els') (h2 : H.ap (.set id (.row e sz els')) _root_.id = H1) (k : Go P K Q p s n F H1) : Go P K Q p s n F H := by
 rw [Hp.ap_eq] at h2; subst h2
 have hg : (H.app (.set id (.row e sz els'))).get = dx H.get id (.row e sz els') := Hp.get_app (by exact ⟨by rw [ho]; simp, by rw [ho]; simp⟩)
 intro S w ρ a hr hi hF
 have how : ∀ i b, own ρ i (dx H.get id (.row e sz els') i) b ↔ own ρ i (H.get i) b := fun i b => by
  by_cases hi : i = id
  ·subst hi; rw [cj, ho]; rfl
  ·rw [dp _ _ hi]
 refine k S w ρ a ?_ ?_ hF
 ·rw [id_eq, hg]
  refine ⟨fun i => ?_, fun i b hb => hr.sep i b ((how i b).1 hb), fun i j b h1 h2 => hr.dis i j b ((how i b).1 h1) ((how j b).1 h2), hr.slt⟩
  by_cases hii : i = id
  ·subst hii
   rw [cj]
   obtain ⟨v, xs, h1, h2, h3⟩ := jv hr ho
   exact ⟨v, xs, h1, by rw [he.len]; exact h2, h3.sub he⟩
  ·rw [dp _ _ hii]; exact hr.ob i
 ·rw [id_eq, hg]
  exact ⟨hi.chg, hi.s0, hi.s1, fun i b hb => hi.ow i b ((how i b).1 hb), hi.pin⟩
end
set_option maxHeartbeats 4000000
abbrev vA (a0 : List GToken) (a1 : Int) (a2 : List UInt8) (a3 : Int) (a4 : Int) : Ob := .var 46 [.row 3 (List.map GToken.w a0), .int .i64 a1, .str a2, .int .i64 a3, .int .i64 a4]
def aZ (g : List GToken) (e : Int) (a : List UInt8) (b i p1 : Int) (j : List GToken) (f : Int) (c : List UInt8) (d k : Int) : Prop := bW [] Try.prog 33 [.ptr 0 0, .int .i64 p1] ⟨1, [(0, vA g e a b i)]⟩ (fun u G => u = .tup [] ∧ G = ⟨1, [(0, vA j f c d k)]⟩)
def aq (g : List GToken) (e : Int) (a : List UInt8) (b i : Int) (p1 : List UInt8) (r0 : Bool) (j : List GToken) (f : Int) (c : List UInt8) (d k : Int) : Prop := bW [] Try.prog 32 [.ptr 0 0, .str p1] ⟨1, [(0, vA g e a b i)]⟩ (fun u G => u = .bool r0 ∧ G = ⟨1, [(0, vA j f c d k)]⟩)
def aH (g : List GToken) (e : Int) (a : List UInt8) (b i r0 : Int) (j : List GToken) (f : Int) (c : List UInt8) (d k : Int) : Prop := bW [] Try.prog 53 [.ptr 0 0] ⟨1, [(0, vA g e a b i)]⟩ (fun u G => u = .int .i64 r0 ∧ G = ⟨1, [(0, vA j f c d k)]⟩)
def cG (i : List GToken) (f : Int) (a : List UInt8) (b j : Int) (r0 : GToken) (k : List GToken) (g : Int) (d : List UInt8) (e l : Int) : Prop := bW [] Try.prog 52 [.ptr 0 0] ⟨1, [(0, vA i f a b j)]⟩ (fun u G => u = .agg (GToken.c r0) ∧ G = ⟨2, [(0, vA k g d e l)]⟩)
def al (q : List GToken) (o : Int) (c : List UInt8) (d r e : Int) (f : List UInt8) (a : (List (List UInt8))) (g : List Tree) (p2 : List UInt8) (s : List GToken) (p : Int) (i : List UInt8) (j t k : Int) (l : List UInt8) (b : (List (List UInt8))) (n : List Tree) : Prop := bW [] Try.prog 30 [.ptr 0 0, .ptr 1 0, .str p2] ⟨4, [(3, .row 26 4 (kidsV g)), (2, .row 9 1 (List.map V.str a)), (1, .var 26 [.int .i64 e, .str f, .sl 2, .sl 3]), (0, vA q o c d r)]⟩ (fun u G => u = .tup [] ∧ G = ⟨4, [(3, .row 26 4 (kidsV n)), (2, .row 9 1 (List.map V.str b)), (1, .var 26 [.int .i64 k, .str l, .sl 2, .sl 3]), (0, vA s p i j t)]⟩)
def aS (q : List GToken) (o : Int) (c : List UInt8) (d r e : Int) (f : List UInt8) (a : (List (List UInt8))) (g : List Tree) (p2 : Int) (s : List GToken) (p : Int) (i : List UInt8) (j t k : Int) (l : List UInt8) (b : (List (List UInt8))) (n : List Tree) : Prop := bW [] Try.prog 31 [.ptr 0 0, .ptr 1 0, .int .i64 p2] ⟨4, [(3, .row 26 4 (kidsV g)), (2, .row 9 1 (List.map V.str a)), (1, .var 26 [.int .i64 e, .str f, .sl 2, .sl 3]), (0, vA q o c d r)]⟩ (fun u G => u = .tup [] ∧ G = ⟨4, [(3, .row 26 4 (kidsV n)), (2, .row 9 1 (List.map V.str b)), (1, .var 26 [.int .i64 k, .str l, .sl 2, .sl 3]), (0, vA s p i j t)]⟩)
def bJ (g : List GToken) (e : Int) (a : List UInt8) (b i p1 : Int) (r0 : Tree) (j : List GToken) (f : Int) (c : List UInt8) (d k : Int) : Prop := bW [] Try.prog 79 [.ptr 0 0, .int .i64 p1] ⟨1, [(0, vA g e a b i)]⟩ (fun u G => u = .agg (ar r0) ∧ G = ⟨2, [(0, vA j f c d k)]⟩)
def cg (g : List GToken) (e : Int) (a : List UInt8) (b i : Int) (r0 : Tree) (j : List GToken) (f : Int) (c : List UInt8) (d k : Int) : Prop := bW [] Try.prog 54 [.ptr 0 0] ⟨1, [(0, vA g e a b i)]⟩ (fun u G => u = .agg (ar r0) ∧ G = ⟨2, [(0, vA j f c d k)]⟩)
def fa (g : List GToken) (e : Int) (a : List UInt8) (b i : Int) (r0 : Bool) (j : List GToken) (f : Int) (c : List UInt8) (d k : Int) : Prop := bW [] Try.prog 94 [.ptr 0 0] ⟨1, [(0, vA g e a b i)]⟩ (fun u G => u = .bool r0 ∧ G = ⟨1, [(0, vA j f c d k)]⟩)
theorem ij (m : Nat) (g : List GToken) (a : Int) (b : List UInt8) (c i p1 : Int) (j : List GToken) (f : Int) (d : List UInt8) (e k : Int) (h : ((i = 0) → g = j ∧ a = f ∧ b = d ∧ a = e ∧ p1 = k) ∧ ((i ≠ 0) → g = j ∧ a = f ∧ b = d ∧ c = e ∧ i = k)) : aZ g a b c i p1 j f d e k := by
 refine az 20 [0] Try.func33 rfl rfl rfl (bg rfl) fun K hK => ?_
 refine gR 9 rfl <| qBe 8 rfl rfl rfl h (fun h => ?_) fun h => ?_
 refine gR 16 rfl ?_
 obtain ⟨rfl, rfl, rfl, rfl, rfl⟩ := h
 exact go_sub (F' := (mkF 20 0 [])) (H' := ⟨1, [(0, vA g a b a p1)]⟩) [0] [0] rfl hK trivial (pqo1 rfl rfl) rfl <| go_endD [] aa (rs := []) rfl rfl ⟨rfl, rfl⟩
 refine gR 2 rfl ?_
 obtain ⟨rfl, rfl, rfl, rfl, rfl⟩ := h
 exact go_sub (F' := (mkF 20 0 [])) (H' := ⟨1, [(0, vA g a b c i)]⟩) [0] [0] rfl hK trivial (pqo1 rfl rfl) rfl <| go_endD [] aa (rs := []) rfl rfl ⟨rfl, rfl⟩
theorem fO (m : Nat) (d : List GToken) (a : Int) (b : List UInt8) (c e : Int) (p1 : List UInt8) (r0 : Bool) (k : List GToken) (j : Int) (g : List UInt8) (i l : Int) (h : ((e = 0) → ((a < (d.length : Int)) → ∃ n, a = ((n : Nat) : Int) ∧ ∃ o, d[n]? = some o ∧ ((o.Kind = 7) → ∃ p, a = ((p : Nat) : Int) ∧ ∃ q, d[p]? = some q ∧ (q.Text == p1) = r0 ∧ d = k ∧ a = j ∧ b = g ∧ c = i ∧ e = l) ∧ ((o.Kind ≠ 7) → ∃ r, a = ((r : Nat) : Int) ∧ ∃ s, d[r]? = some s ∧ ((s.Kind = 8) → ∃ t, a = ((t : Nat) : Int) ∧ ∃ v, d[t]? = some v ∧ (v.Text == p1) = r0 ∧ d = k ∧ a = j ∧ b = g ∧ c = i ∧ e = l) ∧ ((s.Kind ≠ 8) → false = r0 ∧ d = k ∧ a = j ∧ b = g ∧ c = i ∧ e = l))) ∧ ((¬ a < (d.length : Int)) → false = r0 ∧ d = k ∧ a = j ∧ b = g ∧ c = i ∧ e = l)) ∧ ((e ≠ 0) → false = r0 ∧ d = k ∧ a = j ∧ b = g ∧ c = i ∧ e = l)) : aq d a b c e p1 r0 k j g i l := by
 refine az 65 [0] Try.func32 rfl rfl rfl (bg rfl) fun K hK => ?_
 refine gR 6 rfl <| gDs [0] 60 61 rfl (by kernel_rfl) (by kernel_rfl) <| gDr [(0, 0), (1, 0), (2, 0), (3, 0), (4, 0), (5, 0)] (by kernel_rfl) rfl rfl <| qBeZ 10 9 rfl rfl rfl rfl h (fun h => ?_) fun h => ?_
 refine gDr [(6, 2), (7, 2), (8, 2), (9, 3), (10, 0), (11, 0), (12, 0), (13, 0), (14, 0)] (by kernel_rfl) rfl rfl <| gV 19 (.int .i64 (d.length : Int)) rfl (bC (cQ GToken.w _)) rfl <| gLB 18 rfl (cQ GToken.w _) fun hl8 => gDr [(15, 0), (16, 0), (17, 0)] (by kernel_rfl) rfl rfl <| qBdZ 22 21 rfl rfl rfl rfl h (fun h => ?_) fun h => ?_
 refine gDr [(18, 2), (19, 2), (20, 2), (21, 3), (22, 0), (23, 0), (24, 0), (25, 0)] (by kernel_rfl) rfl rfl ?_
 obtain ⟨n, x, h⟩ := h
 refine gV 30 (.int .i64 ((n : Nat) : Int)) rfl (iF x) rfl ?_
 obtain ⟨o, hxx0_2, h⟩ := h
 refine cu 26 rfl (by kernel_rfl) (aY (mapget (f := GToken.w) hxx0_2) aa rfl rfl rfl rfl) rfl rfl ?_
 refine gDr [(27, 0), (28, 0), (29, 0), (30, 0)] (by kernel_rfl) rfl rfl <| qBeZ 35 34 rfl rfl rfl rfl h (fun h => ?_) fun h => ?_
 refine gDr [(31, 2), (32, 2), (33, 2), (34, 2), (35, 0), (36, 0), (37, 0), (38, 0), (39, 0), (40, 0), (41, 0), (42, 0), (43, 0), (44, 0), (45, 0), (46, 2), (47, 2), (48, 2), (49, 3), (50, 2), (51, 2), (52, 2), (53, 3)] (by kernel_rfl) rfl rfl ?_
 obtain ⟨p, y, h⟩ := h
 refine gV 58 (.int .i64 ((p : Nat) : Int)) rfl (iF y) rfl ?_
 obtain ⟨q, hxx0_4, h⟩ := h
 refine gYd 54 rfl (by kernel_rfl) (aY (mapget (f := GToken.w) hxx0_4) aa rfl rfl rfl rfl) rfl rfl <| gDr [(55, 2), (56, 2), (57, 0), (58, 0), (59, 0), (60, 1)] (by kernel_rfl) rfl rfl <| gDe (by kernel_rfl) <| gR 2 rfl ?_
 obtain ⟨rfl, rfl, rfl, rfl, rfl, rfl⟩ := h
 exact go_sub (F' := (mkF 65 0 [(4, .bool (q.Text == p1))])) (H' := ⟨1, [(0, vA d a b c e)]⟩) [0] [0] rfl hK pq1 (pqo1 rfl rfl) rfl <| go_endD [] aa (rs := [.tmp 4]) rfl rfl ⟨rfl, rfl⟩
 refine gDr [(31, 2), (32, 2), (33, 2), (34, 3), (35, 0), (36, 0), (37, 0), (38, 0)] (by kernel_rfl) rfl rfl ?_
 obtain ⟨r, z, h⟩ := h
 refine gV 43 (.int .i64 ((r : Nat) : Int)) rfl (iF z) rfl ?_
 obtain ⟨s, hxx0_6, h⟩ := h
 refine cu 39 rfl (by kernel_rfl) (aY (mapget (f := GToken.w) hxx0_6) aa rfl rfl rfl rfl) rfl rfl ?_
 refine gDr [(40, 0), (41, 0), (42, 0), (43, 0), (44, 0), (45, 0)] (by kernel_rfl) rfl rfl <| qBeZ 50 49 rfl rfl rfl rfl h (fun h => ?_) fun h => ?_
 refine gDr [(46, 2), (47, 2), (48, 2), (49, 3), (50, 2), (51, 2), (52, 2), (53, 3)] (by kernel_rfl) rfl rfl ?_
 obtain ⟨t, α, h⟩ := h
 refine gV 58 (.int .i64 ((t : Nat) : Int)) rfl (iF α) rfl ?_
 obtain ⟨v, hxx0_8, h⟩ := h
 refine gYd 54 rfl (by kernel_rfl) (aY (mapget (f := GToken.w) hxx0_8) aa rfl rfl rfl rfl) rfl rfl <| gDr [(55, 2), (56, 2), (57, 0), (58, 0), (59, 0), (60, 1)] (by kernel_rfl) rfl rfl <| gDe (by kernel_rfl) <| gR 2 rfl ?_
 obtain ⟨rfl, rfl, rfl, rfl, rfl, rfl⟩ := h
 exact go_sub (F' := (mkF 65 0 [(4, .bool (v.Text == p1))])) (H' := ⟨1, [(0, vA d a b c e)]⟩) [0] [0] rfl hK pq1 (pqo1 rfl rfl) rfl <| go_endD [] aa (rs := [.tmp 4]) rfl rfl ⟨rfl, rfl⟩
 refine gDr [(46, 2), (47, 2), (48, 2), (49, 2), (50, 2), (51, 2), (52, 2), (53, 2), (54, 2), (55, 2), (56, 2), (57, 0), (58, 0), (59, 0), (60, 1)] (by kernel_rfl) rfl rfl <| gDe (by kernel_rfl) <| gR 2 rfl ?_
 obtain ⟨rfl, rfl, rfl, rfl, rfl, rfl⟩ := h
 exact go_sub (F' := (mkF 65 0 [(4, .bool false)])) (H' := ⟨1, [(0, vA d a b c e)]⟩) [0] [0] rfl hK pq1 (pqo1 rfl rfl) rfl <| go_endD [] aa (rs := [.tmp 4]) rfl rfl ⟨rfl, rfl⟩
 refine gDr [(18, 2), (19, 2), (20, 2), (21, 2), (22, 0), (23, 0), (24, 0), (25, 0), (26, 0), (27, 0), (28, 0), (29, 0), (30, 0), (31, 2), (32, 2), (33, 2), (34, 2), (35, 0), (36, 0), (37, 0), (38, 0), (39, 0), (40, 0), (41, 0), (42, 0), (43, 0), (44, 0), (45, 0), (46, 2), (47, 2), (48, 2), (49, 2), (50, 2), (51, 2), (52, 2), (53, 2), (54, 2), (55, 2), (56, 2), (57, 0), (58, 0), (59, 0), (60, 1)] (by kernel_rfl) rfl rfl <| gDe (by kernel_rfl) <| gR 2 rfl ?_
 obtain ⟨rfl, rfl, rfl, rfl, rfl, rfl⟩ := h
 exact go_sub (F' := (mkF 65 0 [(4, .bool false)])) (H' := ⟨1, [(0, vA d a b c e)]⟩) [0] [0] rfl hK pq1 (pqo1 rfl rfl) rfl <| go_endD [] aa (rs := [.tmp 4]) rfl rfl ⟨rfl, rfl⟩
 refine gDr [(6, 2), (7, 2), (8, 2), (9, 2), (10, 0), (11, 0), (12, 0), (13, 0), (14, 0), (15, 0), (16, 0), (17, 0), (18, 2), (19, 2), (20, 2), (21, 2), (22, 0), (23, 0), (24, 0), (25, 0), (26, 0), (27, 0), (28, 0), (29, 0), (30, 0), (31, 2), (32, 2), (33, 2), (34, 2), (35, 0), (36, 0), (37, 0), (38, 0), (39, 0), (40, 0), (41, 0), (42, 0), (43, 0), (44, 0), (45, 0), (46, 2), (47, 2), (48, 2), (49, 2), (50, 2), (51, 2), (52, 2), (53, 2), (54, 2), (55, 2), (56, 2), (57, 0), (58, 0), (59, 0), (60, 1)] (by kernel_rfl) rfl rfl <| gDe (by kernel_rfl) <| gR 2 rfl ?_
 obtain ⟨rfl, rfl, rfl, rfl, rfl, rfl⟩ := h
 exact go_sub (F' := (mkF 65 0 [(4, .bool false)])) (H' := ⟨1, [(0, vA d a b c e)]⟩) [0] [0] rfl hK pq1 (pqo1 rfl rfl) rfl <| go_endD [] aa (rs := [.tmp 4]) rfl rfl ⟨rfl, rfl⟩
theorem fo (m : Nat) (d : List GToken) (a : Int) (b : List UInt8) (c e r0 : Int) (k : List GToken) (j : Int) (g : List UInt8) (i l : Int) (h : ((e ≠ 0) → 0 = r0 ∧ d = k ∧ a = j ∧ b = g ∧ c = i ∧ e = l) ∧ ((e = 0) → (((d.length : Int) ≤ a) → 0 = r0 ∧ d = k ∧ a = j ∧ b = g ∧ c = i ∧ e = l) ∧ ((¬ (d.length : Int) ≤ a) → ∃ n, a = ((n : Nat) : Int) ∧ ∃ o, d[n]? = some o ∧ o.Kind = r0 ∧ d = k ∧ a = j ∧ b = g ∧ c = i ∧ e = l))) : aH d a b c e r0 k j g i l := by
 refine az 31 [0] Try.func53 rfl rfl rfl (bg rfl) fun K hK => ?_
 refine gR 7 rfl <| gDs [0] 17 17 rfl (by kernel_rfl) (by kernel_rfl) <| gDr [(0, 0), (1, 0), (2, 0), (3, 0), (4, 0), (5, 0)] (by kernel_rfl) rfl rfl <| qBhZ 8 7 rfl rfl rfl rfl h fB dY (fun h => ?_) fun h => ?_
 refine gDr [(6, 2), (7, 2), (8, 2), (9, 2), (10, 0), (11, 0), (12, 0), (13, 0), (14, 0), (15, 0), (16, 0)] (by kernel_rfl) rfl rfl <| gDe (by kernel_rfl) <| gR 9 rfl ?_
 obtain ⟨rfl, rfl, rfl, rfl, rfl, rfl⟩ := h
 exact go_sub (F' := (mkF 31 0 [(2, .int .i64 0)])) (H' := ⟨1, [(0, vA d a b c e)]⟩) [0] [0] rfl hK pq1 (pqo1 rfl rfl) rfl <| go_endD [] aa (rs := [.tmp 2]) rfl rfl ⟨rfl, rfl⟩
 refine gDr [(6, 2), (7, 2), (8, 2), (9, 3), (10, 0), (11, 0), (12, 0), (13, 0), (14, 0)] (by kernel_rfl) rfl rfl <| gV 17 (.int .i64 (d.length : Int)) rfl (bC (cQ GToken.w _)) rfl <| gLB 16 rfl (cQ GToken.w _) fun hl8 => gDr [(15, 0), (16, 0)] (by kernel_rfl) rfl rfl <| gDe (by kernel_rfl) <| gR 1 rfl <| qBd 19 rfl rfl rfl h (fun h => ?_) fun h => ?_
 refine gR 8 rfl ?_
 obtain ⟨rfl, rfl, rfl, rfl, rfl, rfl⟩ := h
 exact go_sub (F' := (mkF 31 0 [(2, .int .i64 0)])) (H' := ⟨1, [(0, vA d a b c e)]⟩) [0] [0] rfl hK pq1 (pqo1 rfl rfl) rfl <| go_endD [] aa (rs := [.tmp 2]) rfl rfl ⟨rfl, rfl⟩
 refine gR 4 rfl <| gDs [0] 8 12 rfl (by kernel_rfl) (by kernel_rfl) <| gDr [(0, 2), (1, 2), (2, 2), (3, 3), (4, 0), (5, 0), (6, 0), (7, 0)] (by kernel_rfl) rfl rfl ?_
 obtain ⟨n, p, h⟩ := h
 refine gV 27 (.int .i64 ((n : Nat) : Int)) rfl (iF p) rfl ?_
 obtain ⟨o, hxx0_2, h⟩ := h
 refine cu 8 rfl (by kernel_rfl) (aY (mapget (f := GToken.w) hxx0_2) aa rfl rfl rfl rfl) rfl rfl ?_
 refine gDr [(9, 1), (10, 1), (11, 1)] (by kernel_rfl) rfl rfl <| gDe (by kernel_rfl) <| gR 2 rfl ?_
 obtain ⟨rfl, rfl, rfl, rfl, rfl, rfl⟩ := h
 exact go_sub (F' := (mkF 31 0 [(2, .int .i64 o.Kind)])) (H' := ⟨1, [(0, vA d a b c e)]⟩) [0] [0] rfl hK pq1 (pqo1 rfl rfl) rfl <| go_endD [] aa (rs := [.tmp 2]) rfl rfl ⟨rfl, rfl⟩
theorem lO (m : Nat) (d : List GToken) (a : Int) (b : List UInt8) (c k : Int) (r0 : GToken) (o : List GToken) (j : Int) (e : List UInt8) (g p : Int) (h : ((k ≠ 0) → ∃ q r s t v, aZ d a b c k 2 q r s t v ∧ (GToken.mk 0 [] []) = r0 ∧ q = o ∧ r = j ∧ s = e ∧ t = g ∧ v = p) ∧ ((k = 0) → (((d.length : Int) ≤ a) → ∃ x y z α l, aZ d a b c k 2 x y z α l ∧ (GToken.mk 0 [] []) = r0 ∧ x = o ∧ y = j ∧ z = e ∧ α = g ∧ l = p) ∧ ((¬ (d.length : Int) ≤ a) → InI (a + 1) ∧ InI ((a + 1) - 1) ∧ ∃ n, ((a + 1) - 1) = ((n : Nat) : Int) ∧ ∃ i, d[n]? = some i ∧ i = r0 ∧ d = o ∧ (a + 1) = j ∧ b = e ∧ c = g ∧ k = p))) : cG d a b c k r0 o j e g p := by
 refine az 41 [0] Try.func52 rfl rfl rfl (bg rfl) fun K hK => ?_
 refine gR 7 rfl <| gDs [0] 17 17 rfl (by kernel_rfl) (by kernel_rfl) <| gDr [(0, 0), (1, 0), (2, 0), (3, 0), (4, 0), (5, 0)] (by kernel_rfl) rfl rfl <| qBhZ 8 7 rfl rfl rfl rfl h fB dY (fun h => ?_) fun h => ?_
 refine gDr [(6, 2), (7, 2), (8, 2), (9, 2), (10, 0), (11, 0), (12, 0), (13, 0), (14, 0), (15, 0), (16, 0)] (by kernel_rfl) rfl rfl <| gDe (by kernel_rfl) <| gR 5 rfl ?_
 obtain ⟨q, r, s, t, v, hs10, h⟩ := h
 refine gCY hs10 [0] ?_
 refine gR 10 rfl ?_
 obtain ⟨rfl, rfl, rfl, rfl, rfl, rfl⟩ := h
 exact go_sub (F' := (mkF 41 0 [(2, .ptr 1 0)])) (H' := ⟨2, [(1, .var 41 [.int .i64 ((GToken.mk 0 [] []).Kind), .str ((GToken.mk 0 [] []).Lead), .str ((GToken.mk 0 [] []).Text)]), (0, vA q r s t v)]⟩) [0, 1] [0] rfl hK pq1 (pqo2 rfl rfl rfl rfl) rfl <| go_endD [1] aa (rs := [.cell 2 41]) rfl rfl ⟨rfl, rfl⟩
 refine gDr [(6, 2), (7, 2), (8, 2), (9, 3), (10, 0), (11, 0), (12, 0), (13, 0), (14, 0)] (by kernel_rfl) rfl rfl <| gV 17 (.int .i64 (d.length : Int)) rfl (bC (cQ GToken.w _)) rfl <| gLB 16 rfl (cQ GToken.w _) fun hl11 => gDr [(15, 0), (16, 0)] (by kernel_rfl) rfl rfl <| gDe (by kernel_rfl) <| gR 1 rfl <| qBd 19 rfl rfl rfl h (fun h => ?_) fun h => ?_
 refine gR 4 rfl ?_
 obtain ⟨x, y, z, α, l, hs12, h⟩ := h
 refine gCY hs12 [0] ?_
 refine gR 10 rfl ?_
 obtain ⟨rfl, rfl, rfl, rfl, rfl, rfl⟩ := h
 exact go_sub (F' := (mkF 41 0 [(2, .ptr 1 0)])) (H' := ⟨2, [(1, .var 41 [.int .i64 ((GToken.mk 0 [] []).Kind), .str ((GToken.mk 0 [] []).Lead), .str ((GToken.mk 0 [] []).Text)]), (0, vA x y z α l)]⟩) [0, 1] [0] rfl hK pq1 (pqo2 rfl rfl rfl rfl) rfl <| go_endD [1] aa (rs := [.cell 2 41]) rfl rfl ⟨rfl, rfl⟩
 refine gR 9 rfl ?_
 obtain ⟨hb, h⟩ := h
 refine gR 1 rfl <| gV 27 (.int .i64 (a + 1)) rfl (cM hb rfl) rfl <| gR 6 rfl <| gDs [0] 11 12 rfl (by kernel_rfl) (by kernel_rfl) <| gDr [(0, 2), (1, 2), (2, 2), (3, 3), (4, 0), (5, 0), (6, 0), (7, 0)] (by kernel_rfl) rfl rfl ?_
 obtain ⟨hb, h⟩ := h
 refine gDr [(8, 0)] (by kernel_rfl) rfl rfl <| gV 38 (.int .i64 ((a + 1) - 1)) rfl (cM hb rfl) rfl ?_
 obtain ⟨n, β, h⟩ := h
 refine gV 38 (.int .i64 ((n : Nat) : Int)) rfl (iF β) rfl ?_
 obtain ⟨i, hxx0_12, h⟩ := h
 refine cu 9 rfl (by kernel_rfl) (aY (mapget (f := GToken.w) hxx0_12) aa rfl rfl rfl rfl) rfl rfl ?_
 refine gDr [(10, 0), (11, 1)] (by kernel_rfl) rfl rfl <| gDe (by kernel_rfl) <| gR 2 rfl ?_
 obtain ⟨rfl, rfl, rfl, rfl, rfl, rfl⟩ := h
 exact go_sub (F' := (mkF 41 0 [(2, .ptr 1 0)])) (H' := ⟨2, [(1, .var 41 (GToken.c i)), (0, vA d (a + 1) b c k)]⟩) [0, 1] [0] rfl hK pq1 (pqo2 rfl rfl rfl rfl) rfl <| go_endD [1] aa (rs := [.cell 2 41]) rfl rfl ⟨rfl, rfl⟩
theorem iq (m : Nat) (ν : List GToken) (z : Int) (x : List UInt8) (y ξ c : Int) (d : List UInt8) (a : (List (List UInt8))) (b : List Tree) (p2 : List UInt8) (κ : List GToken) (n : Int) (g : List UInt8) (i μ j : Int) (k : List UInt8) (f : (List (List UInt8))) (l : List Tree) (h : ∃ α β γ δ ε ζ, aq ν z x y ξ p2 α β γ δ ε ζ ∧ ((α = false) → ∃ η θ ι o p, aZ β γ δ ε ζ 2 η θ ι o p ∧ η = κ ∧ θ = n ∧ ι = g ∧ o = i ∧ p = μ ∧ c = j ∧ d = k ∧ a = f ∧ b = l) ∧ ((α = true) → ∃ e q r s t v, cG β γ δ ε ζ e q r s t v ∧ (a ++ [e.Lead]).length ≤ 1000000000 ∧ q = κ ∧ r = n ∧ s = g ∧ t = i ∧ v = μ ∧ c = j ∧ d = k ∧ (a ++ [e.Lead]) = f ∧ b = l)) : al ν z x y ξ c d a b p2 κ n g i μ j k f l := by
 refine az 24 [1, 0] Try.func30 rfl rfl rfl (bg rfl) fun K hK => ?_
 refine gR 5 rfl ?_
 obtain ⟨α, β, γ, δ, ε, ζ, hs4, h⟩ := h
 refine gCY hs4 [0] ?_
 refine gR 3 rfl <| qBh 9 rfl rfl rfl h iQ iO (fun h => ?_) fun h => ?_
 refine gR 4 rfl ?_
 obtain ⟨η, θ, ι, o, p, hs5, h⟩ := h
 refine gCY hs5 [0] ?_
 refine gR 4 rfl ?_
 obtain ⟨rfl, rfl, rfl, rfl, rfl, rfl, rfl, rfl, rfl⟩ := h
 exact go_sub (F' := (mkF 24 0 [])) (H' := ⟨4, [(3, .row 26 4 (kidsV b)), (2, .row 9 1 (List.map V.str a)), (1, .var 26 [.int .i64 c, .str d, .sl 2, .sl 3]), (0, vA η θ ι o p)]⟩) [0, 1, 2, 3] [1, 0] rfl hK trivial ⟨⟨_, rfl, rfl, rfl, (ah _ b).symm⟩, ⟨_, rfl, rfl, rfl, (vI _ a).symm⟩, (pqo2 rfl rfl rfl rfl)⟩ rfl <| go_endD [] aa (rs := []) rfl rfl ⟨rfl, rfl⟩
 refine gR 3 rfl <| gDs [1] 12 13 rfl (by kernel_rfl) (by kernel_rfl) <| gDr [(0, 2), (1, 2), (2, 2), (3, 2), (4, 3), (5, 0)] (by kernel_rfl) rfl rfl ?_
 obtain ⟨e, q, r, s, t, v, hs6, h⟩ := h
 refine gDCY 6 hs6 [0] rfl ?_
 refine gDr [(7, 0), (8, 0)] (by kernel_rfl) rfl rfl ?_
 obtain ⟨hb, h⟩ := h
 refine ax 9 (.repl 2 (.row 9 1 (List.map V.str (a ++ [e.Lead])))) rfl (by kernel_rfl) (bu aa rfl rfl rfl rfl rfl (apM V.str a e.Lead) (by rw [cQ]; exact hb)) (okR rfl) rfl (by kernel_rfl) rfl rfl ?_
 refine gDr [(10, 0), (11, 0), (12, 1)] (by kernel_rfl) rfl rfl <| gDe (by kernel_rfl) ?_
 obtain ⟨rfl, rfl, rfl, rfl, rfl, rfl, rfl, rfl, rfl⟩ := h
 exact go_sub (F' := (mkF 24 0 [])) (H' := ⟨4, [(3, .row 26 4 (kidsV b)), (2, .row 9 1 (List.map V.str (a ++ [e.Lead]))), (1, .var 26 [.int .i64 c, .str d, .sl 2, .sl 3]), (0, vA q r s t v)]⟩) [0, 1, 8, 3] [1, 0] rfl hK trivial ⟨⟨_, rfl, rfl, rfl, (ah _ b).symm⟩, ⟨_, rfl, rfl, rfl, (vI _ (a ++ [e.Lead])).symm⟩, (pqo2 rfl rfl rfl rfl)⟩ rfl <| go_endD [] aa (rs := []) rfl rfl ⟨rfl, rfl⟩
theorem iu (m : Nat) (ν : List GToken) (z : Int) (x : List UInt8) (y ξ d : Int) (f : List UInt8) (a : (List (List UInt8))) (b : List Tree) (p2 : Int) (κ : List GToken) (n : Int) (g : List UInt8) (i μ j : Int) (k : List UInt8) (e : (List (List UInt8))) (l : List Tree) (h : ∃ α β γ δ ε ζ, aH ν z x y ξ α β γ δ ε ζ ∧ ((α ≠ p2) → ∃ η θ ι o p, aZ β γ δ ε ζ 2 η θ ι o p ∧ η = κ ∧ θ = n ∧ ι = g ∧ o = i ∧ p = μ ∧ d = j ∧ f = k ∧ a = e ∧ b = l) ∧ ((α = p2) → ∃ c q r s t v, cG β γ δ ε ζ c q r s t v ∧ (a ++ [c.Lead]).length ≤ 1000000000 ∧ q = κ ∧ r = n ∧ s = g ∧ t = i ∧ v = μ ∧ d = j ∧ c.Text = k ∧ (a ++ [c.Lead]) = e ∧ b = l)) : aS ν z x y ξ d f a b p2 κ n g i μ j k e l := by
 refine az 31 [1, 0] Try.func31 rfl rfl rfl (bg rfl) fun K hK => ?_
 refine gR 4 rfl ?_
 obtain ⟨α, β, γ, δ, ε, ζ, hs4, h⟩ := h
 refine gCY hs4 [0] ?_
 refine gR 4 rfl <| qBh 10 rfl rfl rfl h fB dY (fun h => ?_) fun h => ?_
 refine gR 4 rfl ?_
 obtain ⟨η, θ, ι, o, p, hs5, h⟩ := h
 refine gCY hs5 [0] ?_
 refine gR 4 rfl ?_
 obtain ⟨rfl, rfl, rfl, rfl, rfl, rfl, rfl, rfl, rfl⟩ := h
 exact go_sub (F' := (mkF 31 0 [])) (H' := ⟨4, [(3, .row 26 4 (kidsV b)), (2, .row 9 1 (List.map V.str a)), (1, .var 26 [.int .i64 d, .str f, .sl 2, .sl 3]), (0, vA η θ ι o p)]⟩) [0, 1, 2, 3] [1, 0] rfl hK trivial ⟨⟨_, rfl, rfl, rfl, (ah _ b).symm⟩, ⟨_, rfl, rfl, rfl, (vI _ a).symm⟩, (pqo2 rfl rfl rfl rfl)⟩ rfl <| go_endD [] aa (rs := []) rfl rfl ⟨rfl, rfl⟩
 refine gR 6 rfl ?_
 obtain ⟨c, q, r, s, t, v, hs6, h⟩ := h
 refine gCY hs6 [0] ?_
 refine gR 14 rfl <| gDs [1, 7] 11 12 rfl (by kernel_rfl) (by kernel_rfl) <| gDr [(0, 2), (1, 2), (2, 2), (3, 2), (4, 3), (5, 0), (6, 0), (7, 0)] (by kernel_rfl) rfl rfl ?_
 obtain ⟨hb, h⟩ := h
 refine ax 8 (.repl 2 (.row 9 1 (List.map V.str (a ++ [c.Lead])))) rfl (by kernel_rfl) (bu aa rfl rfl rfl rfl rfl (apM V.str a c.Lead) (by rw [cQ]; exact hb)) (okR rfl) rfl (by kernel_rfl) rfl rfl ?_
 refine gDr [(9, 0), (10, 0), (11, 1)] (by kernel_rfl) rfl rfl <| gDe (by kernel_rfl) ?_
 obtain ⟨rfl, rfl, rfl, rfl, rfl, rfl, rfl, rfl, rfl⟩ := h
 exact go_sub (F' := (mkF 31 0 [])) (H' := ⟨4, [(3, .row 26 4 (kidsV b)), (2, .row 9 1 (List.map V.str (a ++ [c.Lead]))), (1, .var 26 [.int .i64 d, .str c.Text, .sl 2, .sl 3]), (0, vA q r s t v)]⟩) [0, 1, 9, 3] [1, 0] rfl hK trivial ⟨⟨_, rfl, rfl, rfl, (ah _ b).symm⟩, ⟨_, rfl, rfl, rfl, (vI _ (a ++ [c.Lead])).symm⟩, (pqo2 rfl rfl rfl rfl)⟩ rfl <| go_endD [] aa (rs := []) rfl rfl ⟨rfl, rfl⟩
theorem lD (m : Nat) (o : List GToken) (f : Int) (b : List UInt8) (c p p1 : Int) (r0 : Tree) (q : List GToken) (g : Int) (d : List UInt8) (e r : Int) (h : ∃ a i j k l n, cG o f b c p a i j k l n ∧ (Tree.node p1 [] [a.Lead] []) = r0 ∧ i = q ∧ j = g ∧ k = d ∧ l = e ∧ n = r) : bJ o f b c p p1 r0 q g d e r := by
 refine az 11 [0] Try.func79 rfl rfl rfl (bg rfl) fun K hK => ?_
 refine gR 9 rfl ?_
 obtain ⟨a, i, j, k, l, n, hs2, h⟩ := h
 refine gCY hs2 [0] ?_
 refine gR 7 rfl <| gFR 4 rfl rfl rfl rfl ?_
 obtain ⟨rfl, rfl, rfl, rfl, rfl, rfl⟩ := h
 exact go_sub (F' := (mkF 11 0 [(4, .ptr 1 0)])) (H' := ⟨2, [(1, vF ((Tree.node p1 [] [a.Lead] []).kind) ((Tree.node p1 [] [a.Lead] []).text) ((Tree.node p1 [] [a.Lead] []).leads) ((Tree.node p1 [] [a.Lead] []).kids)), (0, vA i j k l n)]⟩) [0, 1] [0] rfl hK pq1 ⟨⟨_, rfl, rfl, (.cons .rfl (.cons .rfl (.cons .rfl (.cons (.nil 4) .nil))))⟩, (pqo1 rfl rfl)⟩ rfl <| go_endD [1] aa (rs := [.cell 4 26]) rfl rfl ⟨rfl, rfl⟩
def iJ (m : Nat) (e : Int) (f : List UInt8) (g : (List (List UInt8))) (a : List Tree) (i : Tree) (j : List GToken) (k : Int) (l : List UInt8) (n o : Int) (r0 : Tree) (p : List GToken) (d : Int) (b : List UInt8) (c q : Int) : Prop := ∀ (K : Ctx), aR K [0] → Go Try.prog K (bodyPost Try.prog Try.f54 (SP K (fun u G => u = .agg (ar r0) ∧ G = ⟨2, [(0, vA p d b c q)]⟩))) (.ex .normal) [.seq (xC (xA (aj Try.f54)))] 56 (mkF 56 0 [(0, .ptr 0 0), (2, .ptr 1 0), (4, .ptr 2 0)]) ⟨5, [(4, .row 26 4 (kidsV ((a ++ [(Tree.node 0 [] [] [])]).set a.length i))), (3, .row 9 1 (List.map V.str g)), (2, vD e f), (1, vB 0 []), (0, vA j k l n o)]⟩
theorem bV (m : Nat) (p0_l : List GToken) (p0_at_ : Int) (p0_tail : List UInt8) (p0_stop p0_e : Int) (r0 : Tree) (ο : List GToken) (k : Int) (d : List UInt8) (e π : Int) (h : ∃ b0_1 r0_2 n0_3 s0_4 n0_5 n0_6, aq p0_l p0_at_ p0_tail p0_stop p0_e [73, 110, 116] b0_1 r0_2 n0_3 s0_4 n0_5 n0_6 ∧ ((b0_1 = true) → ∃ τ r0_8 n0_9 s0_10 n0_11 n0_12, bJ r0_2 n0_3 s0_4 n0_5 n0_6 5 τ r0_8 n0_9 s0_10 n0_11 n0_12 ∧ τ = r0 ∧ r0_8 = ο ∧ n0_9 = k ∧ s0_10 = d ∧ n0_11 = e ∧ n0_12 = π) ∧ ((b0_1 = false) → ∃ b0_13 r0_14 n0_15 s0_16 n0_17 n0_18, aq r0_2 n0_3 s0_4 n0_5 n0_6 [84, 101, 120, 116] b0_13 r0_14 n0_15 s0_16 n0_17 n0_18 ∧ ((b0_13 = true) → ∃ x r0_20 n0_21 s0_22 n0_23 n0_24, bJ r0_14 n0_15 s0_16 n0_17 n0_18 6 x r0_20 n0_21 s0_22 n0_23 n0_24 ∧ x = r0 ∧ r0_20 = ο ∧ n0_21 = k ∧ s0_22 = d ∧ n0_23 = e ∧ n0_24 = π) ∧ ((b0_13 = false) → ∃ b0_25 δ ε ζ η θ, aq r0_14 n0_15 s0_16 n0_17 n0_18 [66, 111, 111, 108] b0_25 δ ε ζ η θ ∧ ((b0_25 = true) → ∃ y r0_32 n0_33 s0_34 n0_35 n0_36, bJ δ ε ζ η θ 7 y r0_32 n0_33 s0_34 n0_35 n0_36 ∧ y = r0 ∧ r0_32 = ο ∧ n0_33 = k ∧ s0_34 = d ∧ n0_35 = e ∧ n0_36 = π) ∧ ((b0_25 = false) → ∃ n0_37 υ φ χ ψ ω, aH δ ε ζ η θ n0_37 υ φ χ ψ ω ∧ ((n0_37 = 2) → ∃ n0_43 r0_44 n0_45 s0_46 n0_47 n0_48, aH υ φ χ ψ ω n0_43 r0_44 n0_45 s0_46 n0_47 n0_48 ∧ ∃ r0_49 n0_50 s0_51 n0_52 n0_53 z α n o, aS r0_44 n0_45 s0_46 n0_47 n0_48 9 [] ([] : List (List UInt8)) ([] : List Tree) n0_43 r0_49 n0_50 s0_51 n0_52 n0_53 z α n o ∧ (Tree.node z α n o) = r0 ∧ r0_49 = ο ∧ n0_50 = k ∧ s0_51 = d ∧ n0_52 = e ∧ n0_53 = π) ∧ ((n0_37 ≠ 2) → ∃ n0_58 ι κ μ ν ξ, aH υ φ χ ψ ω n0_58 ι κ μ ν ξ ∧ ((n0_58 = 4) → ∃ n0_64 r0_65 n0_66 s0_67 n0_68 n0_69, aH ι κ μ ν ξ n0_64 r0_65 n0_66 s0_67 n0_68 n0_69 ∧ ∃ r0_70 n0_71 s0_72 n0_73 n0_74 β γ p q, aS r0_65 n0_66 s0_67 n0_68 n0_69 9 [] ([] : List (List UInt8)) ([] : List Tree) n0_64 r0_70 n0_71 s0_72 n0_73 n0_74 β γ p q ∧ (Tree.node β γ p q) = r0 ∧ r0_70 = ο ∧ n0_71 = k ∧ s0_72 = d ∧ n0_73 = e ∧ n0_74 = π) ∧ ((n0_58 ≠ 4) → ∃ r s t v l f g b a, al ι κ μ ν ξ 8 [] ([] : List (List UInt8)) ([] : List Tree) [91] r s t v l f g b a ∧ ((l ≠ 0) → (Tree.node f g b a) = r0 ∧ r = ο ∧ s = k ∧ t = d ∧ v = e ∧ l = π) ∧ ((l = 0) → ∃ c r0_89 n0_90 s0_91 n0_92 n0_93, cg r s t v l c r0_89 n0_90 s0_91 n0_92 n0_93 ∧ (a ++ [(Tree.node 0 [] [] [])]).length ≤ 1000000000 ∧ ∃ t0_94, (a ++ [(Tree.node 0 [] [] [])])[a.length]? = some t0_94 ∧ iJ m f g b a c r0_89 n0_90 s0_91 n0_92 n0_93 r0 ο k d e π))))))) : cg p0_l p0_at_ p0_tail p0_stop p0_e r0 ο k d e π := by
 refine az 56 [0] Try.func54 rfl rfl rfl (bg rfl) fun K hK => ?_
 refine gR 10 rfl ?_
 obtain ⟨b0_1, r0_2, n0_3, s0_4, n0_5, n0_6, hs39, h⟩ := h
 refine gCY hs39 [0] ?_
 refine gR 3 rfl <| qBiZ 5 7 rfl rfl rfl rfl h (fun h => ?_) fun h => ?_
 refine gR 4 rfl ?_
 obtain ⟨τ, r0_8, n0_9, s0_10, n0_11, n0_12, hs40, h⟩ := h
 refine gCY hs40 [0] ?_
 refine gR 6 rfl ?_
 obtain ⟨rfl, rfl, rfl, rfl, rfl, rfl⟩ := h
 exact go_sub (F' := (mkF 56 0 [(2, .ptr 1 0)])) (H' := ⟨2, [(1, vF τ.kind τ.text τ.leads τ.kids), (0, vA r0_8 n0_9 s0_10 n0_11 n0_12)]⟩) [0, 1] [0] rfl hK pq1 (pqo2 rfl rfl rfl rfl) rfl <| go_endD [1] aa (rs := [.cell 2 26]) rfl rfl ⟨rfl, rfl⟩
 refine gR 4 rfl ?_
 obtain ⟨b0_13, r0_14, n0_15, s0_16, n0_17, n0_18, hs41, h⟩ := h
 refine gCY hs41 [0] ?_
 refine gR 3 rfl <| qBiZ 10 12 rfl rfl rfl rfl h (fun h => ?_) fun h => ?_
 refine gR 4 rfl ?_
 obtain ⟨x, r0_20, n0_21, s0_22, n0_23, n0_24, hs42, h⟩ := h
 refine gCY hs42 [0] ?_
 refine gR 6 rfl ?_
 obtain ⟨rfl, rfl, rfl, rfl, rfl, rfl⟩ := h
 exact go_sub (F' := (mkF 56 0 [(2, .ptr 1 0)])) (H' := ⟨2, [(1, vF x.kind x.text x.leads x.kids), (0, vA r0_20 n0_21 s0_22 n0_23 n0_24)]⟩) [0, 1] [0] rfl hK pq1 (pqo2 rfl rfl rfl rfl) rfl <| go_endD [1] aa (rs := [.cell 2 26]) rfl rfl ⟨rfl, rfl⟩
 refine gR 4 rfl ?_
 obtain ⟨b0_25, δ, ε, ζ, η, θ, hs43, h⟩ := h
 refine gCY hs43 [0] ?_
 refine gR 3 rfl <| qBiZ 15 17 rfl rfl rfl rfl h (fun h => ?_) fun h => ?_
 refine gR 1 rfl <| go_sub (F' := (mkF 56 0 [(0, .ptr 0 0), (2, .ptr 1 0)])) (H' := ⟨2, [(1, vB 0 []), (0, vA δ ε ζ η θ)]⟩) [0, 1] [0] rfl hK pq2 (pqo2 rfl rfl rfl rfl) rfl <| gR 3 rfl ?_
 obtain ⟨y, r0_32, n0_33, s0_34, n0_35, n0_36, hs44, h⟩ := h
 refine gCY hs44 [0] ?_
 refine gR 6 rfl ?_
 obtain ⟨rfl, rfl, rfl, rfl, rfl, rfl⟩ := h
 exact go_sub (F' := (mkF 56 0 [(2, .ptr 1 0)])) (H' := ⟨2, [(1, vF y.kind y.text y.leads y.kids), (0, vA r0_32 n0_33 s0_34 n0_35 n0_36)]⟩) [0, 1] [0] rfl hK pq1 (pqo2 rfl rfl rfl rfl) rfl <| go_endD [1] aa (rs := [.cell 2 26]) rfl rfl ⟨rfl, rfl⟩
 refine gR 1 rfl <| go_sub (F' := (mkF 56 0 [(0, .ptr 0 0), (2, .ptr 1 0)])) (H' := ⟨2, [(1, vB 0 []), (0, vA δ ε ζ η θ)]⟩) [0, 1] [0] rfl hK pq2 (pqo2 rfl rfl rfl rfl) rfl <| gR 3 rfl ?_
 obtain ⟨n0_37, υ, φ, χ, ψ, ω, hs45, h⟩ := h
 refine gCY hs45 [0] ?_
 refine gR 2 rfl <| qBeZ 24 23 rfl rfl rfl rfl h (fun h => ?_) fun h => ?_
 refine gR 8 rfl <| go_sub (F' := (mkF 56 0 [(0, .ptr 0 0), (2, .ptr 1 0)])) (H' := ⟨2, [(1, vB 0 []), (0, vA υ φ χ ψ ω)]⟩) [0, 1] [0] rfl hK pq2 (pqo2 rfl rfl rfl rfl) rfl <| gR 11 rfl ?_
 obtain ⟨n0_43, r0_44, n0_45, s0_46, n0_47, n0_48, hs46, h⟩ := h
 refine gCY hs46 [0] ?_
 refine gNC 2 2 9 1 rfl rfl rfl rfl <| gNC 2 3 26 4 rfl rfl rfl rfl ?_
 obtain ⟨r0_49, n0_50, s0_51, n0_52, n0_53, z, α, n, o, hs47, h⟩ := h
 refine gCZ hs47 [0, 2, 4, 5] ⟨⟨_, rfl, ⟨rfl, rfl, rfl⟩⟩, ⟨⟨_, rfl, ⟨rfl, rfl, rfl⟩⟩, ⟨⟨_, rfl, ⟨rfl, ak.rfl⟩⟩, ⟨⟨_, rfl, ⟨rfl, ak.rfl⟩⟩, trivial⟩⟩⟩⟩ ?_
 refine gHR 8 (List.map V.str n) rfl (vI _ n) rfl <| gHR 9 (kidsV o) rfl (ah _ o) rfl <| gR 11 rfl <| gFR 8 rfl (ch _ (fun _ => rfl) _) rfl rfl <| gFR 9 rfl (cm _) rfl rfl ?_
 obtain ⟨rfl, rfl, rfl, rfl, rfl, rfl⟩ := h
 exact go_sub (F' := (mkF 56 0 [(2, .ptr 1 0)])) (H' := ⟨2, [(1, vF ((Tree.node z α n o).kind) ((Tree.node z α n o).text) ((Tree.node z α n o).leads) ((Tree.node z α n o).kids)), (0, vA r0_49 n0_50 s0_51 n0_52 n0_53)]⟩) [0, 1] [0] rfl hK pq1 (pqo2 rfl rfl rfl rfl) rfl <| go_endD [1] aa (rs := [.cell 2 26]) rfl rfl ⟨rfl, rfl⟩
 refine gR 1 rfl ?_
 obtain ⟨n0_58, ι, κ, μ, ν, ξ, hs48, h⟩ := h
 refine gCY hs48 [0] ?_
 refine gR 5 rfl <| qBeZ 20 28 rfl rfl rfl rfl h (fun h => ?_) fun h => ?_
 refine gR 1 rfl <| go_sub (F' := (mkF 56 0 [(0, .ptr 0 0), (2, .ptr 1 0)])) (H' := ⟨2, [(1, vB 0 []), (0, vA ι κ μ ν ξ)]⟩) [0, 1] [0] rfl hK pq2 (pqo2 rfl rfl rfl rfl) rfl <| gR 11 rfl ?_
 obtain ⟨n0_64, r0_65, n0_66, s0_67, n0_68, n0_69, hs49, h⟩ := h
 refine gCY hs49 [0] ?_
 refine gNC 2 2 9 1 rfl rfl rfl rfl <| gNC 2 3 26 4 rfl rfl rfl rfl ?_
 obtain ⟨r0_70, n0_71, s0_72, n0_73, n0_74, β, γ, p, q, hs50, h⟩ := h
 refine gCZ hs50 [0, 2, 4, 5] ⟨⟨_, rfl, ⟨rfl, rfl, rfl⟩⟩, ⟨⟨_, rfl, ⟨rfl, rfl, rfl⟩⟩, ⟨⟨_, rfl, ⟨rfl, ak.rfl⟩⟩, ⟨⟨_, rfl, ⟨rfl, ak.rfl⟩⟩, trivial⟩⟩⟩⟩ ?_
 refine gHR 8 (List.map V.str p) rfl (vI _ p) rfl <| gHR 9 (kidsV q) rfl (ah _ q) rfl <| gR 11 rfl <| gFR 8 rfl (ch _ (fun _ => rfl) _) rfl rfl <| gFR 9 rfl (cm _) rfl rfl ?_
 obtain ⟨rfl, rfl, rfl, rfl, rfl, rfl⟩ := h
 exact go_sub (F' := (mkF 56 0 [(2, .ptr 1 0)])) (H' := ⟨2, [(1, vF ((Tree.node β γ p q).kind) ((Tree.node β γ p q).text) ((Tree.node β γ p q).leads) ((Tree.node β γ p q).kids)), (0, vA r0_70 n0_71 s0_72 n0_73 n0_74)]⟩) [0, 1] [0] rfl hK pq1 (pqo2 rfl rfl rfl rfl) rfl <| go_endD [1] aa (rs := [.cell 2 26]) rfl rfl ⟨rfl, rfl⟩
 refine gR 4 rfl <| go_sub (F' := (mkF 56 0 [(0, .ptr 0 0), (2, .ptr 1 0)])) (H' := ⟨2, [(1, vB 0 []), (0, vA ι κ μ ν ξ)]⟩) [0, 1] [0] rfl hK pq2 (pqo2 rfl rfl rfl rfl) rfl <| gR 10 rfl <| gNC 2 2 9 1 rfl rfl rfl rfl <| gNC 2 3 26 4 rfl rfl rfl rfl ?_
 obtain ⟨r, s, t, v, l, f, g, b, a, hs51, h⟩ := h
 refine gCZ hs51 [0, 2, 3, 4] ⟨⟨_, rfl, ⟨rfl, rfl, rfl⟩⟩, ⟨⟨_, rfl, ⟨rfl, rfl, rfl⟩⟩, ⟨⟨_, rfl, ⟨rfl, ak.rfl⟩⟩, ⟨⟨_, rfl, ⟨rfl, ak.rfl⟩⟩, trivial⟩⟩⟩⟩ ?_
 refine gHR 7 (List.map V.str b) rfl (vI _ b) rfl <| gHR 8 (kidsV a) rfl (ah _ a) rfl <| gR 12 rfl <| qBh 42 rfl rfl rfl h fB dY (fun h => ?_) fun h => ?_
 refine gR 1 rfl <| go_sub (F' := (mkF 56 0 [(2, .ptr 1 0), (4, .ptr 2 0)])) (H' := ⟨5, [(4, .row 26 4 (kidsV a)), (3, .row 9 1 (List.map V.str b)), (2, vD f g), (1, vB 0 []), (0, vA r s t v l)]⟩) [0, 1, 2, 7, 8] [0] rfl hK pq2 ⟨⟨_, rfl, rfl, rfl, (ah _ a).symm⟩, ⟨_, rfl, rfl, rfl, (vI _ b).symm⟩, (pqo3 rfl rfl rfl rfl rfl rfl)⟩ rfl <| gR 8 rfl <| gFR 3 rfl (ch _ (fun _ => rfl) _) rfl rfl <| gFR 4 rfl (cm _) rfl rfl ?_
 obtain ⟨rfl, rfl, rfl, rfl, rfl, rfl⟩ := h
 exact go_sub (F' := (mkF 56 0 [(2, .ptr 1 0)])) (H' := ⟨2, [(1, vF ((Tree.node f g b a).kind) ((Tree.node f g b a).text) ((Tree.node f g b a).leads) ((Tree.node f g b a).kids)), (0, vA r s t v l)]⟩) [0, 1] [0] rfl hK pq1 (pqo2 rfl rfl rfl rfl) rfl <| go_endD [1] aa (rs := [.cell 2 26]) rfl rfl ⟨rfl, rfl⟩
 refine gR 3 rfl <| go_sub (F' := (mkF 56 0 [(0, .ptr 0 0), (2, .ptr 1 0), (4, .ptr 2 0)])) (H' := ⟨5, [(4, .row 26 4 (kidsV a)), (3, .row 9 1 (List.map V.str b)), (2, vD f g), (1, vB 0 []), (0, vA r s t v l)]⟩) [0, 1, 2, 7, 8] [0] rfl hK pq3 ⟨⟨_, rfl, rfl, rfl, (ah _ a).symm⟩, ⟨_, rfl, rfl, rfl, (vI _ b).symm⟩, (pqo3 rfl rfl rfl rfl rfl rfl)⟩ rfl <| gR 1 rfl <| gDs [2] 6 11 rfl (by kernel_rfl) (by kernel_rfl) <| gDr [(0, 2), (1, 3), (2, 2), (4, 2)] (by kernel_rfl) rfl rfl <| gV 48 (.int .i64 (a.length : Int)) rfl (bC (av _)) rfl ?_
 refine gLO 4 rfl (av _) fun hl55 => ?_
 obtain ⟨c, r0_89, n0_90, s0_91, n0_92, n0_93, hs56, h⟩ := h
 apply aF (i := 3) (j := 5) (by kernel_rfl) rfl rfl rfl rfl
 exact (de (L' := [2]) (by kernel_rfl) rfl rfl (df (H := ⟨5, [(4, .row 26 4 (kidsV a)), (3, .row 9 1 (List.map V.str b)), (2, vD f g), (1, vB 0 []), (0, vA r s t v l)]⟩) hs56 [0] .rfl ⟨⟨_, rfl, ⟨rfl, ak.rfl⟩⟩, trivial⟩ rfl [2] rfl) (.inl rfl))
 exact (aD aa rfl rfl)
 refine gDr [(5, 0)] (by kernel_rfl) rfl rfl <| gHX 7 [.agg [.int .i64 0, .str [], .row 1 [], .row 4 (kidsV [])]] rfl (.cons (.agg (.cons .rfl (.cons .rfl (.cons (.nil 1) (.cons (.nil 4) .nil))))) .nil) rfl <| gHR 7 (kidsV [(Tree.node 0 [] [] [])]) rfl (bv (Tree.node 0 [] [] [])) rfl ?_
 obtain ⟨hb, h⟩ := h
 refine ax 6 (.repl 4 (.row 26 4 (kidsV (a ++ [(Tree.node 0 [] [] [])])))) rfl (by kernel_rfl) (bu aa rfl rfl rfl rfl rfl (aC a [(Tree.node 0 [] [] [])]).symm (by rw [av]; exact hb)) (okR rfl) rfl (by kernel_rfl) rfl rfl ?_
 obtain ⟨t0_94, hxt0_94, h⟩ := h
 refine gYd 7 rfl (by kernel_rfl) (yIO aa rfl rfl rfl rfl (by have := (ae hxt0_94); exact (List.getElem?_eq_some_iff.1 this).1)) rfl rfl ?_
 refine gDr [(9, 2)] (by kernel_rfl) rfl rfl ?_
 apply aF (i := 8) (j := 10) (by kernel_rfl) rfl rfl rfl rfl
 exact (ba (.set 8 (.row 26 4 (kidsV ((a ++ [(Tree.node 0 [] [] [])]).set a.length c)))) (dSe aa rfl rfl rfl rfl (ae hxt0_94) rfl (bp (a ++ [(Tree.node 0 [] [] [])]) a.length c)) (okS rfl) (by kernel_rfl))
 exact (aD aa rfl rfl)
 exact gDr [(10, 1)] (by kernel_rfl) rfl rfl <| gDe (by kernel_rfl) <| gJ (h K hK) [0, 1, 2, 3, 8] [0] rfl hK pq3 ⟨⟨_, rfl, rfl, rfl, (ah _ ((a ++ [(Tree.node 0 [] [] [])]).set a.length c)).symm⟩, ⟨_, rfl, rfl, rfl, (vI _ b).symm⟩, (pqo3 rfl rfl rfl rfl rfl rfl)⟩ rfl
 refine ax 8 (.set 8 (.row 26 4 (kidsV ((a ++ [(Tree.node 0 [] [] [])]).set a.length c)))) rfl (by kernel_rfl) (dSe aa rfl rfl rfl rfl (ae hxt0_94) rfl (bp (a ++ [(Tree.node 0 [] [] [])]) a.length c)) (okS rfl) rfl (by kernel_rfl) rfl rfl ?_
 exact gDe (by kernel_rfl) <| gJ (h K hK) [0, 1, 2, 3, 8] [0] rfl hK pq3 ⟨⟨_, rfl, rfl, rfl, (ah _ ((a ++ [(Tree.node 0 [] [] [])]).set a.length c)).symm⟩, ⟨_, rfl, rfl, rfl, (vI _ b).symm⟩, (pqo3 rfl rfl rfl rfl rfl rfl)⟩ rfl
 refine gHX 5 [.agg [.int .i64 0, .str [], .row 1 [], .row 4 (kidsV [])]] rfl (.cons (.agg (.cons .rfl (.cons .rfl (.cons (.nil 1) (.cons (.nil 4) .nil))))) .nil) rfl ?_
 refine gHR 5 (kidsV [(Tree.node 0 [] [] [])]) rfl (bv (Tree.node 0 [] [] [])) rfl <| gDCY 3 hs56 [0] rfl ?_
 obtain ⟨hb, h⟩ := h
 refine ax 6 (.repl 4 (.row 26 4 (kidsV (a ++ [(Tree.node 0 [] [] [])])))) rfl (by kernel_rfl) (bu aa rfl rfl rfl rfl rfl (aC a [(Tree.node 0 [] [] [])]).symm (by rw [av]; exact hb)) (okR rfl) rfl (by kernel_rfl) rfl rfl ?_
 obtain ⟨t0_94, hxt0_94, h⟩ := h
 refine gYd 7 rfl (by kernel_rfl) (yIO aa rfl rfl rfl rfl (by have := (ae hxt0_94); exact (List.getElem?_eq_some_iff.1 this).1)) rfl rfl ?_
 refine gDr [(9, 2)] (by kernel_rfl) rfl rfl ?_
 apply aF (i := 8) (j := 10) (by kernel_rfl) rfl rfl rfl rfl
 exact (ba (.set 8 (.row 26 4 (kidsV ((a ++ [(Tree.node 0 [] [] [])]).set a.length c)))) (dSe aa rfl rfl rfl rfl (ae hxt0_94) rfl (bp (a ++ [(Tree.node 0 [] [] [])]) a.length c)) (okS rfl) (by kernel_rfl))
 exact (aD aa rfl rfl)
 exact gDr [(10, 1)] (by kernel_rfl) rfl rfl <| gDe (by kernel_rfl) <| gJ (h K hK) [0, 1, 2, 3, 8] [0] rfl hK pq3 ⟨⟨_, rfl, rfl, rfl, (ah _ ((a ++ [(Tree.node 0 [] [] [])]).set a.length c)).symm⟩, ⟨_, rfl, rfl, rfl, (vI _ b).symm⟩, (pqo3 rfl rfl rfl rfl rfl rfl)⟩ rfl
 refine ax 8 (.set 8 (.row 26 4 (kidsV ((a ++ [(Tree.node 0 [] [] [])]).set a.length c)))) rfl (by kernel_rfl) (dSe aa rfl rfl rfl rfl (ae hxt0_94) rfl (bp (a ++ [(Tree.node 0 [] [] [])]) a.length c)) (okS rfl) rfl (by kernel_rfl) rfl rfl ?_
 exact gDe (by kernel_rfl) <| gJ (h K hK) [0, 1, 2, 3, 8] [0] rfl hK pq3 ⟨⟨_, rfl, rfl, rfl, (ah _ ((a ++ [(Tree.node 0 [] [] [])]).set a.length c)).symm⟩, ⟨_, rfl, rfl, rfl, (vI _ b).symm⟩, (pqo3 rfl rfl rfl rfl rfl rfl)⟩ rfl
theorem lF (m : Nat) (r : Int) (s : List UInt8) (i : (List (List UInt8))) (c : List Tree) (j : Tree) (t : List GToken) (v : Int) (x : List UInt8) (y z : Int) (r0 : Tree) (α : List GToken) (k : Int) (f : List UInt8) (g β : Int) (h : ∃ l n o p q d e a b, al t v x y z r s i ((c ++ [(Tree.node 0 [] [] [])]).set c.length j) [93] l n o p q d e a b ∧ (Tree.node d e a b) = r0 ∧ l = α ∧ n = k ∧ o = f ∧ p = g ∧ q = β) : iJ (m + 1) r s i c j t v x y z r0 α k f g β := by
 intro K hK
 refine gR 4 rfl ?_
 obtain ⟨l, n, o, p, q, d, e, a, b, hs57, h⟩ := h
 refine gCZ hs57 [0, 2, 3, 4] ⟨⟨_, rfl, ⟨rfl, rfl, (ah _ ((c ++ [(Tree.node 0 [] [] [])]).set c.length j)).symm⟩⟩, ⟨⟨_, rfl, ⟨rfl, rfl, (vI _ i).symm⟩⟩, ⟨⟨_, rfl, ⟨rfl, ak.rfl⟩⟩, ⟨⟨_, rfl, ⟨rfl, ak.rfl⟩⟩, trivial⟩⟩⟩⟩ ?_
 refine gHR 7 (List.map V.str a) rfl (vI _ a) rfl <| gHR 8 (kidsV b) rfl (ah _ b) rfl <| gR 9 rfl <| gFR 7 rfl (ch _ (fun _ => rfl) _) rfl rfl <| gFR 8 rfl (cm _) rfl rfl ?_
 obtain ⟨rfl, rfl, rfl, rfl, rfl, rfl⟩ := h
 exact go_sub (F' := (mkF 56 0 [(2, .ptr 1 0)])) (H' := ⟨2, [(1, vF ((Tree.node d e a b).kind) ((Tree.node d e a b).text) ((Tree.node d e a b).leads) ((Tree.node d e a b).kids)), (0, vA l n o p q)]⟩) [0, 1] [0] rfl hK pq1 (pqo2 rfl rfl rfl rfl) rfl <| go_endD [1] aa (rs := [.cell 2 26]) rfl rfl ⟨rfl, rfl⟩
theorem kH (m : Nat) (p0_l : List GToken) (p0_at_ : Int) (p0_tail : List UInt8) (p0_stop p0_e : Int) (r0 : Bool) (d : List GToken) (c : Int) (a : List UInt8) (b e : Int) (h : ∃ l f g i j k, aH p0_l p0_at_ p0_tail p0_stop p0_e l f g i j k ∧ ((l = 5) → true = r0 ∧ f = d ∧ g = c ∧ i = a ∧ j = b ∧ k = e) ∧ ((l ≠ 5) → ((l = 6) → true = r0 ∧ f = d ∧ g = c ∧ i = a ∧ j = b ∧ k = e) ∧ ((l ≠ 6) → ((l = 1) → true = r0 ∧ f = d ∧ g = c ∧ i = a ∧ j = b ∧ k = e) ∧ ((l ≠ 1) → ((l = 3) → true = r0 ∧ f = d ∧ g = c ∧ i = a ∧ j = b ∧ k = e) ∧ ((l ≠ 3) → ∃ b0_7 r0_8 n0_9 n o p, aq f g i j k [108, 101, 116] b0_7 r0_8 n0_9 n o p ∧ ((b0_7 = true) → true = r0 ∧ r0_8 = d ∧ n0_9 = c ∧ n = a ∧ o = b ∧ p = e) ∧ ((b0_7 = false) → ∃ φ q r s t v, aq r0_8 n0_9 n o p [105, 102] φ q r s t v ∧ ((φ = true) → true = r0 ∧ q = d ∧ r = c ∧ s = a ∧ t = b ∧ v = e) ∧ ((φ = false) → ∃ χ x y z α β, aq q r s t v [116, 114, 117, 101] χ x y z α β ∧ ((χ = true) → true = r0 ∧ x = d ∧ y = c ∧ z = a ∧ α = b ∧ β = e) ∧ ((χ = false) → ∃ ψ γ δ ε ζ η, aq x y z α β [102, 97, 108, 115, 101] ψ γ δ ε ζ η ∧ ((ψ = true) → true = r0 ∧ γ = d ∧ δ = c ∧ ε = a ∧ ζ = b ∧ η = e) ∧ ((ψ = false) → ∃ ω θ ι κ μ ν, aq γ δ ε ζ η [63] ω θ ι κ μ ν ∧ ((ω = true) → true = r0 ∧ θ = d ∧ ι = c ∧ κ = a ∧ μ = b ∧ ν = e) ∧ ((ω = false) → ∃ b0_37 ξ ο π τ υ, aq θ ι κ μ ν [40] b0_37 ξ ο π τ υ ∧ ((b0_37 = true) → true = r0 ∧ ξ = d ∧ ο = c ∧ π = a ∧ τ = b ∧ υ = e) ∧ ((b0_37 = false) → ∃ b0_43 r0_44 n0_45 s0_46 n0_47 n0_48, aq ξ ο π τ υ [91] b0_43 r0_44 n0_45 s0_46 n0_47 n0_48 ∧ b0_43 = r0 ∧ r0_44 = d ∧ n0_45 = c ∧ s0_46 = a ∧ n0_47 = b ∧ n0_48 = e))))))))))) : fa p0_l p0_at_ p0_tail p0_stop p0_e r0 d c a b e := by
 refine az 48 [0] Try.func94 rfl rfl rfl (bg rfl) fun K hK => ?_
 refine gR 8 rfl ?_
 obtain ⟨l, f, g, i, j, k, hs9, h⟩ := h
 refine gCY hs9 [0] ?_
 refine gR 8 rfl <| qBeZ 8 7 rfl rfl rfl rfl h (fun h => ?_) fun h => ?_
 refine gR 43 rfl ?_
 obtain ⟨rfl, rfl, rfl, rfl, rfl, rfl⟩ := h
 exact go_sub (F' := (mkF 48 0 [(2, .bool true)])) (H' := ⟨1, [(0, vA f g i j k)]⟩) [0] [0] rfl hK pq1 (pqo1 rfl rfl) rfl <| go_endD [] aa (rs := [.tmp 2]) rfl rfl ⟨rfl, rfl⟩
 refine gR 4 rfl <| qBeZ 12 11 rfl rfl rfl rfl h (fun h => ?_) fun h => ?_
 refine gR 39 rfl ?_
 obtain ⟨rfl, rfl, rfl, rfl, rfl, rfl⟩ := h
 exact go_sub (F' := (mkF 48 0 [(2, .bool true)])) (H' := ⟨1, [(0, vA f g i j k)]⟩) [0] [0] rfl hK pq1 (pqo1 rfl rfl) rfl <| go_endD [] aa (rs := [.tmp 2]) rfl rfl ⟨rfl, rfl⟩
 refine gR 4 rfl <| qBeZ 16 15 rfl rfl rfl rfl h (fun h => ?_) fun h => ?_
 refine gR 35 rfl ?_
 obtain ⟨rfl, rfl, rfl, rfl, rfl, rfl⟩ := h
 exact go_sub (F' := (mkF 48 0 [(2, .bool true)])) (H' := ⟨1, [(0, vA f g i j k)]⟩) [0] [0] rfl hK pq1 (pqo1 rfl rfl) rfl <| go_endD [] aa (rs := [.tmp 2]) rfl rfl ⟨rfl, rfl⟩
 refine gR 4 rfl <| qBeZ 20 19 rfl rfl rfl rfl h (fun h => ?_) fun h => ?_
 refine gR 31 rfl ?_
 obtain ⟨rfl, rfl, rfl, rfl, rfl, rfl⟩ := h
 exact go_sub (F' := (mkF 48 0 [(2, .bool true)])) (H' := ⟨1, [(0, vA f g i j k)]⟩) [0] [0] rfl hK pq1 (pqo1 rfl rfl) rfl <| go_endD [] aa (rs := [.tmp 2]) rfl rfl ⟨rfl, rfl⟩
 refine gR 1 rfl ?_
 obtain ⟨b0_7, r0_8, n0_9, n, o, p, hs10, h⟩ := h
 refine gCY hs10 [0] ?_
 refine gR 2 rfl <| qBiZ 24 23 rfl rfl rfl rfl h (fun h => ?_) fun h => ?_
 refine gR 27 rfl ?_
 obtain ⟨rfl, rfl, rfl, rfl, rfl, rfl⟩ := h
 exact go_sub (F' := (mkF 48 0 [(2, .bool true)])) (H' := ⟨1, [(0, vA r0_8 n0_9 n o p)]⟩) [0] [0] rfl hK pq1 (pqo1 rfl rfl) rfl <| go_endD [] aa (rs := [.tmp 2]) rfl rfl ⟨rfl, rfl⟩
 refine gR 1 rfl ?_
 obtain ⟨φ, q, r, s, t, v, hs11, h⟩ := h
 refine gCY hs11 [0] ?_
 refine gR 2 rfl <| qBiZ 28 27 rfl rfl rfl rfl h (fun h => ?_) fun h => ?_
 refine gR 23 rfl ?_
 obtain ⟨rfl, rfl, rfl, rfl, rfl, rfl⟩ := h
 exact go_sub (F' := (mkF 48 0 [(2, .bool true)])) (H' := ⟨1, [(0, vA q r s t v)]⟩) [0] [0] rfl hK pq1 (pqo1 rfl rfl) rfl <| go_endD [] aa (rs := [.tmp 2]) rfl rfl ⟨rfl, rfl⟩
 refine gR 1 rfl ?_
 obtain ⟨χ, x, y, z, α, β, hs12, h⟩ := h
 refine gCY hs12 [0] ?_
 refine gR 2 rfl <| qBiZ 32 31 rfl rfl rfl rfl h (fun h => ?_) fun h => ?_
 refine gR 19 rfl ?_
 obtain ⟨rfl, rfl, rfl, rfl, rfl, rfl⟩ := h
 exact go_sub (F' := (mkF 48 0 [(2, .bool true)])) (H' := ⟨1, [(0, vA x y z α β)]⟩) [0] [0] rfl hK pq1 (pqo1 rfl rfl) rfl <| go_endD [] aa (rs := [.tmp 2]) rfl rfl ⟨rfl, rfl⟩
 refine gR 1 rfl ?_
 obtain ⟨ψ, γ, δ, ε, ζ, η, hs13, h⟩ := h
 refine gCY hs13 [0] ?_
 refine gR 2 rfl <| qBiZ 36 35 rfl rfl rfl rfl h (fun h => ?_) fun h => ?_
 refine gR 15 rfl ?_
 obtain ⟨rfl, rfl, rfl, rfl, rfl, rfl⟩ := h
 exact go_sub (F' := (mkF 48 0 [(2, .bool true)])) (H' := ⟨1, [(0, vA γ δ ε ζ η)]⟩) [0] [0] rfl hK pq1 (pqo1 rfl rfl) rfl <| go_endD [] aa (rs := [.tmp 2]) rfl rfl ⟨rfl, rfl⟩
 refine gR 1 rfl ?_
 obtain ⟨ω, θ, ι, κ, μ, ν, hs14, h⟩ := h
 refine gCY hs14 [0] ?_
 refine gR 2 rfl <| qBiZ 40 39 rfl rfl rfl rfl h (fun h => ?_) fun h => ?_
 refine gR 11 rfl ?_
 obtain ⟨rfl, rfl, rfl, rfl, rfl, rfl⟩ := h
 exact go_sub (F' := (mkF 48 0 [(2, .bool true)])) (H' := ⟨1, [(0, vA θ ι κ μ ν)]⟩) [0] [0] rfl hK pq1 (pqo1 rfl rfl) rfl <| go_endD [] aa (rs := [.tmp 2]) rfl rfl ⟨rfl, rfl⟩
 refine gR 1 rfl ?_
 obtain ⟨b0_37, ξ, ο, π, τ, υ, hs15, h⟩ := h
 refine gCY hs15 [0] ?_
 refine gR 2 rfl <| qBiZ 44 43 rfl rfl rfl rfl h (fun h => ?_) fun h => ?_
 refine gR 7 rfl ?_
 obtain ⟨rfl, rfl, rfl, rfl, rfl, rfl⟩ := h
 exact go_sub (F' := (mkF 48 0 [(2, .bool true)])) (H' := ⟨1, [(0, vA ξ ο π τ υ)]⟩) [0] [0] rfl hK pq1 (pqo1 rfl rfl) rfl <| go_endD [] aa (rs := [.tmp 2]) rfl rfl ⟨rfl, rfl⟩
 refine gR 1 rfl ?_
 obtain ⟨b0_43, r0_44, n0_45, s0_46, n0_47, n0_48, hs16, h⟩ := h
 refine gCY hs16 [0] ?_
 refine gR 5 rfl ?_
 obtain ⟨rfl, rfl, rfl, rfl, rfl, rfl⟩ := h
 exact go_sub (F' := (mkF 48 0 [(2, .bool b0_43)])) (H' := ⟨1, [(0, vA r0_44 n0_45 s0_46 n0_47 n0_48)]⟩) [0] [0] rfl hK pq1 (pqo1 rfl rfl) rfl <| go_endD [] aa (rs := [.tmp 2]) rfl rfl ⟨rfl, rfl⟩
structure RS where
 at_ : Int
 stop : Int
 e : Int
def Rl (L : List TokZ) (sz : Nat) (s : PS) (st : RS) : Prop := (∃ k : Nat, Lv L sz s k ∧ st = ⟨k, -1, 0⟩) ∨ (∃ j : Nat, Ds L sz s j ∧ st.stop = j ∧ st.e = (s.failed : Nat))
def Gl (L : List TokZ) : Prop := ∀ t ∈ L, t.kind = (bm t.text : Nat)
theorem fP {e : Nat} (he : e ≠ 0) (s : PS) : (aV e s).failed ≠ 0 := by
 unfold aV
 split
 ·exact he
 ·assumption
section
variable {L : List TokZ} {sz : Nat} {s : PS} {st : RS} (h : Rl L sz s st)
include h
theorem Rl.e0 : st.e = 0 ↔ s.failed = 0 := by
 rcases h with ⟨k, lv, rfl⟩ | ⟨j, ds, _, he⟩
 ·simp [lv.1]
 ·rw [he]; omega
theorem Rl.dd (hf : s.failed ≠ 0) : Dd s := by
 rcases h with ⟨k, lv, rfl⟩ | ⟨j, ds, _, he⟩
 ·exact absurd lv.1 hf
 ·exact ds.1
theorem Rl.lv (hn : s.toks ≠ []) : ∃ k : Nat, Lv L sz s k ∧ st = ⟨k, -1, 0⟩ := by
 rcases h with h | ⟨j, ds, _, he⟩
 ·exact h
 ·exact absurd ds.1.2 hn
theorem Rl.good (hg : Gl L) : (ab s).kind = (bm (ab s).text : Nat) := by
 by_cases hn : s.toks = []
 ·have : ab s = dK := by simp [ab, hn]
  rw [this]; rfl
 ·obtain ⟨k, lv, _⟩ := h.lv hn
  obtain ⟨hk, _⟩ := lv.get hn
  exact hg _ (List.mem_of_getElem? hk)
theorem Rl.up {s' : PS} (hd : Dd s → Sm s s') (h0 : s'.failed = 0) : s.failed = 0 := Classical.byContradiction fun hf => by
 have := (hd (h.dd hf)).1
 omega
end
abbrev gl (L : List TokZ) : List GToken := L.map gTk
theorem iW {L : List TokZ} {k : Nat} {t : TokZ} (h : L[k]? = some t) : (gl L)[k]? = some (gTk t) := by rw [gl, List.getElem?_map, h]; rfl
theorem jZ (L : List TokZ) : (((gl L).length : Nat) : Int) = (L.length : Nat) := by simp [gl]
theorem qV (a b : List UInt8) : (a == b) = decide (a = b) := by rw [Bool.eq_iff_iff]; simp
section
variable {L : List TokZ} {tl : List UInt8} {sz : Nat} (hg : Gl L)
include hg
theorem kG {s : PS} {st : RS} (x : List UInt8) (hx : bm x = 7 ∨ bm x = 8) (h : Rl L sz s st) : aq (gl L) st.at_ tl st.stop st.e x (decide ((ab s).text = x)) (gl L) st.at_ tl st.stop st.e := by
 have hx0 : x ≠ [] := by
  rintro rfl
  rcases hx with e | e <;> cases e
 have good := h.good hg
 rcases h with ⟨k, lv, rfl⟩ | ⟨j, ds, hs, he⟩
 ·by_cases hn : s.toks = []
  ·have hk := lv.nil hn
   have : ab s = dK := by simp [ab, hn]
   rw [this]
   have hd : decide (dK.text = x) = false := decide_eq_false fun e => hx0 e.symm
   rw [hd]
   exact fO 0 _ _ _ _ _ _ _ _ _ _ _ _ ⟨fun _ => ⟨fun hc => absurd hc (by rw [jZ, hk]; simp), fun _ => ⟨rfl, rfl, rfl, rfl, rfl, rfl⟩⟩, fun e => absurd rfl e⟩
  ·obtain ⟨hk, hlt⟩ := lv.get hn
   refine fO 0 _ _ _ _ _ _ _ _ _ _ _ _ ⟨fun _ => ⟨fun _ => ⟨k, rfl, _, iW hk, fun _ => ⟨k, rfl, _, iW hk, qV _ _, rfl, rfl, rfl, rfl, rfl⟩, fun h7 => ⟨k, rfl, _, iW hk, fun _ => ⟨k, rfl, _, iW hk, qV _ _, rfl, rfl, rfl, rfl, rfl⟩, fun h8 => ⟨(decide_eq_false fun e => ?_).symm, rfl, rfl, rfl, rfl, rfl⟩⟩⟩, fun hc => absurd (by rw [jZ]; show (k : Int) < _; omega) hc⟩, fun e => absurd rfl e⟩
   have h7' : (ab s).kind ≠ 7 := h7
   have h8' : (ab s).kind ≠ 8 := h8
   rw [e] at good
   omega
 ·have : ab s = dK := fK ds.1
  rw [this]
  have hd : decide (dK.text = x) = false := decide_eq_false fun e => hx0 e.symm
  rw [hd]
  have := ds.1.1
  exact fO 0 _ _ _ _ _ _ _ _ _ _ _ _ ⟨fun e => absurd e (by rw [he]; omega), fun _ => ⟨rfl, rfl, rfl, rfl, rfl, rfl⟩⟩
omit hg in
theorem lq {s : PS} {st : RS} (h : Rl L sz s st) : aH (gl L) st.at_ tl st.stop st.e (ab s).kind (gl L) st.at_ tl st.stop st.e := by
 rcases h with ⟨k, lv, rfl⟩ | ⟨j, ds, hs, he⟩
 ·by_cases hn : s.toks = []
  ·have hk := lv.nil hn
   have : ab s = dK := by simp [ab, hn]
   rw [this]
   exact fo 0 _ _ _ _ _ _ _ _ _ _ _ ⟨fun e => absurd rfl e, fun _ => ⟨fun _ => ⟨rfl, rfl, rfl, rfl, rfl, rfl⟩, fun hc => absurd (by rw [jZ, hk]; exact Int.le_refl _) hc⟩⟩
  ·obtain ⟨hk, hlt⟩ := lv.get hn
   exact fo 0 _ _ _ _ _ _ _ _ _ _ _ ⟨fun e => absurd rfl e, fun _ => ⟨fun hc => absurd hc (by rw [jZ]; show ¬ _ ≤ (k : Int); omega), fun _ => ⟨k, rfl, _, iW hk, rfl, rfl, rfl, rfl, rfl, rfl⟩⟩⟩
 ·have : ab s = dK := fK ds.1
  rw [this]
  have := ds.1.1
  exact fo 0 _ _ _ _ _ _ _ _ _ _ _ ⟨fun _ => ⟨rfl, rfl, rfl, rfl, rfl, rfl⟩, fun e => absurd e (by rw [he]; omega)⟩
omit hg in
theorem nm {s : PS} {st : RS} {e : Nat} (he : e ≠ 0) (h : Rl L sz s st) : ∃ st' : RS, aZ (gl L) st.at_ tl st.stop st.e e (gl L) st'.at_ tl st'.stop st'.e ∧ Rl L sz (aV e s) st' := by
 rcases h with ⟨k, lv, rfl⟩ | ⟨j, ds, hs, hee⟩
 ·obtain ⟨d, f⟩ := lv.fail he
  exact ⟨⟨k, k, e⟩, ij 0 _ _ _ _ _ _ _ _ _ _ _ ⟨fun _ => ⟨rfl, rfl, rfl, rfl, rfl⟩, fun e => absurd rfl e⟩, .inr ⟨k, d, rfl, by rw [f]⟩⟩
 ·have := ds.1.1
  have sm := oN ds.1 e
  exact ⟨st, ij 0 _ _ _ _ _ _ _ _ _ _ _ ⟨fun e => absurd e (by rw [hee]; omega), fun _ => ⟨rfl, rfl, rfl, rfl, rfl⟩⟩, .inr ⟨j, ⟨sm.dd ds.1, ds.2.1, by rw [sm.2.1]; exact ds.2.2⟩, hs, by rw [sm.1]; exact hee⟩⟩
variable (hL : L.length ≤ 1000000)
include hL
omit hg in
theorem qt {s : PS} {st : RS} (hn : s.toks ≠ []) (h : Rl L sz s st) : ∃ st' : RS, cG (gl L) st.at_ tl st.stop st.e (gTk (ab s)) (gl L) st'.at_ tl st'.stop st'.e ∧ Rl L sz (ac s) st' := by
 obtain ⟨k, lv, rfl⟩ := h.lv hn
 obtain ⟨hk, hlt⟩ := lv.get hn
 refine ⟨⟨(k : Int) + 1, -1, 0⟩, lO 0 _ _ _ _ _ _ _ _ _ _ _ ⟨fun e => absurd rfl e, fun _ => ⟨fun hc => absurd hc (by rw [jZ]; show ¬ _ ≤ (k : Int); omega), fun _ => ⟨?_, ?_, k, by show (k : Int) + 1 - 1 = k; omega, _, iW hk, rfl, rfl, rfl, rfl, rfl, rfl⟩⟩⟩, .inl ⟨k + 1, lv.take hn, by rw [RS.mk.injEq]; exact ⟨by omega, rfl, rfl⟩⟩⟩
 ·show InI ((k : Int) + 1); constructor <;> omega
 ·show InI ((k : Int) + 1 - 1); constructor <;> omega
theorem bZ {s : PS} {st : RS} (K : Int) (X : List UInt8) (ls : List (List UInt8)) (ks : List Tree) (x : List UInt8) (hx : bm x = 7 ∨ bm x = 8) (hl : ls.length ≤ 1000) (h : Rl L sz s st) :
  ∃ (st' : RS) (ls' : List (List UInt8)), al (gl L) st.at_ tl st.stop st.e K X ls ks x (gl L) st'.at_ tl st'.stop st'.e K X ls' ks ∧ Rl L sz (ai x s).2 st' ∧ ls'.length ≤ ls.length + 1 ∧ ((ai x s).2.failed = 0 → ls' = ls ++ [(ai x s).1]) := by
 have hx0 : x ≠ [] := by
  rintro rfl
  rcases hx with e | e <;> cases e
 have i := kG (tl := tl) hg x hx h
 by_cases c : (ab s).text = x
 ·have e : ai x s = ((ab s).lead, ac s) := by simp [ai, c]
  obtain ⟨st', q, r⟩ := qt (tl := tl) hL (aT (.inl (by rw [c]; exact hx0))) h
  rw [decide_eq_true c] at i
  rw [e]
  exact ⟨st', ls ++ [(ab s).lead], iq 0 _ _ _ _ _ _ _ _ _ _ _ _ _ _ _ _ _ _ _ ⟨_, _, _, _, _, _, i, fun e => (by cases e), fun _ => ⟨_, _, _, _, _, _, q, by simp only [List.length_append, List.length_cons, List.length_nil]; omega, rfl, rfl, rfl, rfl, rfl, rfl, rfl, rfl, rfl⟩⟩, r, by simp, fun _ => rfl⟩
 ·have e : ai x s = ([], aV 2 s) := by simp [ai, c]
  obtain ⟨st', q, r⟩ := nm (tl := tl) (e := 2) (by decide) h
  rw [decide_eq_false c] at i
  rw [e]
  exact ⟨st', ls, iq 0 _ _ _ _ _ _ _ _ _ _ _ _ _ _ _ _ _ _ _ ⟨_, _, _, _, _, _, i, fun _ => ⟨_, _, _, _, _, q, rfl, rfl, rfl, rfl, rfl, rfl, rfl, rfl, rfl⟩, fun e => (by cases e)⟩, r, Nat.le_succ _, fun h0 => absurd h0 (fP (by decide) s)⟩
omit hg in
theorem jx {s : PS} {st : RS} (K : Int) (X : List UInt8) (ls : List (List UInt8)) (ks : List Tree) (k : Int) (hk : k ≠ 0) (hl : ls.length ≤ 1000) (h : Rl L sz s st) :
  ∃ (st' : RS) (X' : List UInt8) (ls' : List (List UInt8)), aS (gl L) st.at_ tl st.stop st.e K X ls ks k (gl L) st'.at_ tl st'.stop st'.e K X' ls' ks ∧ Rl L sz (aL k k s).2.2 st' ∧ ls'.length ≤ ls.length + 1 ∧ ((aL k k s).2.2.failed = 0 → X' = (aL k k s).1 ∧ ls' = ls ++ [(aL k k s).2.1]) := by
 have i := lq (tl := tl) h
 by_cases c : (ab s).kind = k
 ·have e : aL k k s = ((ab s).text, (ab s).lead, ac s) := by unfold aL; rw [if_neg (by omega)]
  obtain ⟨st', q, r⟩ := qt (tl := tl) hL (aT (.inr (by omega))) h
  rw [e]
  exact ⟨st', (ab s).text, ls ++ [(ab s).lead], iu 0 _ _ _ _ _ _ _ _ _ _ _ _ _ _ _ _ _ _ _ ⟨_, _, _, _, _, _, i, fun e => absurd c e, fun _ => ⟨_, _, _, _, _, _, q, by simp only [List.length_append, List.length_cons, List.length_nil]; omega, rfl, rfl, rfl, rfl, rfl, rfl, rfl, rfl, rfl⟩⟩, r, by simp, fun _ => ⟨rfl, rfl⟩⟩
 ·have e : aL k k s = ([], [], aV 2 s) := by unfold aL; rw [if_pos (.inr ⟨c, c⟩)]
  obtain ⟨st', q, r⟩ := nm (tl := tl) (e := 2) (by decide) h
  rw [e]
  exact ⟨st', X, ls, iu 0 _ _ _ _ _ _ _ _ _ _ _ _ _ _ _ _ _ _ _ ⟨_, _, _, _, _, _, i, fun _ => ⟨_, _, _, _, _, q, rfl, rfl, rfl, rfl, rfl, rfl, rfl, rfl, rfl⟩, fun e => absurd e c⟩, r, Nat.le_succ _, fun h0 => absurd h0 (fP (by decide) s)⟩
omit hg in
theorem no {s : PS} {st : RS} (k : Int) (hn : s.toks ≠ []) (h : Rl L sz s st) : ∃ st' : RS, bJ (gl L) st.at_ tl st.stop st.e k (.node k [] [(ab s).lead] []) (gl L) st'.at_ tl st'.stop st'.e ∧ Rl L sz (ac s) st' := by
 obtain ⟨st', q, r⟩ := qt (tl := tl) hL hn h
 exact ⟨st', lD 0 _ _ _ _ _ _ _ _ _ _ _ _ ⟨_, _, _, _, _, _, q, rfl, rfl, rfl, rfl, rfl, rfl⟩, r⟩
omit hL in
theorem sw {s : PS} {st : RS} (h : Rl L sz s st) : fa (gl L) st.at_ tl st.stop st.e (aA (ab s)) (gl L) st.at_ tl st.stop st.e := by
 have k := lq (tl := tl) h
 have i := fun x hx => kG (tl := tl) hg x hx h
 have T : ∀ {p : Prop}, p → (p → aA (ab s) = true) → true = aA (ab s) ∧ gl L = gl L ∧ st.at_ = st.at_ ∧ tl = tl ∧ st.stop = st.stop ∧ st.e = st.e := fun hp f => ⟨(f hp).symm, rfl, rfl, rfl, rfl, rfl⟩
 refine kH 0 _ _ _ _ _ _ _ _ _ _ _ ⟨_, _, _, _, _, _, k, fun h5 => T h5 fun h5 => by simp [aA, h5], fun h5 => ⟨fun h6 => T h6 fun h6 => by simp [aA, h6], fun h6 => ⟨fun h1 => T h1 fun h1 => by simp [aA, h1], fun h1 => ⟨fun h3 => T h3 fun h3 => by simp [aA, h3], fun h3 => ⟨_, _, _, _, _, _, i mx (by decide), fun c => T (of_decide_eq_true c) fun c => by simp [aA, c], fun c1 => ⟨_, _, _, _, _, _, i wIf (by decide), fun c => T (of_decide_eq_true c) fun c => by simp [aA, c], fun c2 => ⟨_, _, _, _, _, _, i gD (by decide), fun c => T (of_decide_eq_true c) fun c => by simp [aA, c], fun c3 => ⟨_, _, _, _, _, _, i fM (by decide), fun c => T (of_decide_eq_true c) fun c => by simp [aA, c], fun c4 => ⟨_, _, _, _, _, _, i [63] (by decide), fun c => T (of_decide_eq_true c) fun c => by simp [aA, c], fun c5 => ⟨_, _, _, _, _, _, i [40] (by decide), fun c => T (of_decide_eq_true c) fun c => by simp [aA, c], fun c6 => ⟨_, _, _, _, _, _, i [91] (by decide), ?_⟩⟩⟩⟩⟩⟩⟩⟩⟩⟩⟩
 refine ⟨?_, rfl, rfl, rfl, rfl, rfl⟩
 have b := fun (k : Int) (e : (ab s).kind ≠ k) => beq_eq_false_iff_ne.2 e
 have d := fun (w : List UInt8) (e : decide ((ab s).text = w) = false) => (show ((ab s).text == w) = false from beq_eq_false_iff_ne.2 (of_decide_eq_false e))
 rw [aA, b 5 h5, b 6 h6, b 1 h1, b 3 h3, d _ c1, d _ c2, d _ c3, d _ c4, d _ c5, d _ c6, qV]
 simp
end
theorem Rl.f0 {L : List TokZ} {sz : Nat} {s : PS} {st : RS} (h : Rl L sz s st) (hn : s.toks ≠ []) : s.failed = 0 := by
 obtain ⟨k, lv, _⟩ := h.lv hn
 exact lv.1
theorem Rl.sm {L : List TokZ} {sz : Nat} {s s' : PS} {st : RS} (h : Rl L sz s st) (d : Dd s) (k : Sm s s') : Rl L sz s' st := by
 rcases h with ⟨_, lv, rfl⟩ | ⟨j, ds, hs, he⟩
 ·exact absurd lv.1 d.1
 ·exact .inr ⟨j, ⟨k.dd d, ds.2.1, by rw [k.2.1]; exact ds.2.2⟩, hs, by rw [k.1]; exact he⟩
theorem Rl.kx {L : List TokZ} {sz : Nat} {s : PS} {st : RS} (h : Rl L sz s st) (hg : Gl L) {x : List UInt8} (hx : bm x = 7 ∨ bm x = 8) (e : (ab s).text = x) : (ab s).kind = 7 ∨ (ab s).kind = 8 := by
 have := h.good hg
 rw [e] at this
 omega
abbrev SPr := List GToken → Int → List UInt8 → Int → Int → Tree → List GToken → Int → List UInt8 → Int → Int → Prop
def Ar (L : List TokZ) (tl : List UInt8) (sz : Nat) (S : SPr) (st : RS) (r : Tree × PS) : Prop := ∃ (x : Tree) (st' : RS), S (gl L) st.at_ tl st.stop st.e x (gl L) st'.at_ tl st'.stop st'.e ∧ Rl L sz r.2 st' ∧ (r.2.failed = 0 → x = r.1)
theorem jd {x : List UInt8} {s : PS} (h : (ab s).text = x) : ai x s = ((ab s).lead, ac s) := by simp [ai, h]
theorem kJ {x : List UInt8} {s : PS} (h : ¬ (ab s).text = x) : ai x s = ([], aV 2 s) := by simp [ai, h]
theorem nt {k o : Int} {s : PS} (h : (ab s).kind = k) (hk : k ≠ 0) : aL k o s = ((ab s).text, (ab s).lead, ac s) := by
 unfold aL
 rw [if_neg (by omega)]
theorem tJ {k o : Int} {s : PS} (h : (ab s).kind = o) (hk : o ≠ 0) : aL k o s = ((ab s).text, (ab s).lead, ac s) := by
 unfold aL
 rw [if_neg (by omega)]
theorem fe {s : PS} : (ac s).failed = s.failed := by
 unfold ac
 split <;> rfl
section
variable {L : List TokZ} {tl : List UInt8} {sz : Nat} (hg : Gl L) (hL : L.length ≤ 1000000)
include hg hL
theorem rU : ∀ (n : Nat) (s : PS) (st : RS), s.toks.length < n → Rl L sz s st → Ar L tl sz cg st (gd n s)
 | 0, s, st, h, _ => by omega
 | n + 1, s, st, h, hr => by
  have i := fun x hx => kG (tl := tl) hg x hx hr
  have k := lq (tl := tl) hr
  unfold gd
  by_cases h1 : (ab s).text = nh
  ·obtain ⟨st', q, r⟩ := no (tl := tl) hL 5 (aT (.inl (by rw [h1]; decide))) hr
   rw [if_pos h1]
   exact ⟨_, st', bV 0 _ _ _ _ _ _ _ _ _ _ _ ⟨_, _, _, _, _, _, i nh (by decide), fun _ => ⟨_, _, _, _, _, _, q, rfl, rfl, rfl, rfl, rfl, rfl⟩, fun e => absurd h1 (of_decide_eq_false e)⟩, r, fun _ => rfl⟩
  rw [if_neg h1]
  by_cases h2 : (ab s).text = lR
  ·obtain ⟨st', q, r⟩ := no (tl := tl) hL 6 (aT (.inl (by rw [h2]; decide))) hr
   rw [if_pos h2]
   exact ⟨_, st', bV 0 _ _ _ _ _ _ _ _ _ _ _ ⟨_, _, _, _, _, _, i nh (by decide), fun e => absurd (of_decide_eq_true e) h1, fun _ => ⟨_, _, _, _, _, _, i lR (by decide), fun _ => ⟨_, _, _, _, _, _, q, rfl, rfl, rfl, rfl, rfl, rfl⟩, fun e => absurd h2 (of_decide_eq_false e)⟩⟩, r, fun _ => rfl⟩
  rw [if_neg h2]
  by_cases h3 : (ab s).text = mK
  ·obtain ⟨st', q, r⟩ := no (tl := tl) hL 7 (aT (.inl (by rw [h3]; decide))) hr
   rw [if_pos h3]
   exact ⟨_, st', bV 0 _ _ _ _ _ _ _ _ _ _ _ ⟨_, _, _, _, _, _, i nh (by decide), fun e => absurd (of_decide_eq_true e) h1, fun _ => ⟨_, _, _, _, _, _, i lR (by decide), fun e => absurd (of_decide_eq_true e) h2, fun _ => ⟨_, _, _, _, _, _, i mK (by decide), fun _ => ⟨_, _, _, _, _, _, q, rfl, rfl, rfl, rfl, rfl, rfl⟩, fun e => absurd h3 (of_decide_eq_false e)⟩⟩⟩, r, fun _ => rfl⟩
  rw [if_neg h3]
  by_cases h4 : (ab s).text = [91]
  ·have hn := aT (s := s) (.inl (by rw [h4]; decide))
   have f0 := hr.f0 hn
   have k78 := hr.kx hg (x := [91]) (by decide) h4
   have lt := cn hn
   obtain ⟨st1, l1, q1, r1, b1, e1⟩ := bZ (tl := tl) hg hL 8 [] [] [] [91] (by decide) (by decide) hr
   rw [jd h4] at r1 e1
   have g1 : st1.e = 0 := r1.e0.2 (by rw [fe]; exact f0)
   obtain ⟨x2, st2, q2, r2, e2⟩ := rU n (ac s) st1 (by omega) r1
   obtain ⟨st3, l3, q3, r3, b3, e3⟩ := bZ (tl := tl) hg hL 8 [] l1 [x2] [93] (by decide) (by simp only [List.length_nil] at b1; omega) r2
   rw [if_pos h4]
   refine ⟨.node 8 [] l3 [x2], st3, bV 1 _ _ _ _ _ _ _ _ _ _ _ ⟨_, _, _, _, _, _, i nh (by decide), fun e => absurd (of_decide_eq_true e) h1, fun _ => ⟨_, _, _, _, _, _, i lR (by decide), fun e => absurd (of_decide_eq_true e) h2, fun _ => ⟨_, _, _, _, _, _, i mK (by decide), fun e => absurd (of_decide_eq_true e) h3, fun _ => ⟨_, _, _, _, _, _, k, fun e => by omega, fun _ => ⟨_, _, _, _, _, _, k, fun e => by omega, fun _ => ⟨_, _, _, _, _, _, _, _, _, q1, fun e => absurd g1 e, fun _ => ⟨_, _, _, _, _, _, q2, Nat.le_of_ble_eq_true rfl, _, rfl, lF 0 _ _ _ _ _ _ _ _ _ _ _ _ _ _ _ _ ⟨_, _, _, _, _, _, _, _, _, q3, rfl, rfl, rfl, rfl, rfl, rfl⟩⟩⟩⟩⟩⟩⟩⟩, r3, fun h0 => ?_⟩
   have f2 := r2.up (fun d => bB d (x := [93]) (by decide)) h0
   rw [e3 h0, e1 (by rw [fe]; exact f0), e2 f2]
   rfl
  rw [if_neg h4]
  by_cases h5 : (ab s).kind = 2
  ·have a := nt (o := 4) h5 (by decide)
   have a2 := nt (o := 2) h5 (by decide)
   obtain ⟨st', X, ls, q, r, b, e⟩ := jx (tl := tl) hL 9 [] [] [] (ab s).kind (by omega) (by decide) hr
   rw [h5, a2] at r e
   rw [a]
   exact ⟨_, st', bV 1 _ _ _ _ _ _ _ _ _ _ _ ⟨_, _, _, _, _, _, i nh (by decide), fun e => absurd (of_decide_eq_true e) h1, fun _ => ⟨_, _, _, _, _, _, i lR (by decide), fun e => absurd (of_decide_eq_true e) h2, fun _ => ⟨_, _, _, _, _, _, i mK (by decide), fun e => absurd (of_decide_eq_true e) h3, fun _ => ⟨_, _, _, _, _, _, k, fun _ => ⟨_, _, _, _, _, _, k, _, _, _, _, _, _, _, _, _, q, rfl, rfl, rfl, rfl, rfl, rfl⟩, fun e => absurd h5 e⟩⟩⟩⟩, r, fun h0 => by rw [(e h0).1, (e h0).2]; rfl⟩
  by_cases h6 : (ab s).kind = 4
  ·have a := tJ (k := 2) h6 (by decide)
   have a2 := tJ (k := 4) h6 (by decide)
   obtain ⟨st', X, ls, q, r, b, e⟩ := jx (tl := tl) hL 9 [] [] [] (ab s).kind (by omega) (by decide) hr
   rw [h6, a2] at r e
   rw [a]
   exact ⟨_, st', bV 1 _ _ _ _ _ _ _ _ _ _ _ ⟨_, _, _, _, _, _, i nh (by decide), fun e => absurd (of_decide_eq_true e) h1, fun _ => ⟨_, _, _, _, _, _, i lR (by decide), fun e => absurd (of_decide_eq_true e) h2, fun _ => ⟨_, _, _, _, _, _, i mK (by decide), fun e => absurd (of_decide_eq_true e) h3, fun _ => ⟨_, _, _, _, _, _, k, fun e => absurd e h5, fun _ => ⟨_, _, _, _, _, _, k, fun _ => ⟨_, _, _, _, _, _, k, _, _, _, _, _, _, _, _, _, q, rfl, rfl, rfl, rfl, rfl, rfl⟩, fun e => absurd h6 e⟩⟩⟩⟩⟩, r, fun h0 => by rw [(e h0).1, (e h0).2]; rfl⟩
  ·obtain ⟨st1, l1, q1, r1, b1, e1⟩ := bZ (tl := tl) hg hL 8 [] [] [] [91] (by decide) (by decide) hr
   rw [kJ h4] at r1 e1
   have a : aL 2 4 s = ([], [], aV 2 s) := by unfold aL; rw [if_pos (.inr ⟨h5, h6⟩)]
   have hf := fP (e := 2) (by decide) s
   have g1 : st1.e ≠ 0 := fun e => hf (r1.e0.1 e)
   rw [a]
   exact ⟨_, st1, bV 1 _ _ _ _ _ _ _ _ _ _ _ ⟨_, _, _, _, _, _, i nh (by decide), fun e => absurd (of_decide_eq_true e) h1, fun _ => ⟨_, _, _, _, _, _, i lR (by decide), fun e => absurd (of_decide_eq_true e) h2, fun _ => ⟨_, _, _, _, _, _, i mK (by decide), fun e => absurd (of_decide_eq_true e) h3, fun _ => ⟨_, _, _, _, _, _, k, fun e => absurd e h5, fun _ => ⟨_, _, _, _, _, _, k, fun e => absurd e h6, fun _ => ⟨_, _, _, _, _, _, _, _, _, q1, fun _ => ⟨rfl, rfl, rfl, rfl, rfl, rfl⟩, fun e => absurd e g1⟩⟩⟩⟩⟩⟩, r1, fun h0 => absurd h0 hf⟩
end
abbrev vH (a0 : Int) (a1 : List UInt8) : Ob := .var 26 [.int .i64 a0, .str a1, .sl 4, .sl 5]
def bh (g : List GToken) (e : Int) (a : List UInt8) (b i : Int) (r0 : Tree) (j : List GToken) (f : Int) (c : List UInt8) (d k : Int) : Prop := bW [] Try.prog 55 [.ptr 0 0] ⟨1, [(0, vA g e a b i)]⟩ (fun u G => u = .agg (ar r0) ∧ G = ⟨2, [(0, vA j f c d k)]⟩)
def dX (g : List GToken) (e : Int) (a : List UInt8) (b i : Int) (r0 : Tree) (j : List GToken) (f : Int) (c : List UInt8) (d k : Int) : Prop := bW [] Try.prog 80 [.ptr 0 0] ⟨1, [(0, vA g e a b i)]⟩ (fun u G => u = .agg (ar r0) ∧ G = ⟨2, [(0, vA j f c d k)]⟩)
def co (l : List GToken) (j : Int) (b : List UInt8) (c n d : Int) (e : List UInt8) (a : (List (List UInt8))) (f : List Tree) (p2 : List UInt8) (p3 : Int) (r0 : Tree) (o : List GToken) (k : Int) (g : List UInt8) (i p : Int) : Prop := bW [] Try.prog 89 [.ptr 0 0, .agg [.int .i64 d, .str e, .sl 1, .sl 2], .str p2, .int .i64 p3] ⟨3, [(2, .row 26 4 (kidsV f)), (1, .row 9 1 (List.map V.str a)), (0, vA l j b c n)]⟩ (fun u G => u = .agg (ar r0) ∧ G = ⟨4, [(0, vA o k g i p)]⟩)
def ip (m : Nat) (e : Int) (f : List UInt8) (g : (List (List UInt8))) (a : List Tree) (i : Tree) (j : List GToken) (k : Int) (l : List UInt8) (n o : Int) (r0 : Tree) (p : List GToken) (d : Int) (b : List UInt8) (c q : Int) : Prop := ∀ (K : Ctx), aR K [0] → Go Try.prog K (bodyPost Try.prog Try.f55 (SP K (fun u G => u = .agg (ar r0) ∧ G = ⟨2, [(0, vA p d b c q)]⟩))) (.ex .normal) [.seq (xC (cB (xJ (cK (cA (cB (aj Try.f55))))))), .blk 0, .seq (xA (aj Try.f55))] 113 (mkF 113 0 [(0, .ptr 0 0), (2, .ptr 1 0), (3, .ptr 2 0)]) ⟨5, [(4, .row 26 4 (kidsV ((a ++ [(Tree.node 0 [] [] [])]).set a.length i))), (3, .row 9 1 (List.map V.str g)), (2, vD e f), (1, vB 0 []), (0, vA j k l n o)]⟩
def be (m : Nat) (e : List GToken) (f : Int) (g : List UInt8) (i j k : Int) (l : List UInt8) (n : (List (List UInt8))) (o : List Tree) (d : Nat) (r0 : Tree) (p : List GToken) (c : Int) (a : List UInt8) (b q : Int) : Prop := ∀ (K : Ctx) (j1 : Nat), aR K [0] → m ≤ j1 → qLG K Try.f55 (fun u G => u = .agg (ar r0) ∧ G = ⟨2, [(0, vA p c a b q)]⟩) (xL (xA (xJ (xB (cK (cA (cB (aj Try.f55)))))))) [.loop (xL (xA (xJ (xB (cK (cA (cB (aj Try.f55)))))))) j1, .blk 1, .seq (xF (xJ (xB (cK (cA (cB (aj Try.f55))))))), .blk 0, .seq (xA (aj Try.f55))] 113 (mkF 113 0 [(0, .ptr 0 0), (2, .ptr 1 0), (4, .ptr 2 0), (5, .box [.str [105, 102], .str [116, 104, 101, 110], .str [101, 108, 115, 101]] 0), (6, .int .i64 (d : Int))]) ⟨5, [(4, .row 26 4 (kidsV o)), (3, .row 9 1 (List.map V.str n)), (2, vD k l), (1, vB 0 []), (0, vA e f g i j)]⟩
def dN (m : Nat) (e : List GToken) (f : Int) (g : List UInt8) (i j : Int) (d r0 : Tree) (k : List GToken) (c : Int) (a : List UInt8) (b l : Int) : Prop := ∀ (K : Ctx) (j1 : Nat), aR K [0] → m ≤ j1 → qLG K Try.f55 (fun u G => u = .agg (ar r0) ∧ G = ⟨2, [(0, vA k c a b l)]⟩) (xG (xF (aj Try.f55))) [.loop (xG (xF (aj Try.f55))) j1, .blk 3, .seq (xC (aj Try.f55))] 113 (mkF 113 0 [(0, .ptr 0 0), (2, .ptr 1 0), (7, .ptr 2 0)]) ⟨3, [(2, .var 26 (ar d)), (1, vB 0 []), (0, vA e f g i j)]⟩
def iv (m : Nat) (l : Int) (n : List UInt8) (o : (List (List UInt8))) (d : List Tree) (e : Tree) (f : List GToken) (g : Int) (i : List UInt8) (j k : Int) (r0 : Tree) (p : List GToken) (c : Int) (a : List UInt8) (b q : Int) : Prop := ∀ (K : Ctx), aR K [0] → Go Try.prog K (bodyPost Try.prog Try.f55 (SP K (fun u G => u = .agg (ar r0) ∧ G = ⟨2, [(0, vA p c a b q)]⟩))) (.ex .normal) [.seq (xC (xF (xJ (cK (cA (cB (aj Try.f55))))))), .blk 0, .seq (xA (aj Try.f55))] 113 (mkF 113 0 [(2, .ptr 1 0), (3, .ptr 2 0)]) ⟨5, [(4, .row 26 4 (kidsV ((d ++ [(Tree.node 0 [] [] [])]).set d.length e))), (3, .row 9 1 (List.map V.str o)), (2, vD l n), (1, vB 0 []), (0, vA f g i j k)]⟩
def il (m : Nat) (e : List GToken) (f : Int) (g : List UInt8) (i j k : Int) (l : List UInt8) (n : (List (List UInt8))) (o : List Tree) (d : Nat) (r0 : Tree) (p : List GToken) (c : Int) (a : List UInt8) (b q : Int) : Prop := ∀ (K : Ctx) (j1 : Nat), aR K [0] → m ≤ j1 → Go Try.prog K (bodyPost Try.prog Try.f55 (SP K (fun u G => u = .agg (ar r0) ∧ G = ⟨2, [(0, vA p c a b q)]⟩))) (.ex .normal) [.blk 2, .seq (xA (xL (xA (xJ (xB (cK (cA (cB (aj Try.f55))))))))), .loop (xL (xA (xJ (xB (cK (cA (cB (aj Try.f55)))))))) j1, .blk 1, .seq (xF (xJ (xB (cK (cA (cB (aj Try.f55))))))), .blk 0, .seq (xA (aj Try.f55))] 113 (mkF 113 0 [(0, .ptr 0 0), (2, .ptr 1 0), (4, .ptr 2 0), (5, .box [.str [105, 102], .str [116, 104, 101, 110], .str [101, 108, 115, 101]] 0), (6, .int .i64 (d : Int))]) ⟨5, [(4, .row 26 4 (kidsV o)), (3, .row 9 1 (List.map V.str n)), (2, vD k l), (1, vB 0 []), (0, vA e f g i j)]⟩
def ir (m : Nat) (d : List GToken) (e : Int) (f : List UInt8) (g i : Int) (j : Bool) (k r0 : Tree) (l : List GToken) (c : Int) (a : List UInt8) (b n : Int) : Prop := ∀ (K : Ctx) (j1 : Nat), aR K [0] → m ≤ j1 → Go Try.prog K (bodyPost Try.prog Try.f55 (SP K (fun u G => u = .agg (ar r0) ∧ G = ⟨2, [(0, vA l c a b n)]⟩))) (.ex .normal) [.seq (xH (xG (xF (aj Try.f55)))), .seq (cB (xG (xF (aj Try.f55)))), .loop (xG (xF (aj Try.f55))) j1, .blk 3, .seq (xC (aj Try.f55))] 113 (mkF 113 0 [(0, .ptr 0 0), (2, .ptr 1 0), (7, .ptr 2 0), (99, .bool j)]) ⟨3, [(2, .var 26 (ar k)), (1, vB 0 []), (0, vA d e f g i)]⟩
def io (m : Nat) (d : GToken) (i : List GToken) (j : Int) (e : List UInt8) (f g : Int) (k : List Tree) (r0 : Tree) (l : List GToken) (c : Int) (a : List UInt8) (b n : Int) : Prop := ∀ (K : Ctx) (j1 : Nat), aR K [0] → m ≤ j1 → Go Try.prog K (bodyPost Try.prog Try.f55 (SP K (fun u G => u = .agg (ar r0) ∧ G = ⟨2, [(0, vA l c a b n)]⟩))) (.ex .normal) [.blk 4, .loop (xG (xF (aj Try.f55))) j1, .blk 3, .seq (xC (aj Try.f55))] 113 (mkF 113 0 [(0, .ptr 0 0), (2, .ptr 1 0), (7, .ptr 2 0)]) ⟨5, [(4, .row 26 4 (kidsV k)), (3, .row 9 1 [.str d.Lead]), (2, vD 21 d.Text), (1, vB 0 []), (0, vA i j e f g)]⟩
theorem dO (m : Nat) (p0_l : List GToken) (p0_at_ : Int) (ο : List UInt8) (π p0_e : Int) (r0 : Tree) (q0_l : List GToken) (n : Int) (f : List UInt8) (g q0_e : Int) (h : ∃ b0_1 r0_2 n0_3 s0_4 n0_5 n0_6, aq p0_l p0_at_ ο π p0_e [108, 101, 116] b0_1 r0_2 n0_3 s0_4 n0_5 n0_6 ∧ ((b0_1 = true) → ∃ r0_7 n0_8 s0_9 γ δ ε ζ d e, al r0_2 n0_3 s0_4 n0_5 n0_6 20 [] ([] : List (List UInt8)) ([] : List Tree) [108, 101, 116] r0_7 n0_8 s0_9 γ δ ε ζ d e ∧ ∃ τ υ φ χ ψ ω s0_22 k l, aS r0_7 n0_8 s0_9 γ δ ε ζ d e 1 τ υ φ χ ψ ω s0_22 k l ∧ ∃ o p q r s t v c a, al τ υ φ χ ψ ω s0_22 k l [61] o p q r s t v c a ∧ ∃ b r0_35 n0_36 s0_37 n0_38 n0_39, bh o p q r s b r0_35 n0_36 s0_37 n0_38 n0_39 ∧ (a ++ [(Tree.node 0 [] [] [])]).length ≤ 1000000000 ∧ ∃ t0_40, (a ++ [(Tree.node 0 [] [] [])])[a.length]? = some t0_40 ∧ ip m t v c a b r0_35 n0_36 s0_37 n0_38 n0_39 r0 q0_l n f g q0_e) ∧ ((b0_1 = false) → ∃ η x y z α β, aq r0_2 n0_3 s0_4 n0_5 n0_6 [105, 102] η x y z α β ∧ ((η = true) → be m x y z α β 19 [] ([] : List (List UInt8)) ([] : List Tree) 0 r0 q0_l n f g q0_e) ∧ ((η = false) → ∃ θ ι κ μ ν ξ, dX x y z α β θ ι κ μ ν ξ ∧ dN m ι κ μ ν ξ θ r0 q0_l n f g q0_e))) : bh p0_l p0_at_ ο π p0_e r0 q0_l n f g q0_e := by
 refine az 113 [0] Try.func55 rfl rfl rfl (bg rfl) fun K hK => ?_
 refine gR 10 rfl ?_
 obtain ⟨b0_1, r0_2, n0_3, s0_4, n0_5, n0_6, hs85, h⟩ := h
 refine gCY hs85 [0] ?_
 refine gR 3 rfl <| gB 9 rfl rfl rfl ?_ ?_ <;> intro hd
 refine gT 11 rfl hd rfl ?_
 replace h := h.1 hd
 refine gR 11 rfl <| gNC 3 2 9 1 rfl rfl rfl rfl <| gNC 3 3 26 4 rfl rfl rfl rfl ?_
 obtain ⟨r0_7, n0_8, s0_9, γ, δ, ε, ζ, d, e, hs86, h⟩ := h
 refine gCZ hs86 [0, 3, 4, 5] ⟨⟨_, rfl, ⟨rfl, rfl, rfl⟩⟩, ⟨⟨_, rfl, ⟨rfl, rfl, rfl⟩⟩, ⟨⟨_, rfl, ⟨rfl, ak.rfl⟩⟩, ⟨⟨_, rfl, ⟨rfl, ak.rfl⟩⟩, trivial⟩⟩⟩⟩ ?_
 refine gHR 8 (List.map V.str d) rfl (vI _ d) rfl <| gHR 9 (kidsV e) rfl (ah _ e) rfl <| gR 2 rfl <| go_sub (F' := (mkF 113 0 [(0, .ptr 0 0), (2, .ptr 1 0), (3, .ptr 2 0)])) (H' := ⟨5, [(4, .row 26 4 (kidsV e)), (3, .row 9 1 (List.map V.str d)), (2, vD ε ζ), (1, vB 0 []), (0, vA r0_7 n0_8 s0_9 γ δ)]⟩) [0, 1, 3, 8, 9] [0] rfl hK pq3 ⟨⟨_, rfl, rfl, rfl, (ah _ e).symm⟩, ⟨_, rfl, rfl, rfl, (vI _ d).symm⟩, (pqo3 rfl rfl rfl rfl rfl rfl)⟩ rfl <| gR 3 rfl ?_
 obtain ⟨τ, υ, φ, χ, ψ, ω, s0_22, k, l, hs87, h⟩ := h
 refine gCZ hs87 [0, 2, 3, 4] ⟨⟨_, rfl, ⟨rfl, rfl, (ah _ e).symm⟩⟩, ⟨⟨_, rfl, ⟨rfl, rfl, (vI _ d).symm⟩⟩, ⟨⟨_, rfl, ⟨rfl, ak.rfl⟩⟩, ⟨⟨_, rfl, ⟨rfl, ak.rfl⟩⟩, trivial⟩⟩⟩⟩ ?_
 refine gHR 7 (List.map V.str k) rfl (vI _ k) rfl <| gHR 8 (kidsV l) rfl (ah _ l) rfl <| gR 5 rfl ?_
 obtain ⟨o, p, q, r, s, t, v, c, a, hs88, h⟩ := h
 refine gCZ hs88 [0, 2, 7, 8] ⟨⟨_, rfl, ⟨rfl, rfl, (ah _ l).symm⟩⟩, ⟨⟨_, rfl, ⟨rfl, rfl, (vI _ k).symm⟩⟩, ⟨⟨_, rfl, ⟨rfl, ak.rfl⟩⟩, ⟨⟨_, rfl, ⟨rfl, ak.rfl⟩⟩, trivial⟩⟩⟩⟩ ?_
 refine gHR 11 (List.map V.str c) rfl (vI _ c) rfl <| gHR 12 (kidsV a) rfl (ah _ a) rfl <| gR 3 rfl <| go_sub (F' := (mkF 113 0 [(0, .ptr 0 0), (2, .ptr 1 0), (3, .ptr 2 0)])) (H' := ⟨5, [(4, .row 26 4 (kidsV a)), (3, .row 9 1 (List.map V.str c)), (2, vD t v), (1, vB 0 []), (0, vA o p q r s)]⟩) [0, 1, 2, 11, 12] [0] rfl hK pq3 ⟨⟨_, rfl, rfl, rfl, (ah _ a).symm⟩, ⟨_, rfl, rfl, rfl, (vI _ c).symm⟩, (pqo3 rfl rfl rfl rfl rfl rfl)⟩ rfl <| gDs [2] 6 11 rfl (by kernel_rfl) (by kernel_rfl) ?_
 refine gDr [(0, 2), (1, 3), (2, 2), (4, 2)] (by kernel_rfl) rfl rfl <| gV 23 (.int .i64 (a.length : Int)) rfl (bC (av _)) rfl <| gLO 4 rfl (av _) fun hl92 => ?_
 obtain ⟨b, r0_35, n0_36, s0_37, n0_38, n0_39, hs93, h⟩ := h
 apply aF (i := 3) (j := 5) (by kernel_rfl) rfl rfl rfl rfl
 exact (de (L' := [2]) (by kernel_rfl) rfl rfl (df (H := ⟨5, [(4, .row 26 4 (kidsV a)), (3, .row 9 1 (List.map V.str c)), (2, vD t v), (1, vB 0 []), (0, vA o p q r s)]⟩) hs93 [0] .rfl ⟨⟨_, rfl, ⟨rfl, ak.rfl⟩⟩, trivial⟩ rfl [2] rfl) (.inl rfl))
 exact (aD aa rfl rfl)
 refine gDr [(5, 0)] (by kernel_rfl) rfl rfl <| gHX 7 [.agg [.int .i64 0, .str [], .row 1 [], .row 4 (kidsV [])]] rfl (.cons (.agg (.cons .rfl (.cons .rfl (.cons (.nil 1) (.cons (.nil 4) .nil))))) .nil) rfl <| gHR 7 (kidsV [(Tree.node 0 [] [] [])]) rfl (bv (Tree.node 0 [] [] [])) rfl ?_
 obtain ⟨hb, h⟩ := h
 refine ax 6 (.repl 4 (.row 26 4 (kidsV (a ++ [(Tree.node 0 [] [] [])])))) rfl (by kernel_rfl) (bu aa rfl rfl rfl rfl rfl (aC a [(Tree.node 0 [] [] [])]).symm (by rw [av]; exact hb)) (okR rfl) rfl (by kernel_rfl) rfl rfl ?_
 obtain ⟨t0_40, hxt0_40, h⟩ := h
 refine gYd 7 rfl (by kernel_rfl) (yIO aa rfl rfl rfl rfl (by have := (ae hxt0_40); exact (List.getElem?_eq_some_iff.1 this).1)) rfl rfl ?_
 refine gDr [(9, 2)] (by kernel_rfl) rfl rfl ?_
 apply aF (i := 8) (j := 10) (by kernel_rfl) rfl rfl rfl rfl
 exact (ba (.set 8 (.row 26 4 (kidsV ((a ++ [(Tree.node 0 [] [] [])]).set a.length b)))) (dSe aa rfl rfl rfl rfl (ae hxt0_40) rfl (bp (a ++ [(Tree.node 0 [] [] [])]) a.length b)) (okS rfl) (by kernel_rfl))
 exact (aD aa rfl rfl)
 exact gDr [(10, 1)] (by kernel_rfl) rfl rfl <| gDe (by kernel_rfl) <| gJ (h K hK) [0, 1, 2, 3, 8] [0] rfl hK pq3 ⟨⟨_, rfl, rfl, rfl, (ah _ ((a ++ [(Tree.node 0 [] [] [])]).set a.length b)).symm⟩, ⟨_, rfl, rfl, rfl, (vI _ c).symm⟩, (pqo3 rfl rfl rfl rfl rfl rfl)⟩ rfl
 refine ax 8 (.set 8 (.row 26 4 (kidsV ((a ++ [(Tree.node 0 [] [] [])]).set a.length b)))) rfl (by kernel_rfl) (dSe aa rfl rfl rfl rfl (ae hxt0_40) rfl (bp (a ++ [(Tree.node 0 [] [] [])]) a.length b)) (okS rfl) rfl (by kernel_rfl) rfl rfl ?_
 exact gDe (by kernel_rfl) <| gJ (h K hK) [0, 1, 2, 3, 8] [0] rfl hK pq3 ⟨⟨_, rfl, rfl, rfl, (ah _ ((a ++ [(Tree.node 0 [] [] [])]).set a.length b)).symm⟩, ⟨_, rfl, rfl, rfl, (vI _ c).symm⟩, (pqo3 rfl rfl rfl rfl rfl rfl)⟩ rfl
 refine gHX 5 [.agg [.int .i64 0, .str [], .row 1 [], .row 4 (kidsV [])]] rfl (.cons (.agg (.cons .rfl (.cons .rfl (.cons (.nil 1) (.cons (.nil 4) .nil))))) .nil) rfl ?_
 refine gHR 5 (kidsV [(Tree.node 0 [] [] [])]) rfl (bv (Tree.node 0 [] [] [])) rfl <| gDCY 3 hs93 [0] rfl ?_
 obtain ⟨hb, h⟩ := h
 refine ax 6 (.repl 4 (.row 26 4 (kidsV (a ++ [(Tree.node 0 [] [] [])])))) rfl (by kernel_rfl) (bu aa rfl rfl rfl rfl rfl (aC a [(Tree.node 0 [] [] [])]).symm (by rw [av]; exact hb)) (okR rfl) rfl (by kernel_rfl) rfl rfl ?_
 obtain ⟨t0_40, hxt0_40, h⟩ := h
 refine gYd 7 rfl (by kernel_rfl) (yIO aa rfl rfl rfl rfl (by have := (ae hxt0_40); exact (List.getElem?_eq_some_iff.1 this).1)) rfl rfl ?_
 refine gDr [(9, 2)] (by kernel_rfl) rfl rfl ?_
 apply aF (i := 8) (j := 10) (by kernel_rfl) rfl rfl rfl rfl
 exact (ba (.set 8 (.row 26 4 (kidsV ((a ++ [(Tree.node 0 [] [] [])]).set a.length b)))) (dSe aa rfl rfl rfl rfl (ae hxt0_40) rfl (bp (a ++ [(Tree.node 0 [] [] [])]) a.length b)) (okS rfl) (by kernel_rfl))
 exact (aD aa rfl rfl)
 exact gDr [(10, 1)] (by kernel_rfl) rfl rfl <| gDe (by kernel_rfl) <| gJ (h K hK) [0, 1, 2, 3, 8] [0] rfl hK pq3 ⟨⟨_, rfl, rfl, rfl, (ah _ ((a ++ [(Tree.node 0 [] [] [])]).set a.length b)).symm⟩, ⟨_, rfl, rfl, rfl, (vI _ c).symm⟩, (pqo3 rfl rfl rfl rfl rfl rfl)⟩ rfl
 refine ax 8 (.set 8 (.row 26 4 (kidsV ((a ++ [(Tree.node 0 [] [] [])]).set a.length b)))) rfl (by kernel_rfl) (dSe aa rfl rfl rfl rfl (ae hxt0_40) rfl (bp (a ++ [(Tree.node 0 [] [] [])]) a.length b)) (okS rfl) rfl (by kernel_rfl) rfl rfl ?_
 exact gDe (by kernel_rfl) <| gJ (h K hK) [0, 1, 2, 3, 8] [0] rfl hK pq3 ⟨⟨_, rfl, rfl, rfl, (ah _ ((a ++ [(Tree.node 0 [] [] [])]).set a.length b)).symm⟩, ⟨_, rfl, rfl, rfl, (vI _ c).symm⟩, (pqo3 rfl rfl rfl rfl rfl rfl)⟩ rfl
 refine gF 11 rfl hd rfl ?_
 replace h := h.2 hd
 refine gR 4 rfl ?_
 obtain ⟨η, x, y, z, α, β, hs94, h⟩ := h
 refine gCY hs94 [0] ?_
 refine gR 3 rfl <| gB 45 rfl rfl rfl ?_ ?_ <;> intro hd
 refine gT 47 rfl hd rfl ?_
 replace h := h.1 hd
 exact gR 8 rfl <| go_sub (F' := (mkF 113 0 [(0, .ptr 0 0), (2, .ptr 1 0), (4, .ptr 2 0)])) (H' := ⟨3, [(2, vB 19 []), (1, vB 0 []), (0, vA x y z α β)]⟩) [0, 1, 4] [0] rfl hK pq3 (pqo3 rfl rfl rfl rfl rfl rfl) rfl <| gR 14 rfl <| go_loop m <| gNC 2 2 9 1 rfl rfl rfl rfl <| gNC 2 3 26 4 rfl rfl rfl rfl <| gFP 3 rfl rfl rfl rfl <| gJ (h K _ hK (by omega)) [0, 1, 2, 4, 5] [0] rfl hK pq5 ⟨⟨_, rfl, rfl, rfl, rfl⟩, ⟨_, rfl, rfl, rfl, rfl⟩, (pqo3 rfl rfl rfl rfl rfl rfl)⟩ rfl
 refine gF 47 rfl hd rfl ?_
 replace h := h.2 hd
 refine gR 7 rfl ?_
 obtain ⟨θ, ι, κ, μ, ν, ξ, hs95, h⟩ := h
 refine gCY hs95 [0] ?_
 exact gR 4 rfl <| go_sub (F' := (mkF 113 0 [(0, .ptr 0 0), (2, .ptr 1 0), (7, .ptr 2 0)])) (H' := ⟨3, [(2, .var 26 (ar θ)), (1, vB 0 []), (0, vA ι κ μ ν ξ)]⟩) [0, 1, 6] [0] rfl hK pq3 (pqo3 rfl rfl rfl rfl rfl rfl) rfl <| gR 2 rfl <| go_loop m <| gJ (h K _ hK (by omega)) [0, 1, 2] [0] rfl hK pq3 (pqo3 rfl rfl rfl rfl rfl rfl) rfl
theorem hZ (m : Nat) (γ : Int) (δ : List UInt8) (s : (List (List UInt8))) (g : List Tree) (t : Tree) (ε : List GToken) (ζ : Int) (η : List UInt8) (θ ι : Int) (r0 : Tree) (κ : List GToken) (r : Int) (k : List UInt8) (l μ : Int) (h : ∃ n o p q f d e c a, al ε ζ η θ ι γ δ s ((g ++ [(Tree.node 0 [] [] [])]).set g.length t) [105, 110] n o p q f d e c a ∧ ((f = 0) → ∃ b v x y z α, bh n o p q f b v x y z α ∧ (a ++ [(Tree.node 0 [] [] [])]).length ≤ 1000000000 ∧ ∃ β, (a ++ [(Tree.node 0 [] [] [])])[a.length]? = some β ∧ iv m d e c a b v x y z α r0 κ r k l μ) ∧ ((f ≠ 0) → (Tree.node d e c a) = r0 ∧ n = κ ∧ o = r ∧ p = k ∧ q = l ∧ f = μ)) : ip (m + 1) γ δ s g t ε ζ η θ ι r0 κ r k l μ := by
 intro K hK
 refine gR 4 rfl ?_
 obtain ⟨n, o, p, q, f, d, e, c, a, hs96, h⟩ := h
 refine gCZ hs96 [0, 2, 3, 4] ⟨⟨_, rfl, ⟨rfl, rfl, (ah _ ((g ++ [(Tree.node 0 [] [] [])]).set g.length t)).symm⟩⟩, ⟨⟨_, rfl, ⟨rfl, rfl, (vI _ s).symm⟩⟩, ⟨⟨_, rfl, ⟨rfl, ak.rfl⟩⟩, ⟨⟨_, rfl, ⟨rfl, ak.rfl⟩⟩, trivial⟩⟩⟩⟩ ?_
 refine gHR 7 (List.map V.str c) rfl (vI _ c) rfl <| gHR 8 (kidsV a) rfl (ah _ a) rfl <| gR 12 rfl <| qBe 34 rfl rfl rfl h (fun h => ?_) fun h => ?_
 refine gR 1 rfl <| go_sub (F' := (mkF 113 0 [(0, .ptr 0 0), (2, .ptr 1 0), (3, .ptr 2 0)])) (H' := ⟨5, [(4, .row 26 4 (kidsV a)), (3, .row 9 1 (List.map V.str c)), (2, vD d e), (1, vB 0 []), (0, vA n o p q f)]⟩) [0, 1, 2, 7, 8] [0] rfl hK pq3 ⟨⟨_, rfl, rfl, rfl, (ah _ a).symm⟩, ⟨_, rfl, rfl, rfl, (vI _ c).symm⟩, (pqo3 rfl rfl rfl rfl rfl rfl)⟩ rfl <| gDs [2] 6 11 rfl (by kernel_rfl) (by kernel_rfl) <| gDr [(0, 2), (1, 3), (2, 2), (4, 2)] (by kernel_rfl) rfl rfl <| gV 39 (.int .i64 (a.length : Int)) rfl (bC (av _)) rfl ?_
 refine gLO 4 rfl (av _) fun hl100 => ?_
 obtain ⟨b, v, x, y, z, α, hs101, h⟩ := h
 apply aF (i := 3) (j := 5) (by kernel_rfl) rfl rfl rfl rfl
 exact (de (L' := [2]) (by kernel_rfl) rfl rfl (df (H := ⟨5, [(4, .row 26 4 (kidsV a)), (3, .row 9 1 (List.map V.str c)), (2, vD d e), (1, vB 0 []), (0, vA n o p q f)]⟩) hs101 [0] .rfl ⟨⟨_, rfl, ⟨rfl, ak.rfl⟩⟩, trivial⟩ rfl [2] rfl) (.inl rfl))
 exact (aD aa rfl rfl)
 refine gDr [(5, 0)] (by kernel_rfl) rfl rfl <| gHX 7 [.agg [.int .i64 0, .str [], .row 1 [], .row 4 (kidsV [])]] rfl (.cons (.agg (.cons .rfl (.cons .rfl (.cons (.nil 1) (.cons (.nil 4) .nil))))) .nil) rfl <| gHR 7 (kidsV [(Tree.node 0 [] [] [])]) rfl (bv (Tree.node 0 [] [] [])) rfl ?_
 obtain ⟨hb, h⟩ := h
 refine ax 6 (.repl 4 (.row 26 4 (kidsV (a ++ [(Tree.node 0 [] [] [])])))) rfl (by kernel_rfl) (bu aa rfl rfl rfl rfl rfl (aC a [(Tree.node 0 [] [] [])]).symm (by rw [av]; exact hb)) (okR rfl) rfl (by kernel_rfl) rfl rfl ?_
 obtain ⟨β, hxt1_16, h⟩ := h
 refine gYd 7 rfl (by kernel_rfl) (yIO aa rfl rfl rfl rfl (by have := (ae hxt1_16); exact (List.getElem?_eq_some_iff.1 this).1)) rfl rfl ?_
 refine gDr [(9, 2)] (by kernel_rfl) rfl rfl ?_
 apply aF (i := 8) (j := 10) (by kernel_rfl) rfl rfl rfl rfl
 exact (ba (.set 8 (.row 26 4 (kidsV ((a ++ [(Tree.node 0 [] [] [])]).set a.length b)))) (dSe aa rfl rfl rfl rfl (ae hxt1_16) rfl (bp (a ++ [(Tree.node 0 [] [] [])]) a.length b)) (okS rfl) (by kernel_rfl))
 exact (aD aa rfl rfl)
 exact gDr [(10, 1)] (by kernel_rfl) rfl rfl <| gDe (by kernel_rfl) <| gJ (h K hK) [0, 1, 2, 3, 8] [0] rfl hK pq2 ⟨⟨_, rfl, rfl, rfl, (ah _ ((a ++ [(Tree.node 0 [] [] [])]).set a.length b)).symm⟩, ⟨_, rfl, rfl, rfl, (vI _ c).symm⟩, (pqo3 rfl rfl rfl rfl rfl rfl)⟩ rfl
 refine ax 8 (.set 8 (.row 26 4 (kidsV ((a ++ [(Tree.node 0 [] [] [])]).set a.length b)))) rfl (by kernel_rfl) (dSe aa rfl rfl rfl rfl (ae hxt1_16) rfl (bp (a ++ [(Tree.node 0 [] [] [])]) a.length b)) (okS rfl) rfl (by kernel_rfl) rfl rfl ?_
 exact gDe (by kernel_rfl) <| gJ (h K hK) [0, 1, 2, 3, 8] [0] rfl hK pq2 ⟨⟨_, rfl, rfl, rfl, (ah _ ((a ++ [(Tree.node 0 [] [] [])]).set a.length b)).symm⟩, ⟨_, rfl, rfl, rfl, (vI _ c).symm⟩, (pqo3 rfl rfl rfl rfl rfl rfl)⟩ rfl
 refine gHX 5 [.agg [.int .i64 0, .str [], .row 1 [], .row 4 (kidsV [])]] rfl (.cons (.agg (.cons .rfl (.cons .rfl (.cons (.nil 1) (.cons (.nil 4) .nil))))) .nil) rfl ?_
 refine gHR 5 (kidsV [(Tree.node 0 [] [] [])]) rfl (bv (Tree.node 0 [] [] [])) rfl <| gDCY 3 hs101 [0] rfl ?_
 obtain ⟨hb, h⟩ := h
 refine ax 6 (.repl 4 (.row 26 4 (kidsV (a ++ [(Tree.node 0 [] [] [])])))) rfl (by kernel_rfl) (bu aa rfl rfl rfl rfl rfl (aC a [(Tree.node 0 [] [] [])]).symm (by rw [av]; exact hb)) (okR rfl) rfl (by kernel_rfl) rfl rfl ?_
 obtain ⟨β, hxt1_16, h⟩ := h
 refine gYd 7 rfl (by kernel_rfl) (yIO aa rfl rfl rfl rfl (by have := (ae hxt1_16); exact (List.getElem?_eq_some_iff.1 this).1)) rfl rfl ?_
 refine gDr [(9, 2)] (by kernel_rfl) rfl rfl ?_
 apply aF (i := 8) (j := 10) (by kernel_rfl) rfl rfl rfl rfl
 exact (ba (.set 8 (.row 26 4 (kidsV ((a ++ [(Tree.node 0 [] [] [])]).set a.length b)))) (dSe aa rfl rfl rfl rfl (ae hxt1_16) rfl (bp (a ++ [(Tree.node 0 [] [] [])]) a.length b)) (okS rfl) (by kernel_rfl))
 exact (aD aa rfl rfl)
 exact gDr [(10, 1)] (by kernel_rfl) rfl rfl <| gDe (by kernel_rfl) <| gJ (h K hK) [0, 1, 2, 3, 8] [0] rfl hK pq2 ⟨⟨_, rfl, rfl, rfl, (ah _ ((a ++ [(Tree.node 0 [] [] [])]).set a.length b)).symm⟩, ⟨_, rfl, rfl, rfl, (vI _ c).symm⟩, (pqo3 rfl rfl rfl rfl rfl rfl)⟩ rfl
 refine ax 8 (.set 8 (.row 26 4 (kidsV ((a ++ [(Tree.node 0 [] [] [])]).set a.length b)))) rfl (by kernel_rfl) (dSe aa rfl rfl rfl rfl (ae hxt1_16) rfl (bp (a ++ [(Tree.node 0 [] [] [])]) a.length b)) (okS rfl) rfl (by kernel_rfl) rfl rfl ?_
 exact gDe (by kernel_rfl) <| gJ (h K hK) [0, 1, 2, 3, 8] [0] rfl hK pq2 ⟨⟨_, rfl, rfl, rfl, (ah _ ((a ++ [(Tree.node 0 [] [] [])]).set a.length b)).symm⟩, ⟨_, rfl, rfl, rfl, (vI _ c).symm⟩, (pqo3 rfl rfl rfl rfl rfl rfl)⟩ rfl
 refine gR 12 rfl <| gFR 7 rfl (ch _ (fun _ => rfl) _) rfl rfl <| gFR 8 rfl (cm _) rfl rfl ?_
 obtain ⟨rfl, rfl, rfl, rfl, rfl, rfl⟩ := h
 exact go_sub (F' := (mkF 113 0 [(2, .ptr 1 0)])) (H' := ⟨2, [(1, vF ((Tree.node d e c a).kind) ((Tree.node d e c a).text) ((Tree.node d e c a).leads) ((Tree.node d e c a).kids)), (0, vA n o p q f)]⟩) [0, 1] [0] rfl hK pq1 (pqo2 rfl rfl rfl rfl) rfl <| go_endD [1] aa (rs := [.cell 2 26]) rfl rfl ⟨rfl, rfl⟩
theorem cV (m : Nat) (r : List GToken) (s : Int) (t : List UInt8) (v o f : Int) (g : List UInt8) (c : (List (List UInt8))) (d : List Tree) (n : Nat) (r0 : Tree) (ζ : List GToken) (x : Int) (p : List UInt8) (q η : Int) (h : (((n : Int) < 3) → ((o = 0) → ∃ ο, [[105, 102], [116, 104, 101, 110], [101, 108, 115, 101]][n]? = some ο ∧ ∃ z α β γ y δ ε k a, al r s t v o f g c d ο z α β γ y δ ε k a ∧ ((y = 0) → ∃ b θ ι κ μ ν, bh z α β γ y b θ ι κ μ ν ∧ (a ++ [(Tree.node 0 [] [] [])]).length ≤ 1000000000 ∧ ∃ ξ, (a ++ [(Tree.node 0 [] [] [])])[a.length]? = some ξ ∧ il m θ ι κ μ ν δ ε k ((a ++ [(Tree.node 0 [] [] [])]).set a.length b) n r0 ζ x p q η) ∧ ((y ≠ 0) → n + 1 ≤ 9223372036854775807 ∧ be m z α β γ y δ ε k a (n + 1) r0 ζ x p q η)) ∧ ((o ≠ 0) → (Tree.node f g c d) = r0 ∧ r = ζ ∧ s = x ∧ t = p ∧ v = q ∧ o = η)) ∧ ((¬ (n : Int) < 3) → (Tree.node f g c d) = r0 ∧ r = ζ ∧ s = x ∧ t = p ∧ v = q ∧ o = η)) : be (m + 1) r s t v o f g c d n r0 ζ x p q η := by
 intro K j1 hK hj1
 obtain ⟨j1, rfl⟩ : ∃ j, j1 = j + 1 := ⟨j1 - 1, by omega⟩
 refine gR 6 rfl <| gB 52 rfl rfl rfl ?_ ?_ <;> intro hd
 refine gT 51 rfl hd rfl ?_
 replace hd := (of_decide_eq_true hd)
 replace h := h.1 hd
 refine gR 8 rfl <| gB 58 rfl rfl rfl ?_ ?_ <;> intro hd
 replace hd := (eq_of_beq hd)
 replace h := h.1 hd
 refine gR 3 rfl <| go_sub (F' := (mkF 113 0 [(0, .ptr 0 0), (2, .ptr 1 0), (4, .ptr 2 0), (5, .box [.str [105, 102], .str [116, 104, 101, 110], .str [101, 108, 115, 101]] 0), (6, .int .i64 (n : Int))])) (H' := ⟨5, [(4, .row 26 4 (kidsV d)), (3, .row 9 1 (List.map V.str c)), (2, vD f g), (1, vB 0 []), (0, vA r s t v o)]⟩) [0, 1, 2, 3, 4] [0] rfl hK pq5 ⟨⟨_, rfl, rfl, rfl, (ah _ d).symm⟩, ⟨_, rfl, rfl, rfl, (vI _ c).symm⟩, (pqo3 rfl rfl rfl rfl rfl rfl)⟩ rfl <| gR 6 rfl ?_
 obtain ⟨ο, hxs2_1, h⟩ := h
 refine gY (yIA (len := 3) (e := 9) (sz := 1) aa rfl rfl rfl rfl rfl rfl (uk (l := [[105, 102], [116, 104, 101, 110], [101, 108, 115, 101]]) hxs2_1).2.2 (uk (l := [[105, 102], [116, 104, 101, 110], [101, 108, 115, 101]]) hxs2_1).1 (uk (l := [[105, 102], [116, 104, 101, 110], [101, 108, 115, 101]]) hxs2_1).2.1) rfl rfl <| gR 1 rfl ?_
 obtain ⟨z, α, β, γ, y, δ, ε, k, a, hs102, h⟩ := h
 refine gCZ hs102 [0, 2, 3, 4] ⟨⟨_, rfl, ⟨rfl, rfl, (ah _ d).symm⟩⟩, ⟨⟨_, rfl, ⟨rfl, rfl, (vI _ c).symm⟩⟩, ⟨⟨_, rfl, ⟨rfl, ak.rfl⟩⟩, ⟨⟨_, rfl, ⟨rfl, ak.rfl⟩⟩, trivial⟩⟩⟩⟩ ?_
 refine gHR 7 (List.map V.str k) rfl (vI _ k) rfl <| gHR 8 (kidsV a) rfl (ah _ a) rfl <| gR 11 rfl <| gB 70 rfl rfl rfl ?_ ?_ <;> intro hd
 replace hd := (eq_of_beq hd)
 replace h := h.1 hd
 refine gR 1 rfl <| go_sub (F' := (mkF 113 0 [(0, .ptr 0 0), (2, .ptr 1 0), (4, .ptr 2 0), (5, .box [.str [105, 102], .str [116, 104, 101, 110], .str [101, 108, 115, 101]] 0), (6, .int .i64 (n : Int))])) (H' := ⟨5, [(4, .row 26 4 (kidsV a)), (3, .row 9 1 (List.map V.str k)), (2, vD δ ε), (1, vB 0 []), (0, vA z α β γ y)]⟩) [0, 1, 2, 7, 8] [0] rfl hK pq5 ⟨⟨_, rfl, rfl, rfl, (ah _ a).symm⟩, ⟨_, rfl, rfl, rfl, (vI _ k).symm⟩, (pqo3 rfl rfl rfl rfl rfl rfl)⟩ rfl <| gDs [2] 6 11 rfl (by kernel_rfl) (by kernel_rfl) ?_
 refine gDr [(0, 2), (1, 3), (2, 2), (4, 2)] (by kernel_rfl) rfl rfl <| gV 75 (.int .i64 (a.length : Int)) rfl (bC (av _)) rfl <| gLO 4 rfl (av _) fun hl106 => ?_
 obtain ⟨b, θ, ι, κ, μ, ν, hs107, h⟩ := h
 apply aF (i := 3) (j := 5) (by kernel_rfl) rfl rfl rfl rfl
 exact (de (L' := [2]) (by kernel_rfl) rfl rfl (df (H := ⟨5, [(4, .row 26 4 (kidsV a)), (3, .row 9 1 (List.map V.str k)), (2, vD δ ε), (1, vB 0 []), (0, vA z α β γ y)]⟩) hs107 [0] .rfl ⟨⟨_, rfl, ⟨rfl, ak.rfl⟩⟩, trivial⟩ rfl [2] rfl) (.inl rfl))
 exact (aD aa rfl rfl)
 refine gDr [(5, 0)] (by kernel_rfl) rfl rfl <| gHX 7 [.agg [.int .i64 0, .str [], .row 1 [], .row 4 (kidsV [])]] rfl (.cons (.agg (.cons .rfl (.cons .rfl (.cons (.nil 1) (.cons (.nil 4) .nil))))) .nil) rfl <| gHR 7 (kidsV [(Tree.node 0 [] [] [])]) rfl (bv (Tree.node 0 [] [] [])) rfl ?_
 obtain ⟨hb, h⟩ := h
 refine ax 6 (.repl 4 (.row 26 4 (kidsV (a ++ [(Tree.node 0 [] [] [])])))) rfl (by kernel_rfl) (bu aa rfl rfl rfl rfl rfl (aC a [(Tree.node 0 [] [] [])]).symm (by rw [av]; exact hb)) (okR rfl) rfl (by kernel_rfl) rfl rfl ?_
 obtain ⟨ξ, hxt2_17, h⟩ := h
 refine gYd 7 rfl (by kernel_rfl) (yIO aa rfl rfl rfl rfl (by have := (ae hxt2_17); exact (List.getElem?_eq_some_iff.1 this).1)) rfl rfl ?_
 refine gDr [(9, 2)] (by kernel_rfl) rfl rfl ?_
 apply aF (i := 8) (j := 10) (by kernel_rfl) rfl rfl rfl rfl
 exact (ba (.set 8 (.row 26 4 (kidsV ((a ++ [(Tree.node 0 [] [] [])]).set a.length b)))) (dSe aa rfl rfl rfl rfl (ae hxt2_17) rfl (bp (a ++ [(Tree.node 0 [] [] [])]) a.length b)) (okS rfl) (by kernel_rfl))
 exact (aD aa rfl rfl)
 exact gDr [(10, 1)] (by kernel_rfl) rfl rfl <| gDe (by kernel_rfl) <| gJ (h K _ hK (by omega)) [0, 1, 2, 3, 8] [0] rfl hK pq5 ⟨⟨_, rfl, rfl, rfl, (ah _ ((a ++ [(Tree.node 0 [] [] [])]).set a.length b)).symm⟩, ⟨_, rfl, rfl, rfl, (vI _ k).symm⟩, (pqo3 rfl rfl rfl rfl rfl rfl)⟩ rfl
 refine ax 8 (.set 8 (.row 26 4 (kidsV ((a ++ [(Tree.node 0 [] [] [])]).set a.length b)))) rfl (by kernel_rfl) (dSe aa rfl rfl rfl rfl (ae hxt2_17) rfl (bp (a ++ [(Tree.node 0 [] [] [])]) a.length b)) (okS rfl) rfl (by kernel_rfl) rfl rfl ?_
 exact gDe (by kernel_rfl) <| gJ (h K _ hK (by omega)) [0, 1, 2, 3, 8] [0] rfl hK pq5 ⟨⟨_, rfl, rfl, rfl, (ah _ ((a ++ [(Tree.node 0 [] [] [])]).set a.length b)).symm⟩, ⟨_, rfl, rfl, rfl, (vI _ k).symm⟩, (pqo3 rfl rfl rfl rfl rfl rfl)⟩ rfl
 refine gHX 5 [.agg [.int .i64 0, .str [], .row 1 [], .row 4 (kidsV [])]] rfl (.cons (.agg (.cons .rfl (.cons .rfl (.cons (.nil 1) (.cons (.nil 4) .nil))))) .nil) rfl ?_
 refine gHR 5 (kidsV [(Tree.node 0 [] [] [])]) rfl (bv (Tree.node 0 [] [] [])) rfl <| gDCY 3 hs107 [0] rfl ?_
 obtain ⟨hb, h⟩ := h
 refine ax 6 (.repl 4 (.row 26 4 (kidsV (a ++ [(Tree.node 0 [] [] [])])))) rfl (by kernel_rfl) (bu aa rfl rfl rfl rfl rfl (aC a [(Tree.node 0 [] [] [])]).symm (by rw [av]; exact hb)) (okR rfl) rfl (by kernel_rfl) rfl rfl ?_
 obtain ⟨ξ, hxt2_17, h⟩ := h
 refine gYd 7 rfl (by kernel_rfl) (yIO aa rfl rfl rfl rfl (by have := (ae hxt2_17); exact (List.getElem?_eq_some_iff.1 this).1)) rfl rfl ?_
 refine gDr [(9, 2)] (by kernel_rfl) rfl rfl ?_
 apply aF (i := 8) (j := 10) (by kernel_rfl) rfl rfl rfl rfl
 exact (ba (.set 8 (.row 26 4 (kidsV ((a ++ [(Tree.node 0 [] [] [])]).set a.length b)))) (dSe aa rfl rfl rfl rfl (ae hxt2_17) rfl (bp (a ++ [(Tree.node 0 [] [] [])]) a.length b)) (okS rfl) (by kernel_rfl))
 exact (aD aa rfl rfl)
 exact gDr [(10, 1)] (by kernel_rfl) rfl rfl <| gDe (by kernel_rfl) <| gJ (h K _ hK (by omega)) [0, 1, 2, 3, 8] [0] rfl hK pq5 ⟨⟨_, rfl, rfl, rfl, (ah _ ((a ++ [(Tree.node 0 [] [] [])]).set a.length b)).symm⟩, ⟨_, rfl, rfl, rfl, (vI _ k).symm⟩, (pqo3 rfl rfl rfl rfl rfl rfl)⟩ rfl
 refine ax 8 (.set 8 (.row 26 4 (kidsV ((a ++ [(Tree.node 0 [] [] [])]).set a.length b)))) rfl (by kernel_rfl) (dSe aa rfl rfl rfl rfl (ae hxt2_17) rfl (bp (a ++ [(Tree.node 0 [] [] [])]) a.length b)) (okS rfl) rfl (by kernel_rfl) rfl rfl ?_
 exact gDe (by kernel_rfl) <| gJ (h K _ hK (by omega)) [0, 1, 2, 3, 8] [0] rfl hK pq5 ⟨⟨_, rfl, rfl, rfl, (ah _ ((a ++ [(Tree.node 0 [] [] [])]).set a.length b)).symm⟩, ⟨_, rfl, rfl, rfl, (vI _ k).symm⟩, (pqo3 rfl rfl rfl rfl rfl rfl)⟩ rfl
 replace hd := (ne_of_beq_false hd)
 replace h := h.2 hd
 refine gR 6 rfl ?_
 obtain ⟨hb, h⟩ := h
 exact gR 1 rfl <| gV 60 (.int .i64 ((n + 1 : Nat) : Int)) rfl (cM (by omega) (by omega)) rfl <| gR 2 rfl <| go_xloop <| gJ (h K _ hK (by omega)) [0, 1, 2, 7, 8] [0] rfl hK pq5 ⟨⟨_, rfl, rfl, rfl, (ah _ a).symm⟩, ⟨_, rfl, rfl, rfl, (vI _ k).symm⟩, (pqo3 rfl rfl rfl rfl rfl rfl)⟩ rfl
 replace hd := (ne_of_beq_false hd)
 replace h := h.2 hd
 refine gR 3 rfl <| go_xloopE <| gR 2 rfl <| go_sub (F' := (mkF 113 0 [(2, .ptr 1 0), (4, .ptr 2 0)])) (H' := ⟨5, [(4, .row 26 4 (kidsV d)), (3, .row 9 1 (List.map V.str c)), (2, vD f g), (1, vB 0 []), (0, vA r s t v o)]⟩) [0, 1, 2, 3, 4] [0] rfl hK pq2 ⟨⟨_, rfl, rfl, rfl, (ah _ d).symm⟩, ⟨_, rfl, rfl, rfl, (vI _ c).symm⟩, (pqo3 rfl rfl rfl rfl rfl rfl)⟩ rfl <| gR 9 rfl <| gFR 3 rfl (ch _ (fun _ => rfl) _) rfl rfl <| gFR 4 rfl (cm _) rfl rfl ?_
 obtain ⟨rfl, rfl, rfl, rfl, rfl, rfl⟩ := h
 exact go_sub (F' := (mkF 113 0 [(2, .ptr 1 0)])) (H' := ⟨2, [(1, vF ((Tree.node f g c d).kind) ((Tree.node f g c d).text) ((Tree.node f g c d).leads) ((Tree.node f g c d).kids)), (0, vA r s t v o)]⟩) [0, 1] [0] rfl hK pq1 (pqo2 rfl rfl rfl rfl) rfl <| go_endD [1] aa (rs := [.cell 2 26]) rfl rfl ⟨rfl, rfl⟩
 refine gF 51 rfl hd rfl ?_
 replace hd := (of_decide_eq_false hd)
 replace h := h.2 hd
 refine gR 11 rfl <| go_xloopE <| gR 2 rfl <| go_sub (F' := (mkF 113 0 [(2, .ptr 1 0), (4, .ptr 2 0)])) (H' := ⟨5, [(4, .row 26 4 (kidsV d)), (3, .row 9 1 (List.map V.str c)), (2, vD f g), (1, vB 0 []), (0, vA r s t v o)]⟩) [0, 1, 2, 3, 4] [0] rfl hK pq2 ⟨⟨_, rfl, rfl, rfl, (ah _ d).symm⟩, ⟨_, rfl, rfl, rfl, (vI _ c).symm⟩, (pqo3 rfl rfl rfl rfl rfl rfl)⟩ rfl <| gR 9 rfl <| gFR 3 rfl (ch _ (fun _ => rfl) _) rfl rfl <| gFR 4 rfl (cm _) rfl rfl ?_
 obtain ⟨rfl, rfl, rfl, rfl, rfl, rfl⟩ := h
 exact go_sub (F' := (mkF 113 0 [(2, .ptr 1 0)])) (H' := ⟨2, [(1, vF ((Tree.node f g c d).kind) ((Tree.node f g c d).text) ((Tree.node f g c d).leads) ((Tree.node f g c d).kids)), (0, vA r s t v o)]⟩) [0, 1] [0] rfl hK pq1 (pqo2 rfl rfl rfl rfl) rfl <| go_endD [1] aa (rs := [.cell 2 26]) rfl rfl ⟨rfl, rfl⟩
theorem fg (m : Nat) (x : List GToken) (y : Int) (z : List UInt8) (α β : Int) (a r0 : Tree) (t : List GToken) (o : Int) (b : List UInt8) (c v : Int) (h : ∃ q d e g k l, aH x y z α β q d e g k l ∧ ((q = 8) → ∃ n, e = ((n : Nat) : Int) ∧ ∃ r, d[n]? = some r ∧ ∃ s, fW r.Text s ∧ ir m d e g k l s a r0 t o b c v) ∧ ((q ≠ 8) → a = r0 ∧ d = t ∧ e = o ∧ g = b ∧ k = c ∧ l = v)) : dN (m + 1) x y z α β a r0 t o b c v := by
 intro K j1 hK hj1
 obtain ⟨j1, rfl⟩ : ∃ j, j1 = j + 1 := ⟨j1 - 1, by omega⟩
 refine gR 2 rfl <| gDs [] 17 17 rfl (by kernel_rfl) (by kernel_rfl) <| gDr [(0, 0)] (by kernel_rfl) rfl rfl ?_
 obtain ⟨q, d, e, g, k, l, hs108, h⟩ := h
 refine gDCY 1 hs108 [0] rfl ?_
 refine gDr [(2, 0), (3, 0)] (by kernel_rfl) rfl rfl <| gB 86 rfl rfl rfl ?_ ?_ <;> intro hd
 refine gT 85 rfl hd rfl ?_
 replace hd := (eq_of_beq hd)
 replace h := h.1 hd
 refine gDr [(4, 2), (5, 2), (6, 2), (8, 2), (9, 2), (10, 2)] (by kernel_rfl) rfl rfl ?_
 apply aF (i := 7) (j := 11) (by kernel_rfl) rfl rfl rfl rfl
 exact (aD aa rfl rfl)
 exact (aD aa rfl rfl)
 refine gDr [(11, 0)] (by kernel_rfl) rfl rfl ?_
 obtain ⟨n, p, h⟩ := h
 refine gV 94 (.int .i64 ((n : Nat) : Int)) rfl (iF p) rfl ?_
 obtain ⟨r, hxx3_8, h⟩ := h
 refine cu 12 rfl (by kernel_rfl) (aY (mapget (f := GToken.w) hxx3_8) aa rfl rfl rfl rfl) rfl rfl ?_
 refine gDr [(13, 0), (14, 0)] (by kernel_rfl) rfl rfl ?_
 obtain ⟨s, hs109, h⟩ := h
 refine sU 15 hs109 (by kernel_rfl) rfl (by kernel_rfl) rfl rfl .rfl rfl rfl ?_
 exact gDr [(16, 0)] (by kernel_rfl) rfl rfl <| gDe (by kernel_rfl) <| gJ (h K _ hK (by omega)) [0, 1, 2] [0] rfl hK pq4 (pqo3 rfl rfl rfl rfl rfl rfl) rfl
 refine gDr [(7, 0)] (by kernel_rfl) rfl rfl ?_
 obtain ⟨n, p, h⟩ := h
 refine gV 94 (.int .i64 ((n : Nat) : Int)) rfl (iF p) rfl ?_
 obtain ⟨r, hxx3_8, h⟩ := h
 refine cu 12 rfl (by kernel_rfl) (aY (mapget (f := GToken.w) hxx3_8) aa rfl rfl rfl rfl) rfl rfl ?_
 refine gDr [(13, 0), (14, 0)] (by kernel_rfl) rfl rfl ?_
 obtain ⟨s, hs110, h⟩ := h
 refine sU 15 hs110 (by kernel_rfl) rfl (by kernel_rfl) rfl rfl .rfl rfl rfl ?_
 exact gDr [(16, 0)] (by kernel_rfl) rfl rfl <| gDe (by kernel_rfl) <| gJ (h K _ hK (by omega)) [0, 1, 2] [0] rfl hK pq4 (pqo3 rfl rfl rfl rfl rfl rfl) rfl
 refine gF 85 rfl hd rfl ?_
 replace hd := (ne_of_beq_false hd)
 replace h := h.2 hd
 refine gDr [(4, 2), (5, 2), (6, 2), (7, 2), (8, 0), (9, 0), (10, 0), (11, 0), (12, 0), (13, 0), (14, 0), (15, 0), (16, 0)] (by kernel_rfl) rfl rfl <| gDe (by kernel_rfl) <| gR 4 rfl <| go_xloopE <| gR 2 rfl <| go_sub (F' := (mkF 113 0 [(2, .ptr 1 0), (7, .ptr 2 0)])) (H' := ⟨3, [(2, .var 26 (ar a)), (1, vB 0 []), (0, vA d e g k l)]⟩) [0, 1, 2] [0] rfl hK pq2 (pqo3 rfl rfl rfl rfl rfl rfl) rfl <| gR 7 rfl ?_
 obtain ⟨rfl, rfl, rfl, rfl, rfl, rfl⟩ := h
 exact go_sub (F' := (mkF 113 0 [(2, .ptr 1 0)])) (H' := ⟨2, [(1, vF a.kind a.text a.leads a.kids), (0, vA d e g k l)]⟩) [0, 1] [0] rfl hK pq1 (pqo2 rfl rfl rfl rfl) rfl <| go_endD [1] aa (rs := [.cell 2 26]) rfl rfl ⟨rfl, rfl⟩
theorem lw (m : Nat) (c : Int) (d : List UInt8) (e : (List (List UInt8))) (a : List Tree) (b : Tree) (i : List GToken) (j : Int) (k : List UInt8) (l n : Int) (r0 : Tree) (p : List GToken) (o : Int) (f : List UInt8) (g q : Int) (h : (Tree.node c d e ((a ++ [(Tree.node 0 [] [] [])]).set a.length b)) = r0 ∧ i = p ∧ j = o ∧ k = f ∧ l = g ∧ n = q) : iv (m + 1) c d e a b i j k l n r0 p o f g q := by
 intro K hK
 refine gR 10 rfl <| gFR 3 rfl (ch _ (fun _ => rfl) _) rfl rfl <| gFR 4 rfl (cm _) rfl rfl ?_
 obtain ⟨rfl, rfl, rfl, rfl, rfl, rfl⟩ := h
 exact go_sub (F' := (mkF 113 0 [(2, .ptr 1 0)])) (H' := ⟨2, [(1, vF ((Tree.node c d e ((a ++ [(Tree.node 0 [] [] [])]).set a.length b)).kind) ((Tree.node c d e ((a ++ [(Tree.node 0 [] [] [])]).set a.length b)).text) ((Tree.node c d e ((a ++ [(Tree.node 0 [] [] [])]).set a.length b)).leads) ((Tree.node c d e ((a ++ [(Tree.node 0 [] [] [])]).set a.length b)).kids)), (0, vA i j k l n)]⟩) [0, 1] [0] rfl hK pq1 (pqo2 rfl rfl rfl rfl) rfl <| go_endD [1] aa (rs := [.cell 2 26]) rfl rfl ⟨rfl, rfl⟩
theorem lC (m : Nat) (g : List GToken) (i : Int) (k : List UInt8) (l n o : Int) (p : List UInt8) (e : (List (List UInt8))) (f : List Tree) (a : Nat) (r0 : Tree) (q : List GToken) (d : Int) (b : List UInt8) (c r : Int) (h : a + 1 ≤ 9223372036854775807 ∧ be m g i k l n o p e f (a + 1) r0 q d b c r) : il (m + 1) g i k l n o p e f a r0 q d b c r := by
 intro K j1 hK hj1
 obtain ⟨j1, rfl⟩ : ∃ j, j1 = j + 1 := ⟨j1 - 1, by omega⟩
 refine gR 4 rfl ?_
 obtain ⟨hb, h⟩ := h
 exact gR 1 rfl <| gV 60 (.int .i64 ((a + 1 : Nat) : Int)) rfl (cM (by omega) (by omega)) rfl <| gR 2 rfl <| go_xloop <| gJ (h K _ hK (by omega)) [0, 1, 2, 3, 4] [0] rfl hK pq5 ⟨⟨_, rfl, rfl, rfl, (ah _ f).symm⟩, ⟨_, rfl, rfl, rfl, (vI _ e).symm⟩, (pqo3 rfl rfl rfl rfl rfl rfl)⟩ rfl
theorem hU (m : Nat) (t : List GToken) (v : Int) (x : List UInt8) (y z : Int) (α : Bool) (a r0 : Tree) (β : List GToken) (f : Int) (d : List UInt8) (e γ : Int) (h : ((α = true) → ∃ g k l n o p, cG t v x y z g k l n o p ∧ ∃ b δ ε q r s, dX k l n o p b δ ε q r s ∧ io m g δ ε q r s [a, b] r0 β f d e γ) ∧ ((α = false) → a = r0 ∧ t = β ∧ v = f ∧ x = d ∧ y = e ∧ z = γ)) : ir (m + 1) t v x y z α a r0 β f d e γ := by
 intro K j1 hK hj1
 obtain ⟨j1, rfl⟩ : ∃ j, j1 = j + 1 := ⟨j1 - 1, by omega⟩
 refine gR 1 rfl <| gB 99 rfl rfl rfl ?_ ?_ <;> intro hd
 replace h := h.1 hd
 refine gR 7 rfl ?_
 obtain ⟨g, k, l, n, o, p, hs111, h⟩ := h
 refine gCY hs111 [0] ?_
 refine gR 4 rfl <| go_sub (F' := (mkF 113 0 [(0, .ptr 0 0), (2, .ptr 1 0), (7, .ptr 2 0), (8, .ptr 3 0)])) (H' := ⟨4, [(3, .var 41 (GToken.c g)), (2, .var 26 (ar a)), (1, vB 0 []), (0, vA k l n o p)]⟩) [0, 1, 2, 5] [0] rfl hK pq4 (pqo4 rfl rfl rfl rfl rfl rfl rfl rfl) rfl <| gDs [3, 2] 10 11 rfl (by kernel_rfl) (by kernel_rfl) <| gDr [(0, 2), (1, 3), (2, 2), (3, 3), (5, 3), (6, 2)] (by kernel_rfl) rfl rfl ?_
 obtain ⟨b, δ, ε, q, r, s, hs112, h⟩ := h
 apply aF (i := 4) (j := 7) (by kernel_rfl) rfl rfl rfl rfl
 exact (aD aa rfl rfl)
 exact (de (L' := [3, 2]) (by kernel_rfl) rfl rfl (df (H := ⟨4, [(3, .var 41 (GToken.c g)), (2, .var 26 (ar a)), (1, vB 0 []), (0, vA k l n o p)]⟩) hs112 [0] .rfl ⟨⟨_, rfl, ⟨rfl, ak.rfl⟩⟩, trivial⟩ rfl [3, 2] rfl) (.inl rfl))
 refine gDCY 7 hs112 [0] rfl ?_
 exact gDr [(8, 0)] (by kernel_rfl) rfl rfl <| gHR 7 (kidsV [a, b]) rfl (qR [a, b]) rfl <| gDr [(9, 0), (10, 1)] (by kernel_rfl) rfl rfl <| gDe (by kernel_rfl) <| gJ (h K _ hK (by omega)) [0, 1, 2, 4, 7] [0] rfl hK pq3 ⟨⟨_, rfl, rfl, rfl, (ah _ [a, b]).symm⟩, ⟨_, rfl, rfl, rfl, rfl⟩, (pqo3 rfl rfl rfl rfl rfl rfl)⟩ rfl
 apply aF (i := 4) (j := 8) (by kernel_rfl) rfl rfl rfl rfl
 exact (aD aa rfl rfl)
 exact (aD aa rfl rfl)
 exact gDr [(8, 0)] (by kernel_rfl) rfl rfl <| gHR 7 (kidsV [a, b]) rfl (qR [a, b]) rfl <| gDr [(9, 0), (10, 1)] (by kernel_rfl) rfl rfl <| gDe (by kernel_rfl) <| gJ (h K _ hK (by omega)) [0, 1, 2, 6, 7] [0] rfl hK pq3 ⟨⟨_, rfl, rfl, rfl, (ah _ [a, b]).symm⟩, ⟨_, rfl, rfl, rfl, rfl⟩, (pqo3 rfl rfl rfl rfl rfl rfl)⟩ rfl
 exact gHR 6 (kidsV [a, b]) rfl (qR [a, b]) rfl <| gDr [(4, 0), (9, 0), (10, 1)] (by kernel_rfl) rfl rfl <| gDe (by kernel_rfl) <| gJ (h K _ hK (by omega)) [0, 1, 2, 7, 6] [0] rfl hK pq3 ⟨⟨_, rfl, rfl, rfl, (ah _ [a, b]).symm⟩, ⟨_, rfl, rfl, rfl, rfl⟩, (pqo3 rfl rfl rfl rfl rfl rfl)⟩ rfl
 replace h := h.2 hd
 refine gR 3 rfl <| go_xloopE <| gR 9 rfl ?_
 obtain ⟨rfl, rfl, rfl, rfl, rfl, rfl⟩ := h
 exact go_sub (F' := (mkF 113 0 [(2, .ptr 1 0)])) (H' := ⟨2, [(1, vF a.kind a.text a.leads a.kids), (0, vA t v x y z)]⟩) [0, 1] [0] rfl hK pq1 (pqo2 rfl rfl rfl rfl) rfl <| go_endD [1] aa (rs := [.cell 2 26]) rfl rfl ⟨rfl, rfl⟩
theorem lx (m : Nat) (d : GToken) (i : List GToken) (k : Int) (e : List UInt8) (f g : Int) (l : List Tree) (r0 : Tree) (n : List GToken) (c : Int) (a : List UInt8) (b o : Int) (h : dN m i k e f g (Tree.node 21 d.Text [d.Lead] l) r0 n c a b o) : io (m + 1) d i k e f g l r0 n c a b o := by
 intro K j1 hK hj1
 obtain ⟨j1, rfl⟩ : ∃ j, j1 = j + 1 := ⟨j1 - 1, by omega⟩
 exact gR 1 rfl <| go_xloop <| gFR 3 rfl rfl rfl rfl <| gFR 4 rfl (cm _) rfl rfl <| gJ (h K _ hK (by omega)) [0, 1, 2] [0] rfl hK pq3 (pqo3 rfl rfl rfl rfl rfl rfl) rfl
def im (m : Nat) (e : Int) (f : List UInt8) (g : (List (List UInt8))) (a : List Tree) (i : Tree) (j : List GToken) (k : Int) (l : List UInt8) (n o : Int) (r0 : Tree) (p : List GToken) (d : Int) (b : List UInt8) (c q : Int) : Prop := ∀ (K : Ctx), aR K [0] → Go Try.prog K (bodyPost Try.prog Try.f80 (SP K (fun u G => u = .agg (ar r0) ∧ G = ⟨2, [(0, vA p d b c q)]⟩))) (.ex .normal) [.seq (xF (xJ (xK (xB (cK (cA (cB (aj Try.f80)))))))), .blk 0, .seq (xA (aj Try.f80))] 99 (mkF 99 0 [(0, .ptr 0 0), (2, .ptr 1 0), (5, .ptr 2 0)]) ⟨5, [(4, .row 26 4 (kidsV ((a ++ [(Tree.node 0 [] [] [])]).set a.length i))), (3, .row 9 1 (List.map V.str g)), (2, vD e f), (1, vB 0 []), (0, vA j k l n o)]⟩
def cX (m : Nat) (d : List GToken) (e : Int) (f : List UInt8) (g i : Int) (j : Bool) (r0 : Tree) (k : List GToken) (c : Int) (a : List UInt8) (b l : Int) : Prop := ∀ (K : Ctx), aR K [0] → qLG K Try.f80 (fun u G => u = .agg (ar r0) ∧ G = ⟨2, [(0, vA k c a b l)]⟩) (cB (xK (xD (xB (cK (cA (cB (aj Try.f80)))))))) [.blk 0, .seq (xA (aj Try.f80))] 99 (mkF 99 0 [(0, .ptr 0 0), (2, .ptr 1 0), (67, .bool j)]) ⟨2, [(1, vB 0 []), (0, vA d e f g i)]⟩
theorem bf (m : Nat) (p0_l : List GToken) (p0_at_ : Int) (p0_tail : List UInt8) (p0_stop p0_e : Int) (r0 : Tree) (t : List GToken) (e : Int) (b : List UInt8) (c v : Int) (h : ∃ n0_1 r0_2 n0_3 s0_4 n0_5 n0_6, aH p0_l p0_at_ p0_tail p0_stop p0_e n0_1 r0_2 n0_3 s0_4 n0_5 n0_6 ∧ ((n0_1 = 5) → ∃ r0_7 n0_8 s0_9 n0_10 n0_11 p q g k, aS r0_2 n0_3 s0_4 n0_5 n0_6 10 [] ([] : List (List UInt8)) ([] : List Tree) 5 r0_7 n0_8 s0_9 n0_10 n0_11 p q g k ∧ (Tree.node p q g k) = r0 ∧ r0_7 = t ∧ n0_8 = e ∧ s0_9 = b ∧ n0_10 = c ∧ n0_11 = v) ∧ ((n0_1 ≠ 5) → ∃ n0_16 γ δ ε ζ η, aH r0_2 n0_3 s0_4 n0_5 n0_6 n0_16 γ δ ε ζ η ∧ ((n0_16 = 6) → ∃ r0_22 n0_23 s0_24 n0_25 n0_26 x y l n, aS γ δ ε ζ η 11 [] ([] : List (List UInt8)) ([] : List Tree) 6 r0_22 n0_23 s0_24 n0_25 n0_26 x y l n ∧ (Tree.node x y l n) = r0 ∧ r0_22 = t ∧ n0_23 = e ∧ s0_24 = b ∧ n0_25 = c ∧ n0_26 = v) ∧ ((n0_16 ≠ 6) → ∃ b0_31 r0_32 n0_33 s0_34 n0_35 n0_36, aq γ δ ε ζ η [116, 114, 117, 101] b0_31 r0_32 n0_33 s0_34 n0_35 n0_36 ∧ ((b0_31 = true) → ∃ z r0_38 n0_39 s0_40 n0_41 n0_42, bJ r0_32 n0_33 s0_34 n0_35 n0_36 13 z r0_38 n0_39 s0_40 n0_41 n0_42 ∧ z = r0 ∧ r0_38 = t ∧ n0_39 = e ∧ s0_40 = b ∧ n0_41 = c ∧ n0_42 = v) ∧ ((b0_31 = false) → ∃ b0_43 r0_44 n0_45 s0_46 n0_47 n0_48, aq r0_32 n0_33 s0_34 n0_35 n0_36 [102, 97, 108, 115, 101] b0_43 r0_44 n0_45 s0_46 n0_47 n0_48 ∧ ((b0_43 = true) → ∃ α r0_50 n0_51 s0_52 n0_53 n0_54, bJ r0_44 n0_45 s0_46 n0_47 n0_48 14 α r0_50 n0_51 s0_52 n0_53 n0_54 ∧ α = r0 ∧ r0_50 = t ∧ n0_51 = e ∧ s0_52 = b ∧ n0_53 = c ∧ n0_54 = v) ∧ ((b0_43 = false) → ∃ b0_55 θ ι κ μ ν, aq r0_44 n0_45 s0_46 n0_47 n0_48 [63] b0_55 θ ι κ μ ν ∧ ((b0_55 = true) → ∃ β r0_62 n0_63 s0_64 n0_65 n0_66, bJ θ ι κ μ ν 15 β r0_62 n0_63 s0_64 n0_65 n0_66 ∧ β = r0 ∧ r0_62 = t ∧ n0_63 = e ∧ s0_64 = b ∧ n0_65 = c ∧ n0_66 = v) ∧ ((b0_55 = false) → ∃ b0_67 r0_68 n0_69 s0_70 n0_71 n0_72, aq θ ι κ μ ν [40] b0_67 r0_68 n0_69 s0_70 n0_71 n0_72 ∧ ((b0_67 = true) → ∃ r0_73 n0_74 s0_75 n0_76 n0_77 n0_78 s0_79 f a, al r0_68 n0_69 s0_70 n0_71 n0_72 22 [] ([] : List (List UInt8)) ([] : List Tree) [40] r0_73 n0_74 s0_75 n0_76 n0_77 n0_78 s0_79 f a ∧ ∃ d r0_83 n0_84 s0_85 n0_86 n0_87, bh r0_73 n0_74 s0_75 n0_76 n0_77 d r0_83 n0_84 s0_85 n0_86 n0_87 ∧ (a ++ [(Tree.node 0 [] [] [])]).length ≤ 1000000000 ∧ ∃ t0_88, (a ++ [(Tree.node 0 [] [] [])])[a.length]? = some t0_88 ∧ im m n0_78 s0_79 f a d r0_83 n0_84 s0_85 n0_86 n0_87 r0 t e b c v) ∧ ((b0_67 = false) → ∃ b0_89 r0_90 n0_91 s0_92 n0_93 n0_94, aq r0_68 n0_69 s0_70 n0_71 n0_72 [91] b0_89 r0_90 n0_91 s0_92 n0_93 n0_94 ∧ ((b0_89 = true) → ∃ r0_95 n0_96 s0_97 n0_98 n0_99 n0_100 s0_101 r s, al r0_90 n0_91 s0_92 n0_93 n0_94 18 [] ([] : List (List UInt8)) ([] : List Tree) [91] r0_95 n0_96 s0_97 n0_98 n0_99 n0_100 s0_101 r s ∧ ∃ o ξ ο π τ υ, co r0_95 n0_96 s0_97 n0_98 n0_99 n0_100 s0_101 r s [93] 16 o ξ ο π τ υ ∧ o = r0 ∧ ξ = t ∧ ο = e ∧ π = b ∧ τ = c ∧ υ = v) ∧ ((b0_89 = false) → ∃ φ χ ψ ω n0_114 n0_115, aH r0_90 n0_91 s0_92 n0_93 n0_94 φ χ ψ ω n0_114 n0_115 ∧ ((φ = 1) → cX m χ ψ ω n0_114 n0_115 true r0 t e b c v) ∧ ((φ ≠ 1) → ∃ n0_116 r0_117 n0_118 s0_119 n0_120 n0_121, aH χ ψ ω n0_114 n0_115 n0_116 r0_117 n0_118 s0_119 n0_120 n0_121 ∧ cX m r0_117 n0_118 s0_119 n0_120 n0_121 (n0_116 == 3) r0 t e b c v))))))))) : dX p0_l p0_at_ p0_tail p0_stop p0_e r0 t e b c v := by
 refine az 99 [0] Try.func80 rfl rfl rfl (bg rfl) fun K hK => ?_
 refine gR 10 rfl ?_
 obtain ⟨n0_1, r0_2, n0_3, s0_4, n0_5, n0_6, hs92, h⟩ := h
 refine gCY hs92 [0] ?_
 refine gR 4 rfl <| qBeZ 9 12 rfl rfl rfl rfl h (fun h => ?_) fun h => ?_
 refine gR 11 rfl <| gNC 3 2 9 1 rfl rfl rfl rfl <| gNC 3 3 26 4 rfl rfl rfl rfl ?_
 obtain ⟨r0_7, n0_8, s0_9, n0_10, n0_11, p, q, g, k, hs93, h⟩ := h
 refine gCZ hs93 [0, 3, 4, 5] ⟨⟨_, rfl, ⟨rfl, rfl, rfl⟩⟩, ⟨⟨_, rfl, ⟨rfl, rfl, rfl⟩⟩, ⟨⟨_, rfl, ⟨rfl, ak.rfl⟩⟩, ⟨⟨_, rfl, ⟨rfl, ak.rfl⟩⟩, trivial⟩⟩⟩⟩ ?_
 refine gHR 8 (List.map V.str g) rfl (vI _ g) rfl <| gHR 9 (kidsV k) rfl (ah _ k) rfl <| gR 2 rfl <| go_sub (F' := (mkF 99 0 [(2, .ptr 1 0), (3, .ptr 2 0)])) (H' := ⟨5, [(4, .row 26 4 (kidsV k)), (3, .row 9 1 (List.map V.str g)), (2, vD p q), (1, vB 0 []), (0, vA r0_7 n0_8 s0_9 n0_10 n0_11)]⟩) [0, 1, 3, 8, 9] [0] rfl hK pq2 ⟨⟨_, rfl, rfl, rfl, (ah _ k).symm⟩, ⟨_, rfl, rfl, rfl, (vI _ g).symm⟩, (pqo3 rfl rfl rfl rfl rfl rfl)⟩ rfl <| gR 9 rfl <| gFR 3 rfl (ch _ (fun _ => rfl) _) rfl rfl ?_
 refine gFR 4 rfl (cm _) rfl rfl ?_
 obtain ⟨rfl, rfl, rfl, rfl, rfl, rfl⟩ := h
 exact go_sub (F' := (mkF 99 0 [(2, .ptr 1 0)])) (H' := ⟨2, [(1, vF ((Tree.node p q g k).kind) ((Tree.node p q g k).text) ((Tree.node p q g k).leads) ((Tree.node p q g k).kids)), (0, vA r0_7 n0_8 s0_9 n0_10 n0_11)]⟩) [0, 1] [0] rfl hK pq1 (pqo2 rfl rfl rfl rfl) rfl <| go_endD [1] aa (rs := [.cell 2 26]) rfl rfl ⟨rfl, rfl⟩
 refine gR 4 rfl ?_
 obtain ⟨n0_16, γ, δ, ε, ζ, η, hs94, h⟩ := h
 refine gCY hs94 [0] ?_
 refine gR 4 rfl <| qBeZ 17 20 rfl rfl rfl rfl h (fun h => ?_) fun h => ?_
 refine gR 1 rfl <| go_sub (F' := (mkF 99 0 [(0, .ptr 0 0), (2, .ptr 1 0)])) (H' := ⟨2, [(1, vB 0 []), (0, vA γ δ ε ζ η)]⟩) [0, 1] [0] rfl hK pq2 (pqo2 rfl rfl rfl rfl) rfl <| gR 10 rfl <| gNC 2 2 9 1 rfl rfl rfl rfl <| gNC 2 3 26 4 rfl rfl rfl rfl ?_
 obtain ⟨r0_22, n0_23, s0_24, n0_25, n0_26, x, y, l, n, hs95, h⟩ := h
 refine gCZ hs95 [0, 2, 3, 4] ⟨⟨_, rfl, ⟨rfl, rfl, rfl⟩⟩, ⟨⟨_, rfl, ⟨rfl, rfl, rfl⟩⟩, ⟨⟨_, rfl, ⟨rfl, ak.rfl⟩⟩, ⟨⟨_, rfl, ⟨rfl, ak.rfl⟩⟩, trivial⟩⟩⟩⟩ ?_
 refine gHR 7 (List.map V.str l) rfl (vI _ l) rfl <| gHR 8 (kidsV n) rfl (ah _ n) rfl <| gR 11 rfl <| gFR 7 rfl (ch _ (fun _ => rfl) _) rfl rfl <| gFR 8 rfl (cm _) rfl rfl ?_
 obtain ⟨rfl, rfl, rfl, rfl, rfl, rfl⟩ := h
 exact go_sub (F' := (mkF 99 0 [(2, .ptr 1 0)])) (H' := ⟨2, [(1, vF ((Tree.node x y l n).kind) ((Tree.node x y l n).text) ((Tree.node x y l n).leads) ((Tree.node x y l n).kids)), (0, vA r0_22 n0_23 s0_24 n0_25 n0_26)]⟩) [0, 1] [0] rfl hK pq1 (pqo2 rfl rfl rfl rfl) rfl <| go_endD [1] aa (rs := [.cell 2 26]) rfl rfl ⟨rfl, rfl⟩
 refine gR 1 rfl <| go_sub (F' := (mkF 99 0 [(0, .ptr 0 0), (2, .ptr 1 0)])) (H' := ⟨2, [(1, vB 0 []), (0, vA γ δ ε ζ η)]⟩) [0, 1] [0] rfl hK pq2 (pqo2 rfl rfl rfl rfl) rfl <| gR 3 rfl ?_
 obtain ⟨b0_31, r0_32, n0_33, s0_34, n0_35, n0_36, hs96, h⟩ := h
 refine gCY hs96 [0] ?_
 refine gR 3 rfl <| qBiZ 25 27 rfl rfl rfl rfl h (fun h => ?_) fun h => ?_
 refine gR 4 rfl ?_
 obtain ⟨z, r0_38, n0_39, s0_40, n0_41, n0_42, hs97, h⟩ := h
 refine gCY hs97 [0] ?_
 refine gR 6 rfl ?_
 obtain ⟨rfl, rfl, rfl, rfl, rfl, rfl⟩ := h
 exact go_sub (F' := (mkF 99 0 [(2, .ptr 1 0)])) (H' := ⟨2, [(1, vF z.kind z.text z.leads z.kids), (0, vA r0_38 n0_39 s0_40 n0_41 n0_42)]⟩) [0, 1] [0] rfl hK pq1 (pqo2 rfl rfl rfl rfl) rfl <| go_endD [1] aa (rs := [.cell 2 26]) rfl rfl ⟨rfl, rfl⟩
 refine gR 4 rfl ?_
 obtain ⟨b0_43, r0_44, n0_45, s0_46, n0_47, n0_48, hs98, h⟩ := h
 refine gCY hs98 [0] ?_
 refine gR 3 rfl <| qBiZ 30 32 rfl rfl rfl rfl h (fun h => ?_) fun h => ?_
 refine gR 4 rfl ?_
 obtain ⟨α, r0_50, n0_51, s0_52, n0_53, n0_54, hs99, h⟩ := h
 refine gCY hs99 [0] ?_
 refine gR 6 rfl ?_
 obtain ⟨rfl, rfl, rfl, rfl, rfl, rfl⟩ := h
 exact go_sub (F' := (mkF 99 0 [(2, .ptr 1 0)])) (H' := ⟨2, [(1, vF α.kind α.text α.leads α.kids), (0, vA r0_50 n0_51 s0_52 n0_53 n0_54)]⟩) [0, 1] [0] rfl hK pq1 (pqo2 rfl rfl rfl rfl) rfl <| go_endD [1] aa (rs := [.cell 2 26]) rfl rfl ⟨rfl, rfl⟩
 refine gR 4 rfl ?_
 obtain ⟨b0_55, θ, ι, κ, μ, ν, hs100, h⟩ := h
 refine gCY hs100 [0] ?_
 refine gR 3 rfl <| qBiZ 35 37 rfl rfl rfl rfl h (fun h => ?_) fun h => ?_
 refine gR 1 rfl <| go_sub (F' := (mkF 99 0 [(0, .ptr 0 0), (2, .ptr 1 0)])) (H' := ⟨2, [(1, vB 0 []), (0, vA θ ι κ μ ν)]⟩) [0, 1] [0] rfl hK pq2 (pqo2 rfl rfl rfl rfl) rfl <| gR 3 rfl ?_
 obtain ⟨β, r0_62, n0_63, s0_64, n0_65, n0_66, hs101, h⟩ := h
 refine gCY hs101 [0] ?_
 refine gR 6 rfl ?_
 obtain ⟨rfl, rfl, rfl, rfl, rfl, rfl⟩ := h
 exact go_sub (F' := (mkF 99 0 [(2, .ptr 1 0)])) (H' := ⟨2, [(1, vF β.kind β.text β.leads β.kids), (0, vA r0_62 n0_63 s0_64 n0_65 n0_66)]⟩) [0, 1] [0] rfl hK pq1 (pqo2 rfl rfl rfl rfl) rfl <| go_endD [1] aa (rs := [.cell 2 26]) rfl rfl ⟨rfl, rfl⟩
 refine gR 1 rfl <| go_sub (F' := (mkF 99 0 [(0, .ptr 0 0), (2, .ptr 1 0)])) (H' := ⟨2, [(1, vB 0 []), (0, vA θ ι κ μ ν)]⟩) [0, 1] [0] rfl hK pq2 (pqo2 rfl rfl rfl rfl) rfl <| gR 3 rfl ?_
 obtain ⟨b0_67, r0_68, n0_69, s0_70, n0_71, n0_72, hs102, h⟩ := h
 refine gCY hs102 [0] ?_
 refine gR 3 rfl <| qBiZ 40 42 rfl rfl rfl rfl h (fun h => ?_) fun h => ?_
 refine gR 11 rfl <| gNC 3 2 9 1 rfl rfl rfl rfl <| gNC 3 3 26 4 rfl rfl rfl rfl ?_
 obtain ⟨r0_73, n0_74, s0_75, n0_76, n0_77, n0_78, s0_79, f, a, hs103, h⟩ := h
 refine gCZ hs103 [0, 3, 4, 5] ⟨⟨_, rfl, ⟨rfl, rfl, rfl⟩⟩, ⟨⟨_, rfl, ⟨rfl, rfl, rfl⟩⟩, ⟨⟨_, rfl, ⟨rfl, ak.rfl⟩⟩, ⟨⟨_, rfl, ⟨rfl, ak.rfl⟩⟩, trivial⟩⟩⟩⟩ ?_
 refine gHR 8 (List.map V.str f) rfl (vI _ f) rfl <| gHR 9 (kidsV a) rfl (ah _ a) rfl <| gR 3 rfl <| go_sub (F' := (mkF 99 0 [(0, .ptr 0 0), (2, .ptr 1 0), (5, .ptr 2 0)])) (H' := ⟨5, [(4, .row 26 4 (kidsV a)), (3, .row 9 1 (List.map V.str f)), (2, vD n0_78 s0_79), (1, vB 0 []), (0, vA r0_73 n0_74 s0_75 n0_76 n0_77)]⟩) [0, 1, 3, 8, 9] [0] rfl hK pq3 ⟨⟨_, rfl, rfl, rfl, (ah _ a).symm⟩, ⟨_, rfl, rfl, rfl, (vI _ f).symm⟩, (pqo3 rfl rfl rfl rfl rfl rfl)⟩ rfl <| gDs [2] 6 11 rfl (by kernel_rfl) (by kernel_rfl) ?_
 refine gDr [(0, 2), (1, 3), (2, 2), (4, 2)] (by kernel_rfl) rfl rfl <| gV 50 (.int .i64 (a.length : Int)) rfl (bC (av _)) rfl <| gLO 4 rfl (av _) fun hl107 => ?_
 obtain ⟨d, r0_83, n0_84, s0_85, n0_86, n0_87, hs108, h⟩ := h
 apply aF (i := 3) (j := 5) (by kernel_rfl) rfl rfl rfl rfl
 exact (de (L' := [2]) (by kernel_rfl) rfl rfl (df (H := ⟨5, [(4, .row 26 4 (kidsV a)), (3, .row 9 1 (List.map V.str f)), (2, vD n0_78 s0_79), (1, vB 0 []), (0, vA r0_73 n0_74 s0_75 n0_76 n0_77)]⟩) hs108 [0] .rfl ⟨⟨_, rfl, ⟨rfl, ak.rfl⟩⟩, trivial⟩ rfl [2] rfl) (.inl rfl))
 exact (aD aa rfl rfl)
 refine gDr [(5, 0)] (by kernel_rfl) rfl rfl <| gHX 7 [.agg [.int .i64 0, .str [], .row 1 [], .row 4 (kidsV [])]] rfl (.cons (.agg (.cons .rfl (.cons .rfl (.cons (.nil 1) (.cons (.nil 4) .nil))))) .nil) rfl <| gHR 7 (kidsV [(Tree.node 0 [] [] [])]) rfl (bv (Tree.node 0 [] [] [])) rfl ?_
 obtain ⟨hb, h⟩ := h
 refine ax 6 (.repl 4 (.row 26 4 (kidsV (a ++ [(Tree.node 0 [] [] [])])))) rfl (by kernel_rfl) (bu aa rfl rfl rfl rfl rfl (aC a [(Tree.node 0 [] [] [])]).symm (by rw [av]; exact hb)) (okR rfl) rfl (by kernel_rfl) rfl rfl ?_
 obtain ⟨t0_88, hxt0_88, h⟩ := h
 refine gYd 7 rfl (by kernel_rfl) (yIO aa rfl rfl rfl rfl (by have := (ae hxt0_88); exact (List.getElem?_eq_some_iff.1 this).1)) rfl rfl ?_
 refine gDr [(9, 2)] (by kernel_rfl) rfl rfl ?_
 apply aF (i := 8) (j := 10) (by kernel_rfl) rfl rfl rfl rfl
 exact (ba (.set 8 (.row 26 4 (kidsV ((a ++ [(Tree.node 0 [] [] [])]).set a.length d)))) (dSe aa rfl rfl rfl rfl (ae hxt0_88) rfl (bp (a ++ [(Tree.node 0 [] [] [])]) a.length d)) (okS rfl) (by kernel_rfl))
 exact (aD aa rfl rfl)
 exact gDr [(10, 1)] (by kernel_rfl) rfl rfl <| gDe (by kernel_rfl) <| gJ (h K hK) [0, 1, 2, 3, 8] [0] rfl hK pq3 ⟨⟨_, rfl, rfl, rfl, (ah _ ((a ++ [(Tree.node 0 [] [] [])]).set a.length d)).symm⟩, ⟨_, rfl, rfl, rfl, (vI _ f).symm⟩, (pqo3 rfl rfl rfl rfl rfl rfl)⟩ rfl
 refine ax 8 (.set 8 (.row 26 4 (kidsV ((a ++ [(Tree.node 0 [] [] [])]).set a.length d)))) rfl (by kernel_rfl) (dSe aa rfl rfl rfl rfl (ae hxt0_88) rfl (bp (a ++ [(Tree.node 0 [] [] [])]) a.length d)) (okS rfl) rfl (by kernel_rfl) rfl rfl ?_
 exact gDe (by kernel_rfl) <| gJ (h K hK) [0, 1, 2, 3, 8] [0] rfl hK pq3 ⟨⟨_, rfl, rfl, rfl, (ah _ ((a ++ [(Tree.node 0 [] [] [])]).set a.length d)).symm⟩, ⟨_, rfl, rfl, rfl, (vI _ f).symm⟩, (pqo3 rfl rfl rfl rfl rfl rfl)⟩ rfl
 refine gHX 5 [.agg [.int .i64 0, .str [], .row 1 [], .row 4 (kidsV [])]] rfl (.cons (.agg (.cons .rfl (.cons .rfl (.cons (.nil 1) (.cons (.nil 4) .nil))))) .nil) rfl ?_
 refine gHR 5 (kidsV [(Tree.node 0 [] [] [])]) rfl (bv (Tree.node 0 [] [] [])) rfl <| gDCY 3 hs108 [0] rfl ?_
 obtain ⟨hb, h⟩ := h
 refine ax 6 (.repl 4 (.row 26 4 (kidsV (a ++ [(Tree.node 0 [] [] [])])))) rfl (by kernel_rfl) (bu aa rfl rfl rfl rfl rfl (aC a [(Tree.node 0 [] [] [])]).symm (by rw [av]; exact hb)) (okR rfl) rfl (by kernel_rfl) rfl rfl ?_
 obtain ⟨t0_88, hxt0_88, h⟩ := h
 refine gYd 7 rfl (by kernel_rfl) (yIO aa rfl rfl rfl rfl (by have := (ae hxt0_88); exact (List.getElem?_eq_some_iff.1 this).1)) rfl rfl ?_
 refine gDr [(9, 2)] (by kernel_rfl) rfl rfl ?_
 apply aF (i := 8) (j := 10) (by kernel_rfl) rfl rfl rfl rfl
 exact (ba (.set 8 (.row 26 4 (kidsV ((a ++ [(Tree.node 0 [] [] [])]).set a.length d)))) (dSe aa rfl rfl rfl rfl (ae hxt0_88) rfl (bp (a ++ [(Tree.node 0 [] [] [])]) a.length d)) (okS rfl) (by kernel_rfl))
 exact (aD aa rfl rfl)
 exact gDr [(10, 1)] (by kernel_rfl) rfl rfl <| gDe (by kernel_rfl) <| gJ (h K hK) [0, 1, 2, 3, 8] [0] rfl hK pq3 ⟨⟨_, rfl, rfl, rfl, (ah _ ((a ++ [(Tree.node 0 [] [] [])]).set a.length d)).symm⟩, ⟨_, rfl, rfl, rfl, (vI _ f).symm⟩, (pqo3 rfl rfl rfl rfl rfl rfl)⟩ rfl
 refine ax 8 (.set 8 (.row 26 4 (kidsV ((a ++ [(Tree.node 0 [] [] [])]).set a.length d)))) rfl (by kernel_rfl) (dSe aa rfl rfl rfl rfl (ae hxt0_88) rfl (bp (a ++ [(Tree.node 0 [] [] [])]) a.length d)) (okS rfl) rfl (by kernel_rfl) rfl rfl ?_
 exact gDe (by kernel_rfl) <| gJ (h K hK) [0, 1, 2, 3, 8] [0] rfl hK pq3 ⟨⟨_, rfl, rfl, rfl, (ah _ ((a ++ [(Tree.node 0 [] [] [])]).set a.length d)).symm⟩, ⟨_, rfl, rfl, rfl, (vI _ f).symm⟩, (pqo3 rfl rfl rfl rfl rfl rfl)⟩ rfl
 refine gR 4 rfl ?_
 obtain ⟨b0_89, r0_90, n0_91, s0_92, n0_93, n0_94, hs109, h⟩ := h
 refine gCY hs109 [0] ?_
 refine gR 3 rfl <| qBiZ 58 60 rfl rfl rfl rfl h (fun h => ?_) fun h => ?_
 refine gR 8 rfl <| go_sub (F' := (mkF 99 0 [(0, .ptr 0 0), (2, .ptr 1 0), (6, .ptr 2 0)])) (H' := ⟨3, [(2, vB 18 []), (1, vB 0 []), (0, vA r0_90 n0_91 s0_92 n0_93 n0_94)]⟩) [0, 1, 4] [0] rfl hK pq3 (pqo3 rfl rfl rfl rfl rfl rfl) rfl <| gR 3 rfl <| gNC 2 2 9 1 rfl rfl rfl rfl <| gNC 2 3 26 4 rfl rfl rfl rfl ?_
 obtain ⟨r0_95, n0_96, s0_97, n0_98, n0_99, n0_100, s0_101, r, s, hs110, h⟩ := h
 refine gCZ hs110 [0, 2, 3, 4] ⟨⟨_, rfl, ⟨rfl, rfl, rfl⟩⟩, ⟨⟨_, rfl, ⟨rfl, rfl, rfl⟩⟩, ⟨⟨_, rfl, ⟨rfl, ak.rfl⟩⟩, ⟨⟨_, rfl, ⟨rfl, ak.rfl⟩⟩, trivial⟩⟩⟩⟩ ?_
 refine gHR 7 (List.map V.str r) rfl (vI _ r) rfl <| gHR 8 (kidsV s) rfl (ah _ s) rfl <| gR 6 rfl ?_
 obtain ⟨o, ξ, ο, π, τ, υ, hs111, h⟩ := h
 refine gCZ hs111 [0, 7, 8] ⟨⟨_, rfl, ⟨rfl, rfl, (ah _ s).symm⟩⟩, ⟨⟨_, rfl, ⟨rfl, rfl, (vI _ r).symm⟩⟩, ⟨⟨_, rfl, ⟨rfl, ak.rfl⟩⟩, trivial⟩⟩⟩ ?_
 refine gR 6 rfl ?_
 obtain ⟨rfl, rfl, rfl, rfl, rfl, rfl⟩ := h
 exact go_sub (F' := (mkF 99 0 [(2, .ptr 1 0)])) (H' := ⟨2, [(1, vF o.kind o.text o.leads o.kids), (0, vA ξ ο π τ υ)]⟩) [0, 1] [0] rfl hK pq1 (pqo2 rfl rfl rfl rfl) rfl <| go_endD [1] aa (rs := [.cell 2 26]) rfl rfl ⟨rfl, rfl⟩
 refine gR 4 rfl ?_
 obtain ⟨φ, χ, ψ, ω, n0_114, n0_115, hs112, h⟩ := h
 refine gCY hs112 [0] ?_
 refine gR 2 rfl <| qBeZ 71 70 rfl rfl rfl rfl h (fun h => ?_) fun h => ?_
 exact gR 7 rfl <| gJ (h K hK) [0, 1] [0] rfl hK pq3 (pqo2 rfl rfl rfl rfl) rfl
 refine gR 1 rfl ?_
 obtain ⟨n0_116, r0_117, n0_118, s0_119, n0_120, n0_121, hs113, h⟩ := h
 refine gCY hs113 [0] ?_
 exact gR 5 rfl <| gJ (h K hK) [0, 1] [0] rfl hK pq3 (pqo2 rfl rfl rfl rfl) rfl
theorem ly (m : Nat) (r : Int) (s : List UInt8) (i : (List (List UInt8))) (c : List Tree) (j : Tree) (t : List GToken) (v : Int) (x : List UInt8) (y z : Int) (r0 : Tree) (α : List GToken) (k : Int) (f : List UInt8) (g β : Int) (h : ∃ l n o p q d e a b, al t v x y z r s i ((c ++ [(Tree.node 0 [] [] [])]).set c.length j) [41] l n o p q d e a b ∧ (Tree.node d e a b) = r0 ∧ l = α ∧ n = k ∧ o = f ∧ p = g ∧ q = β) : im (m + 1) r s i c j t v x y z r0 α k f g β := by
 intro K hK
 refine gR 4 rfl ?_
 obtain ⟨l, n, o, p, q, d, e, a, b, hs114, h⟩ := h
 refine gCZ hs114 [0, 2, 3, 4] ⟨⟨_, rfl, ⟨rfl, rfl, (ah _ ((c ++ [(Tree.node 0 [] [] [])]).set c.length j)).symm⟩⟩, ⟨⟨_, rfl, ⟨rfl, rfl, (vI _ i).symm⟩⟩, ⟨⟨_, rfl, ⟨rfl, ak.rfl⟩⟩, ⟨⟨_, rfl, ⟨rfl, ak.rfl⟩⟩, trivial⟩⟩⟩⟩ ?_
 refine gHR 7 (List.map V.str a) rfl (vI _ a) rfl <| gHR 8 (kidsV b) rfl (ah _ b) rfl <| gR 11 rfl <| gFR 7 rfl (ch _ (fun _ => rfl) _) rfl rfl <| gFR 8 rfl (cm _) rfl rfl ?_
 obtain ⟨rfl, rfl, rfl, rfl, rfl, rfl⟩ := h
 exact go_sub (F' := (mkF 99 0 [(2, .ptr 1 0)])) (H' := ⟨2, [(1, vF ((Tree.node d e a b).kind) ((Tree.node d e a b).text) ((Tree.node d e a b).leads) ((Tree.node d e a b).kids)), (0, vA l n o p q)]⟩) [0, 1] [0] rfl hK pq1 (pqo2 rfl rfl rfl rfl) rfl <| go_endD [1] aa (rs := [.cell 2 26]) rfl rfl ⟨rfl, rfl⟩
theorem fc (m : Nat) (l2v1 : List GToken) (z2v2 : Int) (s2v3 : List UInt8) (z2v4 z2v5 : Int) (b2v6 : Bool) (r0 : Tree) (χ : List GToken) (j : Int) (d : List UInt8) (e ψ : Int) (h : ((b2v6 = true) → ∃ y r2_2 n2_3 s2_4 n2_5 n2_6, aH l2v1 z2v2 s2v3 z2v4 z2v5 y r2_2 n2_3 s2_4 n2_5 n2_6 ∧ ∃ z α β k l f c a b, aS r2_2 n2_3 s2_4 n2_5 n2_6 12 [] ([] : List (List UInt8)) ([] : List Tree) y z α β k l f c a b ∧ ((y = 1) → ∃ γ n o p q r, aq z α β k l [40] γ n o p q r ∧ ((γ = false) → (Tree.node f c a b) = r0 ∧ n = χ ∧ o = j ∧ p = d ∧ q = e ∧ r = ψ) ∧ ((γ = true) → ∃ ω n2_23 s2_24 n2_25 n2_26 n2_27 s2_28 s t, al n o p q r 16 c a b [40] ω n2_23 s2_24 n2_25 n2_26 n2_27 s2_28 s t ∧ ∃ g δ ε ζ η θ, co ω n2_23 s2_24 n2_25 n2_26 n2_27 s2_28 s t [41] 8 g δ ε ζ η θ ∧ g = r0 ∧ δ = χ ∧ ε = j ∧ ζ = d ∧ η = e ∧ θ = ψ)) ∧ ((y ≠ 1) → ∃ r2_37 n2_38 s2_39 n2_40 n2_41 n2_42 s2_43 v x, al z α β k l 16 c a b [40] r2_37 n2_38 s2_39 n2_40 n2_41 n2_42 s2_43 v x ∧ ∃ i ι κ μ ν ξ, co r2_37 n2_38 s2_39 n2_40 n2_41 n2_42 s2_43 v x [41] 8 i ι κ μ ν ξ ∧ i = r0 ∧ ι = χ ∧ κ = j ∧ μ = d ∧ ν = e ∧ ξ = ψ)) ∧ ((b2v6 = false) → ∃ ο π τ υ φ, aZ l2v1 z2v2 s2v3 z2v4 z2v5 2 ο π τ υ φ ∧ (Tree.node 0 [] [] []) = r0 ∧ ο = χ ∧ π = j ∧ τ = d ∧ υ = e ∧ φ = ψ)) : cX (m + 1) l2v1 z2v2 s2v3 z2v4 z2v5 b2v6 r0 χ j d e ψ := by
 intro K hK
 refine qBi 67 rfl rfl rfl h (fun h => ?_) fun h => ?_
 refine gR 11 rfl ?_
 obtain ⟨y, r2_2, n2_3, s2_4, n2_5, n2_6, hs115, h⟩ := h
 refine gCY hs115 [0] ?_
 refine gR 7 rfl <| gNC 2 2 9 1 rfl rfl rfl rfl <| gNC 2 3 26 4 rfl rfl rfl rfl ?_
 obtain ⟨z, α, β, k, l, f, c, a, b, hs116, h⟩ := h
 refine gCZ hs116 [0, 2, 4, 5] ⟨⟨_, rfl, ⟨rfl, rfl, rfl⟩⟩, ⟨⟨_, rfl, ⟨rfl, rfl, rfl⟩⟩, ⟨⟨_, rfl, ⟨rfl, ak.rfl⟩⟩, ⟨⟨_, rfl, ⟨rfl, ak.rfl⟩⟩, trivial⟩⟩⟩⟩ ?_
 refine gHR 8 (List.map V.str a) rfl (vI _ a) rfl <| gHR 9 (kidsV b) rfl (ah _ b) rfl <| gR 2 rfl <| go_sub (F' := (mkF 99 0 [(0, .ptr 0 0), (2, .ptr 1 0), (7, .ptr 2 0), (8, .int .i64 y)])) (H' := ⟨5, [(4, .row 26 4 (kidsV b)), (3, .row 9 1 (List.map V.str a)), (2, vD f c), (1, vB 0 []), (0, vA z α β k l)]⟩) [0, 1, 2, 8, 9] [0] rfl hK pq4 ⟨⟨_, rfl, rfl, rfl, (ah _ b).symm⟩, ⟨_, rfl, rfl, rfl, (vI _ a).symm⟩, (pqo3 rfl rfl rfl rfl rfl rfl)⟩ rfl ?_
 refine gR 6 rfl <| qBeZ 84 83 rfl rfl rfl rfl h (fun h => ?_) fun h => ?_
 refine gR 1 rfl ?_
 obtain ⟨γ, n, o, p, q, r, hs117, h⟩ := h
 refine gCY hs117 [0] ?_
 refine gR 4 rfl <| qBh 88 rfl rfl rfl h iQ iO (fun h => ?_) fun h => ?_
 refine gR 11 rfl <| gFR 3 rfl (ch _ (fun _ => rfl) _) rfl rfl <| gFR 4 rfl (cm _) rfl rfl ?_
 obtain ⟨rfl, rfl, rfl, rfl, rfl, rfl⟩ := h
 exact go_sub (F' := (mkF 99 0 [(2, .ptr 1 0)])) (H' := ⟨2, [(1, vF ((Tree.node f c a b).kind) ((Tree.node f c a b).text) ((Tree.node f c a b).leads) ((Tree.node f c a b).kids)), (0, vA n o p q r)]⟩) [0, 1] [0] rfl hK pq1 (pqo2 rfl rfl rfl rfl) rfl <| go_endD [1] aa (rs := [.cell 2 26]) rfl rfl ⟨rfl, rfl⟩
 refine gR 9 rfl <| go_sub (F' := (mkF 99 0 [(0, .ptr 0 0), (2, .ptr 1 0), (7, .ptr 2 0)])) (H' := ⟨5, [(4, .row 26 4 (kidsV b)), (3, .row 9 1 (List.map V.str a)), (2, vD 16 c), (1, vB 0 []), (0, vA n o p q r)]⟩) [0, 1, 2, 3, 4] [0] rfl hK pq3 ⟨⟨_, rfl, rfl, rfl, (ah _ b).symm⟩, ⟨_, rfl, rfl, rfl, (vI _ a).symm⟩, (pqo3 rfl rfl rfl rfl rfl rfl)⟩ rfl <| gR 3 rfl ?_
 obtain ⟨ω, n2_23, s2_24, n2_25, n2_26, n2_27, s2_28, s, t, hs118, h⟩ := h
 refine gCZ hs118 [0, 2, 3, 4] ⟨⟨_, rfl, ⟨rfl, rfl, (ah _ b).symm⟩⟩, ⟨⟨_, rfl, ⟨rfl, rfl, (vI _ a).symm⟩⟩, ⟨⟨_, rfl, ⟨rfl, ak.rfl⟩⟩, ⟨⟨_, rfl, ⟨rfl, ak.rfl⟩⟩, trivial⟩⟩⟩⟩ ?_
 refine gHR 7 (List.map V.str s) rfl (vI _ s) rfl <| gHR 8 (kidsV t) rfl (ah _ t) rfl <| gR 6 rfl ?_
 obtain ⟨g, δ, ε, ζ, η, θ, hs119, h⟩ := h
 refine gCZ hs119 [0, 7, 8] ⟨⟨_, rfl, ⟨rfl, rfl, (ah _ t).symm⟩⟩, ⟨⟨_, rfl, ⟨rfl, rfl, (vI _ s).symm⟩⟩, ⟨⟨_, rfl, ⟨rfl, ak.rfl⟩⟩, trivial⟩⟩⟩ ?_
 refine gR 6 rfl ?_
 obtain ⟨rfl, rfl, rfl, rfl, rfl, rfl⟩ := h
 exact go_sub (F' := (mkF 99 0 [(2, .ptr 1 0)])) (H' := ⟨2, [(1, vF g.kind g.text g.leads g.kids), (0, vA δ ε ζ η θ)]⟩) [0, 1] [0] rfl hK pq1 (pqo2 rfl rfl rfl rfl) rfl <| go_endD [1] aa (rs := [.cell 2 26]) rfl rfl ⟨rfl, rfl⟩
 refine gR 15 rfl <| go_sub (F' := (mkF 99 0 [(0, .ptr 0 0), (2, .ptr 1 0), (7, .ptr 2 0)])) (H' := ⟨5, [(4, .row 26 4 (kidsV b)), (3, .row 9 1 (List.map V.str a)), (2, vD 16 c), (1, vB 0 []), (0, vA z α β k l)]⟩) [0, 1, 2, 3, 4] [0] rfl hK pq3 ⟨⟨_, rfl, rfl, rfl, (ah _ b).symm⟩, ⟨_, rfl, rfl, rfl, (vI _ a).symm⟩, (pqo3 rfl rfl rfl rfl rfl rfl)⟩ rfl <| gR 3 rfl ?_
 obtain ⟨r2_37, n2_38, s2_39, n2_40, n2_41, n2_42, s2_43, v, x, hs120, h⟩ := h
 refine gCZ hs120 [0, 2, 3, 4] ⟨⟨_, rfl, ⟨rfl, rfl, (ah _ b).symm⟩⟩, ⟨⟨_, rfl, ⟨rfl, rfl, (vI _ a).symm⟩⟩, ⟨⟨_, rfl, ⟨rfl, ak.rfl⟩⟩, ⟨⟨_, rfl, ⟨rfl, ak.rfl⟩⟩, trivial⟩⟩⟩⟩ ?_
 refine gHR 7 (List.map V.str v) rfl (vI _ v) rfl <| gHR 8 (kidsV x) rfl (ah _ x) rfl <| gR 6 rfl ?_
 obtain ⟨i, ι, κ, μ, ν, ξ, hs121, h⟩ := h
 refine gCZ hs121 [0, 7, 8] ⟨⟨_, rfl, ⟨rfl, rfl, (ah _ x).symm⟩⟩, ⟨⟨_, rfl, ⟨rfl, rfl, (vI _ v).symm⟩⟩, ⟨⟨_, rfl, ⟨rfl, ak.rfl⟩⟩, trivial⟩⟩⟩ ?_
 refine gR 6 rfl ?_
 obtain ⟨rfl, rfl, rfl, rfl, rfl, rfl⟩ := h
 exact go_sub (F' := (mkF 99 0 [(2, .ptr 1 0)])) (H' := ⟨2, [(1, vF i.kind i.text i.leads i.kids), (0, vA ι κ μ ν ξ)]⟩) [0, 1] [0] rfl hK pq1 (pqo2 rfl rfl rfl rfl) rfl <| go_endD [1] aa (rs := [.cell 2 26]) rfl rfl ⟨rfl, rfl⟩
 refine gR 7 rfl ?_
 obtain ⟨ο, π, τ, υ, φ, hs122, h⟩ := h
 refine gCY hs122 [0] ?_
 refine gR 9 rfl ?_
 obtain ⟨rfl, rfl, rfl, rfl, rfl, rfl⟩ := h
 exact go_sub (F' := (mkF 99 0 [(2, .ptr 1 0)])) (H' := ⟨2, [(1, vF ((Tree.node 0 [] [] []).kind) ((Tree.node 0 [] [] []).text) ((Tree.node 0 [] [] []).leads) ((Tree.node 0 [] [] []).kids)), (0, vA ο π τ υ φ)]⟩) [0, 1] [0] rfl hK pq1 ⟨⟨_, rfl, rfl, (.cons .rfl (.cons .rfl (.cons (.nil 1) (.cons (.nil 4) .nil))))⟩, (pqo1 rfl rfl)⟩ rfl <| go_endD [1] aa (rs := [.cell 2 26]) rfl rfl ⟨rfl, rfl⟩
def dF (m : Nat) (b : Int) (c : List UInt8) (a : (List (List UInt8))) (p2 : List UInt8) (p3 : Int) (g : List GToken) (i : Int) (j : List UInt8) (k l : Int) (n : List Tree) (o : (List (List UInt8))) (r0 : Tree) (p : List GToken) (f : Int) (d : List UInt8) (e q : Int) : Prop := ∀ (K : Ctx) (j1 : Nat), aR K [0] → m ≤ j1 → qLG K Try.f89 (fun u G => u = .agg (ar r0) ∧ G = ⟨4, [(0, vA p f d e q)]⟩) (xG (xA (aj Try.f89))) [.loop (xG (xA (aj Try.f89))) j1, .blk 0, .seq (xF (aj Try.f89))] 87 (mkF 87 0 [(0, .ptr 0 0), (2, .str p2), (3, .int .i64 p3), (5, .ptr 1 0), (8, .ptr 2 0), (9, .sl 3)]) ⟨6, [(5, .row 26 4 (kidsV n)), (4, .row 9 1 (List.map V.str a)), (3, .row 9 1 (List.map V.str o)), (2, vB 0 []), (1, vH b c), (0, vA g i j k l)]⟩
def dG (m : Nat) (b : Int) (c : List UInt8) (a : (List (List UInt8))) (p2 : List UInt8) (p3 : Int) (g : List GToken) (i : Int) (j : List UInt8) (k l : Int) (n : List Tree) (o : (List (List UInt8))) (r0 : Tree) (p : List GToken) (f : Int) (d : List UInt8) (e q : Int) : Prop := ∀ (K : Ctx) (j1 : Nat), aR K [0] → m ≤ j1 → qLG K Try.f89 (fun u G => u = .agg (ar r0) ∧ G = ⟨4, [(0, vA p f d e q)]⟩) (cB (xG (xA (aj Try.f89)))) [.loop (xG (xA (aj Try.f89))) j1, .blk 0, .seq (xF (aj Try.f89))] 87 (mkF 87 0 [(0, .ptr 0 0), (2, .str p2), (3, .int .i64 p3), (5, .ptr 1 0), (8, .ptr 2 0), (9, .sl 3)]) ⟨6, [(5, .row 26 4 (kidsV n)), (4, .row 9 1 (List.map V.str a)), (3, .row 9 1 (List.map V.str o)), (2, vB 0 []), (1, vH b c), (0, vA g i j k l)]⟩
def eW (m : Nat) (b : Int) (c : List UInt8) (a : (List (List UInt8))) (p2 : List UInt8) (p3 : Int) (g : List GToken) (i : Int) (j : List UInt8) (k l : Int) (n : (List (List UInt8))) (o : List Tree) (r0 : Tree) (p : List GToken) (f : Int) (d : List UInt8) (e q : Int) : Prop := ∀ (K : Ctx) (j1 : Nat), aR K [0] → m ≤ j1 → qLG K Try.f89 (fun u G => u = .agg (ar r0) ∧ G = ⟨4, [(0, vA p f d e q)]⟩) (cB (cK (cB (xG (xA (aj Try.f89)))))) [.blk 1, .loop (xG (xA (aj Try.f89))) j1, .blk 0, .seq (xF (aj Try.f89))] 87 (mkF 87 0 [(0, .ptr 0 0), (2, .str p2), (3, .int .i64 p3), (5, .ptr 1 0), (8, .ptr 2 0), (9, .sl 3)]) ⟨6, [(5, .row 26 4 (kidsV o)), (4, .row 9 1 (List.map V.str a)), (3, .row 9 1 (List.map V.str n)), (2, vB 0 []), (1, vH b c), (0, vA g i j k l)]⟩
def bP (m : Nat) (b : Int) (c : List UInt8) (a : (List (List UInt8))) (p2 : List UInt8) (p3 : Int) (g : (List (List UInt8))) (i : List GToken) (j : Int) (k : List UInt8) (l n : Int) (o : List Tree) (r0 : Tree) (p : List GToken) (f : Int) (d : List UInt8) (e q : Int) : Prop := ∀ (K : Ctx) (j1 : Nat), aR K [0] → m ≤ j1 → qLG K Try.f89 (fun u G => u = .agg (ar r0) ∧ G = ⟨4, [(0, vA p f d e q)]⟩) (xA (cK (cB (xG (xA (aj Try.f89)))))) [.blk 1, .loop (xG (xA (aj Try.f89))) j1, .blk 0, .seq (xF (aj Try.f89))] 87 (mkF 87 0 [(0, .ptr 0 0), (2, .str p2), (3, .int .i64 p3), (5, .ptr 1 0), (8, .ptr 2 0), (9, .sl 3)]) ⟨6, [(5, .row 26 4 (kidsV o)), (4, .row 9 1 (List.map V.str a)), (3, .row 9 1 (List.map V.str g)), (2, vB 0 []), (1, vH b c), (0, vA i j k l n)]⟩
def eY (m : Nat) (b : Int) (c : List UInt8) (a : (List (List UInt8))) (p2 : List UInt8) (p3 : Int) (g : (List (List UInt8))) (i : List GToken) (j : Int) (k : List UInt8) (l n : Int) (o : List Tree) (r0 : Tree) (p : List GToken) (f : Int) (d : List UInt8) (e q : Int) : Prop := ∀ (K : Ctx) (j1 : Nat), aR K [0] → m ≤ j1 → Go Try.prog K (bodyPost Try.prog Try.f89 (SP K (fun u G => u = .agg (ar r0) ∧ G = ⟨4, [(0, vA p f d e q)]⟩))) (.ex .normal) [.blk 1, .loop (xG (xA (aj Try.f89))) j1, .blk 0, .seq (xF (aj Try.f89))] 87 (mkF 87 0 [(0, .ptr 0 0), (2, .str p2), (3, .int .i64 p3), (5, .ptr 1 0), (8, .ptr 2 0), (9, .sl 3)]) ⟨6, [(5, .row 26 4 (kidsV o)), (4, .row 9 1 (List.map V.str a)), (3, .row 9 1 (List.map V.str g)), (2, vB 0 []), (1, vH b c), (0, vA i j k l n)]⟩
theorem dI (m : Nat) (l : List GToken) (j : Int) (c : List UInt8) (d n e : Int) (f : List UInt8) (a : (List (List UInt8))) (b : List Tree) (p2 : List UInt8) (p3 : Int) (r0 : Tree) (o : List GToken) (k : Int) (g : List UInt8) (i p : Int) (h : dF m e f a p2 p3 l j c d n b ([] : List (List UInt8)) r0 o k g i p) : co l j c d n e f a b p2 p3 r0 o k g i p := by
 refine az 87 [0] Try.func89 rfl rfl rfl (bg rfl) fun K hK => ?_
 exact gR 13 rfl <| go_loop m <| gNS 9 9 1 rfl rfl rfl rfl <| gJ (h K _ hK (by omega)) [0, 3, 4, 5, 1, 2] [0] rfl hK pq6 ⟨⟨_, rfl, rfl, rfl, (ah _ b).symm⟩, ⟨_, rfl, rfl, rfl, (vI _ a).symm⟩, ⟨_, rfl, rfl, rfl, rfl⟩, (pqo3 rfl rfl rfl rfl rfl rfl)⟩ rfl
theorem aW (m : Nat) (c : Int) (e : List UInt8) (a : (List (List UInt8))) (p2 : List UInt8) (p3 : Int) (ω : List GToken) (z1v2 : Int) (s1v3 : List UInt8) (z1v4 α : Int) (d : List Tree) (b : (List (List UInt8))) (r0 : Tree) (β : List GToken) (r : Int) (l : List UInt8) (n γ : Int) (h : ((α = 0) → ((c = 18) → (((d.length : Int) = 0) → dG m c e a p2 p3 ω z1v2 s1v3 z1v4 α d b r0 β r l n γ) ∧ (((d.length : Int) ≠ 0) → ∃ b1_1 r1_2 n1_3 s1_4 n1_5 n1_6, aq ω z1v2 s1v3 z1v4 α p2 b1_1 r1_2 n1_3 s1_4 n1_5 n1_6 ∧ ((b1_1 = false) → dG m c e a p2 p3 r1_2 n1_3 s1_4 n1_5 n1_6 d b r0 β r l n γ) ∧ ((b1_1 = true) → ∃ r1_7 n1_8 s1_9 δ ε s t g o, al r1_2 n1_3 s1_4 n1_5 n1_6 c e a d p2 r1_7 n1_8 s1_9 δ ε s t g o ∧ (g ++ b).length ≤ 1000000000 ∧ (Tree.node s t (g ++ b) o) = r0 ∧ r1_7 = β ∧ n1_8 = r ∧ s1_9 = l ∧ δ = n ∧ ε = γ))) ∧ ((c ≠ 18) → ∃ b1_16 ζ η θ ι κ, aq ω z1v2 s1v3 z1v4 α p2 b1_16 ζ η θ ι κ ∧ ((b1_16 = false) → dG m c e a p2 p3 ζ η θ ι κ d b r0 β r l n γ) ∧ ((b1_16 = true) → ∃ μ ν ξ ο π v x i p, al ζ η θ ι κ c e a d p2 μ ν ξ ο π v x i p ∧ (i ++ b).length ≤ 1000000000 ∧ (Tree.node v x (i ++ b) p) = r0 ∧ μ = β ∧ ν = r ∧ ξ = l ∧ ο = n ∧ π = γ))) ∧ ((α ≠ 0) → ∃ τ υ φ χ ψ y z k q, al ω z1v2 s1v3 z1v4 α c e a d p2 τ υ φ χ ψ y z k q ∧ (k ++ b).length ≤ 1000000000 ∧ (Tree.node y z (k ++ b) q) = r0 ∧ τ = β ∧ υ = r ∧ φ = l ∧ χ = n ∧ ψ = γ)) : dF (m + 1) c e a p2 p3 ω z1v2 s1v3 z1v4 α d b r0 β r l n γ := by
 intro K j1 hK hj1
 obtain ⟨j1, rfl⟩ : ∃ j, j1 = j + 1 := ⟨j1 - 1, by omega⟩
 refine gR 9 rfl <| gB 17 rfl rfl rfl ?_ ?_ <;> intro hd
 refine gT 16 rfl hd rfl ?_
 replace hd := (eq_of_beq hd)
 replace h := h.1 hd
 refine gR 4 rfl <| gB 21 rfl rfl rfl ?_ ?_ <;> intro hd
 refine gT 20 rfl hd rfl ?_
 replace hd := (eq_of_beq hd)
 replace h := h.1 hd
 refine gR 3 rfl <| gV 24 (.int .i64 (d.length : Int)) rfl (bC (av _)) rfl <| gLO 5 rfl (av _) fun hl73 => gR 3 rfl <| gB 27 rfl rfl rfl ?_ ?_ <;> intro hd
 refine gT 26 rfl hd rfl ?_
 replace hd := (eq_of_beq hd)
 replace h := h.1 hd
 exact gR 11 rfl <| gJ (h K _ hK (by omega)) [0, 1, 2, 3, 4, 5] [0] rfl hK pq6 ⟨⟨_, rfl, rfl, rfl, (ah _ d).symm⟩, ⟨_, rfl, rfl, rfl, (vI _ a).symm⟩, ⟨_, rfl, rfl, rfl, (vI _ b).symm⟩, (pqo3 rfl rfl rfl rfl rfl rfl)⟩ rfl
 refine gF 26 rfl hd rfl ?_
 replace hd := (ne_of_beq_false hd)
 replace h := h.2 hd
 refine gR 2 rfl ?_
 obtain ⟨b1_1, r1_2, n1_3, s1_4, n1_5, n1_6, hs74, h⟩ := h
 refine gCY hs74 [0] ?_
 refine gR 5 rfl <| gB 33 rfl rfl rfl ?_ ?_ <;> intro hd
 replace hd := (iQ hd)
 replace h := h.1 hd
 exact gR 3 rfl <| gJ (h K _ hK (by omega)) [0, 1, 2, 3, 4, 5] [0] rfl hK pq6 ⟨⟨_, rfl, rfl, rfl, (ah _ d).symm⟩, ⟨_, rfl, rfl, rfl, (vI _ a).symm⟩, ⟨_, rfl, rfl, rfl, (vI _ b).symm⟩, (pqo3 rfl rfl rfl rfl rfl rfl)⟩ rfl
 replace hd := (iO hd)
 replace h := h.2 hd
 refine gR 3 rfl <| go_xloopE <| gR 2 rfl <| go_sub (F' := (mkF 87 0 [(0, .ptr 0 0), (2, .str p2), (5, .ptr 1 0), (8, .ptr 2 0), (9, .sl 3)])) (H' := ⟨6, [(5, .row 26 4 (kidsV d)), (4, .row 9 1 (List.map V.str a)), (3, .row 9 1 (List.map V.str b)), (2, vB 0 []), (1, vH c e), (0, vA r1_2 n1_3 s1_4 n1_5 n1_6)]⟩) [0, 1, 2, 3, 4, 5] [0] rfl hK pq5 ⟨⟨_, rfl, rfl, rfl, (ah _ d).symm⟩, ⟨_, rfl, rfl, rfl, (vI _ a).symm⟩, ⟨_, rfl, rfl, rfl, (vI _ b).symm⟩, (pqo3 rfl rfl rfl rfl rfl rfl)⟩ rfl ?_
 refine gR 4 rfl ?_
 obtain ⟨r1_7, n1_8, s1_9, δ, ε, s, t, g, o, hs75, h⟩ := h
 refine gCZ hs75 [0, 1, 4, 5] ⟨⟨_, rfl, ⟨rfl, rfl, (ah _ d).symm⟩⟩, ⟨⟨_, rfl, ⟨rfl, rfl, (vI _ a).symm⟩⟩, ⟨⟨_, rfl, ⟨rfl, ak.rfl⟩⟩, ⟨⟨_, rfl, ⟨rfl, ak.rfl⟩⟩, trivial⟩⟩⟩⟩ ?_
 refine gHR 8 (List.map V.str g) rfl (vI _ g) rfl <| gHR 9 (kidsV o) rfl (ah _ o) rfl <| gR 7 rfl ?_
 obtain ⟨hb, h⟩ := h
 refine gDo (.repl 8 (.row 9 1 (List.map V.str (g ++ b)))) (bu aa rfl rfl rfl rfl rfl (List.map_append (f := V.str) (l₁ := g) (l₂ := b)).symm (by rw [cQ]; exact hb)) (okR rfl) rfl rfl rfl <| gR 4 rfl <| go_sub (F' := (mkF 87 0 [(5, .ptr 1 0), (8, .ptr 2 0)])) (H' := ⟨5, [(4, .row 26 4 (kidsV o)), (3, .row 9 1 (List.map V.str (g ++ b))), (2, vB 0 []), (1, vD s t), (0, vA r1_7 n1_8 s1_9 δ ε)]⟩) [0, 1, 2, 10, 9] [0] rfl hK pq2 ⟨⟨_, rfl, rfl, rfl, (ah _ o).symm⟩, ⟨_, rfl, rfl, rfl, (vI _ (g ++ b)).symm⟩, (pqo3 rfl rfl rfl rfl rfl rfl)⟩ rfl ?_
 refine gR 7 rfl <| gFR 3 rfl (ch _ (fun _ => rfl) _) rfl rfl <| gFR 4 rfl (cm _) rfl rfl ?_
 obtain ⟨rfl, rfl, rfl, rfl, rfl, rfl⟩ := h
 exact go_sub (F' := (mkF 87 0 [(8, .ptr 3 0)])) (H' := ⟨4, [(3, vF ((Tree.node s t (g ++ b) o).kind) ((Tree.node s t (g ++ b) o).text) ((Tree.node s t (g ++ b) o).leads) ((Tree.node s t (g ++ b) o).kids)), (0, vA r1_7 n1_8 s1_9 δ ε)]⟩) [0, 1001, 1002, 2] [0] rfl hK pq1 (pqo2 rfl rfl rfl rfl) rfl <| go_endD [3] aa (rs := [.cell 8 26]) rfl rfl ⟨rfl, rfl⟩
 refine gF 20 rfl hd rfl ?_
 replace hd := (ne_of_beq_false hd)
 replace h := h.2 hd
 refine gR 8 rfl ?_
 obtain ⟨b1_16, ζ, η, θ, ι, κ, hs76, h⟩ := h
 refine gCY hs76 [0] ?_
 refine gR 5 rfl <| gB 33 rfl rfl rfl ?_ ?_ <;> intro hd
 replace hd := (iQ hd)
 replace h := h.1 hd
 exact gR 3 rfl <| gJ (h K _ hK (by omega)) [0, 1, 2, 3, 4, 5] [0] rfl hK pq6 ⟨⟨_, rfl, rfl, rfl, (ah _ d).symm⟩, ⟨_, rfl, rfl, rfl, (vI _ a).symm⟩, ⟨_, rfl, rfl, rfl, (vI _ b).symm⟩, (pqo3 rfl rfl rfl rfl rfl rfl)⟩ rfl
 replace hd := (iO hd)
 replace h := h.2 hd
 refine gR 3 rfl <| go_xloopE <| gR 2 rfl <| go_sub (F' := (mkF 87 0 [(0, .ptr 0 0), (2, .str p2), (5, .ptr 1 0), (8, .ptr 2 0), (9, .sl 3)])) (H' := ⟨6, [(5, .row 26 4 (kidsV d)), (4, .row 9 1 (List.map V.str a)), (3, .row 9 1 (List.map V.str b)), (2, vB 0 []), (1, vH c e), (0, vA ζ η θ ι κ)]⟩) [0, 1, 2, 3, 4, 5] [0] rfl hK pq5 ⟨⟨_, rfl, rfl, rfl, (ah _ d).symm⟩, ⟨_, rfl, rfl, rfl, (vI _ a).symm⟩, ⟨_, rfl, rfl, rfl, (vI _ b).symm⟩, (pqo3 rfl rfl rfl rfl rfl rfl)⟩ rfl ?_
 refine gR 4 rfl ?_
 obtain ⟨μ, ν, ξ, ο, π, v, x, i, p, hs77, h⟩ := h
 refine gCZ hs77 [0, 1, 4, 5] ⟨⟨_, rfl, ⟨rfl, rfl, (ah _ d).symm⟩⟩, ⟨⟨_, rfl, ⟨rfl, rfl, (vI _ a).symm⟩⟩, ⟨⟨_, rfl, ⟨rfl, ak.rfl⟩⟩, ⟨⟨_, rfl, ⟨rfl, ak.rfl⟩⟩, trivial⟩⟩⟩⟩ ?_
 refine gHR 8 (List.map V.str i) rfl (vI _ i) rfl <| gHR 9 (kidsV p) rfl (ah _ p) rfl <| gR 7 rfl ?_
 obtain ⟨hb, h⟩ := h
 refine gDo (.repl 8 (.row 9 1 (List.map V.str (i ++ b)))) (bu aa rfl rfl rfl rfl rfl (List.map_append (f := V.str) (l₁ := i) (l₂ := b)).symm (by rw [cQ]; exact hb)) (okR rfl) rfl rfl rfl <| gR 4 rfl <| go_sub (F' := (mkF 87 0 [(5, .ptr 1 0), (8, .ptr 2 0)])) (H' := ⟨5, [(4, .row 26 4 (kidsV p)), (3, .row 9 1 (List.map V.str (i ++ b))), (2, vB 0 []), (1, vD v x), (0, vA μ ν ξ ο π)]⟩) [0, 1, 2, 10, 9] [0] rfl hK pq2 ⟨⟨_, rfl, rfl, rfl, (ah _ p).symm⟩, ⟨_, rfl, rfl, rfl, (vI _ (i ++ b)).symm⟩, (pqo3 rfl rfl rfl rfl rfl rfl)⟩ rfl ?_
 refine gR 7 rfl <| gFR 3 rfl (ch _ (fun _ => rfl) _) rfl rfl <| gFR 4 rfl (cm _) rfl rfl ?_
 obtain ⟨rfl, rfl, rfl, rfl, rfl, rfl⟩ := h
 exact go_sub (F' := (mkF 87 0 [(8, .ptr 3 0)])) (H' := ⟨4, [(3, vF ((Tree.node v x (i ++ b) p).kind) ((Tree.node v x (i ++ b) p).text) ((Tree.node v x (i ++ b) p).leads) ((Tree.node v x (i ++ b) p).kids)), (0, vA μ ν ξ ο π)]⟩) [0, 1001, 1002, 2] [0] rfl hK pq1 (pqo2 rfl rfl rfl rfl) rfl <| go_endD [3] aa (rs := [.cell 8 26]) rfl rfl ⟨rfl, rfl⟩
 refine gF 16 rfl hd rfl ?_
 replace hd := (ne_of_beq_false hd)
 replace h := h.2 hd
 refine gR 21 rfl <| go_xloopE <| gR 2 rfl <| go_sub (F' := (mkF 87 0 [(0, .ptr 0 0), (2, .str p2), (5, .ptr 1 0), (8, .ptr 2 0), (9, .sl 3)])) (H' := ⟨6, [(5, .row 26 4 (kidsV d)), (4, .row 9 1 (List.map V.str a)), (3, .row 9 1 (List.map V.str b)), (2, vB 0 []), (1, vH c e), (0, vA ω z1v2 s1v3 z1v4 α)]⟩) [0, 1, 2, 3, 4, 5] [0] rfl hK pq5 ⟨⟨_, rfl, rfl, rfl, (ah _ d).symm⟩, ⟨_, rfl, rfl, rfl, (vI _ a).symm⟩, ⟨_, rfl, rfl, rfl, (vI _ b).symm⟩, (pqo3 rfl rfl rfl rfl rfl rfl)⟩ rfl ?_
 refine gR 4 rfl ?_
 obtain ⟨τ, υ, φ, χ, ψ, y, z, k, q, hs78, h⟩ := h
 refine gCZ hs78 [0, 1, 4, 5] ⟨⟨_, rfl, ⟨rfl, rfl, (ah _ d).symm⟩⟩, ⟨⟨_, rfl, ⟨rfl, rfl, (vI _ a).symm⟩⟩, ⟨⟨_, rfl, ⟨rfl, ak.rfl⟩⟩, ⟨⟨_, rfl, ⟨rfl, ak.rfl⟩⟩, trivial⟩⟩⟩⟩ ?_
 refine gHR 8 (List.map V.str k) rfl (vI _ k) rfl <| gHR 9 (kidsV q) rfl (ah _ q) rfl <| gR 7 rfl ?_
 obtain ⟨hb, h⟩ := h
 refine gDo (.repl 8 (.row 9 1 (List.map V.str (k ++ b)))) (bu aa rfl rfl rfl rfl rfl (List.map_append (f := V.str) (l₁ := k) (l₂ := b)).symm (by rw [cQ]; exact hb)) (okR rfl) rfl rfl rfl <| gR 4 rfl <| go_sub (F' := (mkF 87 0 [(5, .ptr 1 0), (8, .ptr 2 0)])) (H' := ⟨5, [(4, .row 26 4 (kidsV q)), (3, .row 9 1 (List.map V.str (k ++ b))), (2, vB 0 []), (1, vD y z), (0, vA τ υ φ χ ψ)]⟩) [0, 1, 2, 10, 9] [0] rfl hK pq2 ⟨⟨_, rfl, rfl, rfl, (ah _ q).symm⟩, ⟨_, rfl, rfl, rfl, (vI _ (k ++ b)).symm⟩, (pqo3 rfl rfl rfl rfl rfl rfl)⟩ rfl ?_
 refine gR 7 rfl <| gFR 3 rfl (ch _ (fun _ => rfl) _) rfl rfl <| gFR 4 rfl (cm _) rfl rfl ?_
 obtain ⟨rfl, rfl, rfl, rfl, rfl, rfl⟩ := h
 exact go_sub (F' := (mkF 87 0 [(8, .ptr 3 0)])) (H' := ⟨4, [(3, vF ((Tree.node y z (k ++ b) q).kind) ((Tree.node y z (k ++ b) q).text) ((Tree.node y z (k ++ b) q).leads) ((Tree.node y z (k ++ b) q).kids)), (0, vA τ υ φ χ ψ)]⟩) [0, 1001, 1002, 2] [0] rfl hK pq1 (pqo2 rfl rfl rfl rfl) rfl <| go_endD [3] aa (rs := [.cell 8 26]) rfl rfl ⟨rfl, rfl⟩
theorem br (m : Nat) (e : Int) (g : List UInt8) (a : (List (List UInt8))) (p2 : List UInt8) (p3 : Int) (o : List GToken) (p : Int) (q : List UInt8) (r s : Int) (c : List Tree) (d : (List (List UInt8))) (r0 : Tree) (t : List GToken) (l : Int) (i : List UInt8) (k v : Int) (h : ((0 < (c.length : Int)) → ∃ w x y z α β γ b n, al o p q r s 0 [] ([] : List (List UInt8)) ([] : List Tree) [44] w x y z α β γ b n ∧ (d ++ b).length ≤ 1000000000 ∧ eW m e g a p2 p3 w x y z α (d ++ b) c r0 t l i k v) ∧ ((¬ 0 < (c.length : Int)) → eW m e g a p2 p3 o p q r s d c r0 t l i k v)) : dG (m + 1) e g a p2 p3 o p q r s c d r0 t l i k v := by
 intro K j1 hK hj1
 obtain ⟨j1, rfl⟩ : ∃ j, j1 = j + 1 := ⟨j1 - 1, by omega⟩
 refine gR 7 rfl <| gV 36 (.int .i64 (c.length : Int)) rfl (bC (av _)) rfl <| gLO 5 rfl (av _) fun hl79 => gR 3 rfl <| gB 37 rfl rfl rfl ?_ ?_ <;> intro hd
 replace hd := (of_decide_eq_true hd)
 replace h := h.1 hd
 refine gR 11 rfl <| gNC 6 2 9 1 rfl rfl rfl rfl <| gNC 6 3 26 4 rfl rfl rfl rfl ?_
 obtain ⟨w, x, y, z, α, β, γ, b, n, hs80, h⟩ := h
 refine gCZ hs80 [0, 6, 7, 8] ⟨⟨_, rfl, ⟨rfl, rfl, rfl⟩⟩, ⟨⟨_, rfl, ⟨rfl, rfl, rfl⟩⟩, ⟨⟨_, rfl, ⟨rfl, ak.rfl⟩⟩, ⟨⟨_, rfl, ⟨rfl, ak.rfl⟩⟩, trivial⟩⟩⟩⟩ ?_
 refine gHR 11 (List.map V.str b) rfl (vI _ b) rfl <| gHR 12 (kidsV n) rfl (ah _ n) rfl <| gR 6 rfl ?_
 obtain ⟨hb, h⟩ := h
 exact gDo (.repl 3 (.row 9 1 (List.map V.str (d ++ b)))) (bu aa rfl rfl rfl rfl rfl (List.map_append (f := V.str) (l₁ := d) (l₂ := b)).symm (by rw [cQ]; exact hb)) (okR rfl) rfl rfl rfl <| gR 3 rfl <| gJ (h K _ hK (by omega)) [0, 1, 2, 13, 4, 5] [0] rfl hK pq6 ⟨⟨_, rfl, rfl, rfl, (ah _ c).symm⟩, ⟨_, rfl, rfl, rfl, (vI _ a).symm⟩, ⟨_, rfl, rfl, rfl, (vI _ (d ++ b)).symm⟩, (pqo3 rfl rfl rfl rfl rfl rfl)⟩ rfl
 replace hd := (of_decide_eq_false hd)
 replace h := h.2 hd
 exact gR 3 rfl <| gJ (h K _ hK (by omega)) [0, 1, 2, 3, 4, 5] [0] rfl hK pq6 ⟨⟨_, rfl, rfl, rfl, (ah _ c).symm⟩, ⟨_, rfl, rfl, rfl, (vI _ a).symm⟩, ⟨_, rfl, rfl, rfl, (vI _ d).symm⟩, (pqo3 rfl rfl rfl rfl rfl rfl)⟩ rfl
theorem bq (m : Nat) (c : Int) (d : List UInt8) (a : (List (List UInt8))) (p2 : List UInt8) (p3 : Int) (w : List GToken) (x : Int) (y : List UInt8) (z α : Int) (i : (List (List UInt8))) (b : List Tree) (r0 : Tree) (n : List GToken) (g : Int) (e : List UInt8) (f o : Int) (h : (((b.length : Int) = p3) → ∃ p q r s t v, fa w x y z α p q r s t v ∧ ((p = true) → ∃ β γ δ k l, aZ q r s t v 3 β γ δ k l ∧ bP m c d a p2 p3 i β γ δ k l b r0 n g e f o) ∧ ((p = false) → bP m c d a p2 p3 i q r s t v b r0 n g e f o)) ∧ (((b.length : Int) ≠ p3) → bP m c d a p2 p3 i w x y z α b r0 n g e f o)) : eW (m + 1) c d a p2 p3 w x y z α i b r0 n g e f o := by
 intro K j1 hK hj1
 obtain ⟨j1, rfl⟩ : ∃ j, j1 = j + 1 := ⟨j1 - 1, by omega⟩
 refine gR 6 rfl <| gV 47 (.int .i64 (b.length : Int)) rfl (bC (av _)) rfl <| gLO 5 rfl (av _) fun hl81 => gR 3 rfl <| gB 50 rfl rfl rfl ?_ ?_ <;> intro hd
 refine gT 49 rfl hd rfl ?_
 replace hd := (eq_of_beq hd)
 replace h := h.1 hd
 refine gR 1 rfl ?_
 obtain ⟨p, q, r, s, t, v, hs82, h⟩ := h
 refine gCY hs82 [0] ?_
 refine gR 3 rfl <| gB 53 rfl rfl rfl ?_ ?_ <;> intro hd
 replace h := h.1 hd
 refine gR 3 rfl ?_
 obtain ⟨β, γ, δ, k, l, hs83, h⟩ := h
 refine gCY hs83 [0] ?_
 exact gR 2 rfl <| gJ (h K _ hK (by omega)) [0, 1, 2, 3, 4, 5] [0] rfl hK pq6 ⟨⟨_, rfl, rfl, rfl, (ah _ b).symm⟩, ⟨_, rfl, rfl, rfl, (vI _ a).symm⟩, ⟨_, rfl, rfl, rfl, (vI _ i).symm⟩, (pqo3 rfl rfl rfl rfl rfl rfl)⟩ rfl
 replace h := h.2 hd
 exact gR 3 rfl <| gJ (h K _ hK (by omega)) [0, 1, 2, 3, 4, 5] [0] rfl hK pq6 ⟨⟨_, rfl, rfl, rfl, (ah _ b).symm⟩, ⟨_, rfl, rfl, rfl, (vI _ a).symm⟩, ⟨_, rfl, rfl, rfl, (vI _ i).symm⟩, (pqo3 rfl rfl rfl rfl rfl rfl)⟩ rfl
 refine gF 49 rfl hd rfl ?_
 replace hd := (ne_of_beq_false hd)
 replace h := h.2 hd
 exact gR 8 rfl <| gJ (h K _ hK (by omega)) [0, 1, 2, 3, 4, 5] [0] rfl hK pq6 ⟨⟨_, rfl, rfl, rfl, (ah _ b).symm⟩, ⟨_, rfl, rfl, rfl, (vI _ a).symm⟩, ⟨_, rfl, rfl, rfl, (vI _ i).symm⟩, (pqo3 rfl rfl rfl rfl rfl rfl)⟩ rfl
theorem bK (m : Nat) (c : Int) (d : List UInt8) (b : (List (List UInt8))) (p2 : List UInt8) (p3 : Int) (f : (List (List UInt8))) (t : List GToken) (v : Int) (x : List UInt8) (y s : Int) (a : List Tree) (r0 : Tree) (z : List GToken) (l : Int) (g : List UInt8) (k α : Int) (h : ((s ≠ 0) → (Tree.node c d b a) = r0 ∧ t = z ∧ v = l ∧ x = g ∧ y = k ∧ s = α) ∧ ((s = 0) → ∃ e n o p q r, bh t v x y s e n o p q r ∧ ((c = 16) → (a ++ [(Tree.node 0 [] [] [])]).length ≤ 1000000000 ∧ ∃ β, (a ++ [(Tree.node 0 [] [] [])])[a.length]? = some β ∧ eY m c d b p2 p3 f n o p q r ((a ++ [(Tree.node 0 [] [] [])]).set a.length (Tree.node 17 [] [] [e])) r0 z l g k α) ∧ ((c ≠ 16) → (a ++ [(Tree.node 0 [] [] [])]).length ≤ 1000000000 ∧ ∃ γ, (a ++ [(Tree.node 0 [] [] [])])[a.length]? = some γ ∧ eY m c d b p2 p3 f n o p q r ((a ++ [(Tree.node 0 [] [] [])]).set a.length e) r0 z l g k α))) : bP (m + 1) c d b p2 p3 f t v x y s a r0 z l g k α := by
 intro K j1 hK hj1
 obtain ⟨j1, rfl⟩ : ∃ j, j1 = j + 1 := ⟨j1 - 1, by omega⟩
 refine gR 10 rfl <| gB 60 rfl rfl rfl ?_ ?_ <;> intro hd
 replace hd := (fB hd)
 replace h := h.1 hd
 refine gR 10 rfl <| go_xloopR <| gR 2 rfl <| gFR 4 rfl (ch _ (fun _ => rfl) _) rfl rfl <| gFR 5 rfl (cm _) rfl rfl ?_
 obtain ⟨rfl, rfl, rfl, rfl, rfl, rfl⟩ := h
 exact go_sub (F' := (mkF 87 0 [(8, .ptr 3 0)])) (H' := ⟨4, [(3, vF ((Tree.node c d b a).kind) ((Tree.node c d b a).text) ((Tree.node c d b a).leads) ((Tree.node c d b a).kids)), (0, vA t v x y s)]⟩) [0, 1001, 1002, 2] [0] rfl hK pq1 (pqo2 rfl rfl rfl rfl) rfl <| go_endD [3] aa (rs := [.cell 8 26]) rfl rfl ⟨rfl, rfl⟩
 replace hd := (dY hd)
 replace h := h.2 hd
 refine gR 6 rfl ?_
 obtain ⟨e, n, o, p, q, r, hs84, h⟩ := h
 refine gCY hs84 [0] ?_
 refine gR 4 rfl <| go_sub (F' := (mkF 87 0 [(0, .ptr 0 0), (2, .str p2), (3, .int .i64 p3), (5, .ptr 1 0), (8, .ptr 2 0), (9, .sl 3), (11, .ptr 4 0)])) (H' := ⟨7, [(6, .row 26 4 (kidsV a)), (5, .row 9 1 (List.map V.str b)), (4, .var 26 (ar e)), (3, .row 9 1 (List.map V.str f)), (2, vB 0 []), (1, .var 26 [.int .i64 c, .str d, .sl 5, .sl 6]), (0, vA n o p q r)]⟩) [0, 1, 2, 3, 8, 4, 5] [0] rfl hK pq7 ⟨⟨_, rfl, rfl, rfl, (ah _ a).symm⟩, ⟨_, rfl, rfl, rfl, (vI _ b).symm⟩, pqo rfl rfl, ⟨_, rfl, rfl, rfl, (vI _ f).symm⟩, (pqo3 rfl rfl rfl rfl rfl rfl)⟩ rfl ?_
 refine gR 8 rfl <| gB 66 rfl rfl rfl ?_ ?_ <;> intro hd
 replace hd := (eq_of_beq hd)
 replace h := h.1 hd
 refine gR 4 rfl <| gHR 7 (kidsV [e]) rfl (bv e) rfl <| gR 4 rfl <| go_sub (F' := (mkF 87 0 [(0, .ptr 0 0), (2, .str p2), (3, .int .i64 p3), (5, .ptr 1 0), (8, .ptr 2 0), (9, .sl 3), (11, .ptr 4 0)])) (H' := ⟨8, [(7, .row 26 4 (kidsV [e])), (6, .row 26 4 (kidsV a)), (5, .row 9 1 (List.map V.str b)), (4, .var 26 [.int .i64 17, .str [], .nils, .sl 7]), (3, .row 9 1 (List.map V.str f)), (2, vB 0 []), (1, .var 26 [.int .i64 c, .str d, .sl 5, .sl 6]), (0, vA n o p q r)]⟩) [0, 1, 2, 3, 4, 5, 6, 7] [0] rfl hK pq7 ⟨⟨_, rfl, rfl, rfl, (ah _ [e]).symm⟩, ⟨_, rfl, rfl, rfl, (ah _ a).symm⟩, ⟨_, rfl, rfl, rfl, (vI _ b).symm⟩, pqo rfl rfl, ⟨_, rfl, rfl, rfl, (vI _ f).symm⟩, (pqo3 rfl rfl rfl rfl rfl rfl)⟩ rfl ?_
 refine gDs [1, 4] 5 10 rfl (by kernel_rfl) (by kernel_rfl) ?_
 refine gDr [(0, 2), (1, 3), (2, 3), (3, 2)] (by kernel_rfl) rfl rfl <| gV 73 (.int .i64 (a.length : Int)) rfl (bC (av _)) rfl <| gLO 6 rfl (av _) fun hl88 => gDr [(4, 0)] (by kernel_rfl) rfl rfl <| gHX 8 [.agg [.int .i64 0, .str [], .row 1 [], .row 4 (kidsV [])]] rfl (.cons (.agg (.cons .rfl (.cons .rfl (.cons (.nil 1) (.cons (.nil 4) .nil))))) .nil) rfl <| gHR 8 (kidsV [(Tree.node 0 [] [] [])]) rfl (bv (Tree.node 0 [] [] [])) rfl ?_
 obtain ⟨hb, h⟩ := h
 refine ax 5 (.repl 6 (.row 26 4 (kidsV (a ++ [(Tree.node 0 [] [] [])])))) rfl (by kernel_rfl) (bu aa rfl rfl rfl rfl rfl (aC a [(Tree.node 0 [] [] [])]).symm (by rw [av]; exact hb)) (okR rfl) rfl (by kernel_rfl) rfl rfl ?_
 obtain ⟨β, hxt4_7, h⟩ := h
 refine gYd 6 rfl (by kernel_rfl) (yIO aa rfl rfl rfl rfl (by have := (ae hxt4_7); exact (List.getElem?_eq_some_iff.1 this).1)) rfl rfl ?_
 refine gDr [(8, 2)] (by kernel_rfl) rfl rfl <| gFR 7 rfl (cm _) rfl rfl <| gS 72 (.agg [.int .i64 17, .str [], .row 1 [], .row 4 (kidsV [e])]) rfl (.agg (.cons .rfl (.cons .rfl (.cons (.nil 1) (.cons .rfl .nil))))) rfl ?_
 apply aF (i := 7) (j := 9) (by kernel_rfl) rfl rfl rfl rfl
 exact (ba (.set 9 (.row 26 4 (kidsV ((a ++ [(Tree.node 0 [] [] [])]).set a.length (Tree.node 17 [] [] [e]))))) (dSe aa rfl rfl rfl rfl (ae hxt4_7) rfl (bp (a ++ [(Tree.node 0 [] [] [])]) a.length (Tree.node 17 [] [] [e]))) (okS rfl) (by kernel_rfl))
 exact (aD aa rfl rfl)
 exact gDr [(9, 1)] (by kernel_rfl) rfl rfl <| gDe (by kernel_rfl) <| gJ (h K _ hK (by omega)) [0, 1, 2, 3, 5, 9] [0] rfl hK pq6 ⟨⟨_, rfl, rfl, rfl, (ah _ ((a ++ [(Tree.node 0 [] [] [])]).set a.length (Tree.node 17 [] [] [e]))).symm⟩, ⟨_, rfl, rfl, rfl, (vI _ b).symm⟩, ⟨_, rfl, rfl, rfl, (vI _ f).symm⟩, (pqo3 rfl rfl rfl rfl rfl rfl)⟩ rfl
 refine ax 7 (.set 9 (.row 26 4 (kidsV ((a ++ [(Tree.node 0 [] [] [])]).set a.length (Tree.node 17 [] [] [e]))))) rfl (by kernel_rfl) (dSe aa rfl rfl rfl rfl (ae hxt4_7) rfl (bp (a ++ [(Tree.node 0 [] [] [])]) a.length (Tree.node 17 [] [] [e]))) (okS rfl) rfl (by kernel_rfl) rfl rfl ?_
 exact gDe (by kernel_rfl) <| gJ (h K _ hK (by omega)) [0, 1, 2, 3, 5, 9] [0] rfl hK pq6 ⟨⟨_, rfl, rfl, rfl, (ah _ ((a ++ [(Tree.node 0 [] [] [])]).set a.length (Tree.node 17 [] [] [e]))).symm⟩, ⟨_, rfl, rfl, rfl, (vI _ b).symm⟩, ⟨_, rfl, rfl, rfl, (vI _ f).symm⟩, (pqo3 rfl rfl rfl rfl rfl rfl)⟩ rfl
 replace hd := (ne_of_beq_false hd)
 replace h := h.2 hd
 refine gR 3 rfl <| go_sub (F' := (mkF 87 0 [(0, .ptr 0 0), (2, .str p2), (3, .int .i64 p3), (5, .ptr 1 0), (8, .ptr 2 0), (9, .sl 3), (11, .ptr 4 0)])) (H' := ⟨7, [(6, .row 26 4 (kidsV a)), (5, .row 9 1 (List.map V.str b)), (4, .var 26 (ar e)), (3, .row 9 1 (List.map V.str f)), (2, vB 0 []), (1, .var 26 [.int .i64 c, .str d, .sl 5, .sl 6]), (0, vA n o p q r)]⟩) [0, 1, 2, 3, 4, 5, 6] [0] rfl hK pq7 ⟨⟨_, rfl, rfl, rfl, (ah _ a).symm⟩, ⟨_, rfl, rfl, rfl, (vI _ b).symm⟩, pqo rfl rfl, ⟨_, rfl, rfl, rfl, (vI _ f).symm⟩, (pqo3 rfl rfl rfl rfl rfl rfl)⟩ rfl ?_
 refine gDs [1, 4] 5 10 rfl (by kernel_rfl) (by kernel_rfl) ?_
 refine gDr [(0, 2), (1, 3), (2, 3), (3, 2)] (by kernel_rfl) rfl rfl <| gV 73 (.int .i64 (a.length : Int)) rfl (bC (av _)) rfl <| gLO 6 rfl (av _) fun hl92 => gDr [(4, 0)] (by kernel_rfl) rfl rfl <| gHX 7 [.agg [.int .i64 0, .str [], .row 1 [], .row 4 (kidsV [])]] rfl (.cons (.agg (.cons .rfl (.cons .rfl (.cons (.nil 1) (.cons (.nil 4) .nil))))) .nil) rfl <| gHR 7 (kidsV [(Tree.node 0 [] [] [])]) rfl (bv (Tree.node 0 [] [] [])) rfl ?_
 obtain ⟨hb, h⟩ := h
 refine ax 5 (.repl 6 (.row 26 4 (kidsV (a ++ [(Tree.node 0 [] [] [])])))) rfl (by kernel_rfl) (bu aa rfl rfl rfl rfl rfl (aC a [(Tree.node 0 [] [] [])]).symm (by rw [av]; exact hb)) (okR rfl) rfl (by kernel_rfl) rfl rfl ?_
 obtain ⟨γ, hxt4_8, h⟩ := h
 refine gYd 6 rfl (by kernel_rfl) (yIO aa rfl rfl rfl rfl (by have := (ae hxt4_8); exact (List.getElem?_eq_some_iff.1 this).1)) rfl rfl ?_
 refine gDr [(8, 2)] (by kernel_rfl) rfl rfl ?_
 apply aF (i := 7) (j := 9) (by kernel_rfl) rfl rfl rfl rfl
 exact (ba (.set 8 (.row 26 4 (kidsV ((a ++ [(Tree.node 0 [] [] [])]).set a.length e)))) (dSe aa rfl rfl rfl rfl (ae hxt4_8) rfl (bp (a ++ [(Tree.node 0 [] [] [])]) a.length e)) (okS rfl) (by kernel_rfl))
 exact (aD aa rfl rfl)
 exact gDr [(9, 1)] (by kernel_rfl) rfl rfl <| gDe (by kernel_rfl) <| gJ (h K _ hK (by omega)) [0, 1, 2, 3, 5, 8] [0] rfl hK pq6 ⟨⟨_, rfl, rfl, rfl, (ah _ ((a ++ [(Tree.node 0 [] [] [])]).set a.length e)).symm⟩, ⟨_, rfl, rfl, rfl, (vI _ b).symm⟩, ⟨_, rfl, rfl, rfl, (vI _ f).symm⟩, (pqo3 rfl rfl rfl rfl rfl rfl)⟩ rfl
 refine ax 7 (.set 8 (.row 26 4 (kidsV ((a ++ [(Tree.node 0 [] [] [])]).set a.length e)))) rfl (by kernel_rfl) (dSe aa rfl rfl rfl rfl (ae hxt4_8) rfl (bp (a ++ [(Tree.node 0 [] [] [])]) a.length e)) (okS rfl) rfl (by kernel_rfl) rfl rfl ?_
 exact gDe (by kernel_rfl) <| gJ (h K _ hK (by omega)) [0, 1, 2, 3, 5, 8] [0] rfl hK pq6 ⟨⟨_, rfl, rfl, rfl, (ah _ ((a ++ [(Tree.node 0 [] [] [])]).set a.length e)).symm⟩, ⟨_, rfl, rfl, rfl, (vI _ b).symm⟩, ⟨_, rfl, rfl, rfl, (vI _ f).symm⟩, (pqo3 rfl rfl rfl rfl rfl rfl)⟩ rfl
theorem dB (m : Nat) (b : Int) (c : List UInt8) (a : (List (List UInt8))) (p2 : List UInt8) (p3 : Int) (g : (List (List UInt8))) (k : List GToken) (l : Int) (n : List UInt8) (o p : Int) (i : List Tree) (r0 : Tree) (q : List GToken) (f : Int) (d : List UInt8) (e r : Int) (h : dF m b c a p2 p3 k l n o p i g r0 q f d e r) : eY (m + 1) b c a p2 p3 g k l n o p i r0 q f d e r := by
 intro K j1 hK hj1
 obtain ⟨j1, rfl⟩ : ∃ j, j1 = j + 1 := ⟨j1 - 1, by omega⟩
 exact gR 1 rfl <| go_xloop <| gJ (h K _ hK (by omega)) [0, 1, 2, 3, 4, 5] [0] rfl hK pq6 ⟨⟨_, rfl, rfl, rfl, (ah _ i).symm⟩, ⟨_, rfl, rfl, rfl, (vI _ a).symm⟩, ⟨_, rfl, rfl, rfl, (vI _ g).symm⟩, (pqo3 rfl rfl rfl rfl rfl rfl)⟩ rfl
end Go.Proofs.Ytpigfkmccilkjaa
