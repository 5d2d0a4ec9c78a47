/- Contracts of the functions that the law reaches, part 3. -/
import Derived.Test.YteglbnopdedadaaGreatLf2
set_option linter.unusedVariables false
set_option linter.unusedSimpArgs false
namespace Go.Proofs.YteglbnopdedadaaGreat
open Go.RowKit Lx Sx
set_option maxRecDepth 100000
set_option maxHeartbeats 4000000
def S_lex_Class (p0 : (List UInt8)) (r0 : Int) : Prop := Sum0 Tryz.prog 128 [.str p0] (.int .i64 r0)
def S_semvcsref01_Class (p0 : (List UInt8)) (r0 : Int) : Prop := Sum0 Tryz.prog 125 [.str p0] (.int .i64 r0)
def S_syntax_Leads (p0 : Int) (p1 : Int) (r0 : Int) : Prop := Sum0 Tryz.prog 97 [.int .i64 p0, .int .i64 p1] (.int .i64 r0)
def S_syntax_atLeast (p0 : Int) (p1 : Int) (p2 : Int) (r0 : Int) : Prop := Sum0 Tryz.prog 127 [.int .i64 p0, .int .i64 p1, .int .i64 p2] (.int .i64 r0)
def S_syntax_isType (p0 : Int) (r0 : Bool) : Prop := Sum0 Tryz.prog 131 [.int .i64 p0] (.bool r0)
def S_syntax_isExpression (p0 : Int) (r0 : Bool) : Prop := Sum0 Tryz.prog 130 [.int .i64 p0] (.bool r0)
def S_syntax_isUnit (p0 : Int) (r0 : Bool) : Prop := Sum0 Tryz.prog 132 [.int .i64 p0] (.bool r0)
def S_syntax_operator (p0 : (List UInt8)) (r0 : Bool) : Prop := Sum0 Tryz.prog 129 [.str p0] (.bool r0)
def S_syntax_worded (p0 : Int) (p1 : (List UInt8)) (r0 : Bool) : Prop := Sum0 Tryz.prog 98 [.int .i64 p0, .str p1] (.bool r0)
def S_syntax_suits (p0 : Tree) (p1 : Int) (r0 : Bool) : Prop := Sum0 Tryz.prog 99 [.agg (treeC p0), .int .i64 p1] (.bool r0)
def S_syntax_Shaped (p0 : Tree) (r0 : Bool) : Prop := Sum0 Tryz.prog 69 [.agg (treeC p0)] (.bool r0)
def S_semvcsref02_Leads (p0 : Int) (p1 : Int) (r0 : Int) : Prop := Sum0 Tryz.prog 100 [.int .i64 p0, .int .i64 p1] (.int .i64 r0)
def S_semvcsref02_only (p0 : Int) (p1 : Int) (p2 : Int) (r0 : Int) : Prop := Sum0 Tryz.prog 133 [.int .i64 p0, .int .i64 p1, .int .i64 p2] (.int .i64 r0)
def S_semvcsref02_IsType (p0 : Int) (r0 : Bool) : Prop := Sum0 Tryz.prog 136 [.int .i64 p0] (.bool r0)
def S_semvcsref02_IsExpr (p0 : Int) (r0 : Bool) : Prop := Sum0 Tryz.prog 135 [.int .i64 p0] (.bool r0)
def S_semvcsref02_IsUnit (p0 : Int) (r0 : Bool) : Prop := Sum0 Tryz.prog 137 [.int .i64 p0] (.bool r0)
def S_semvcsref02_IsOperator (p0 : (List UInt8)) (r0 : Bool) : Prop := Sum0 Tryz.prog 134 [.str p0] (.bool r0)
def S_semvcsref02_TextFits (p0 : Int) (p1 : (List UInt8)) (r0 : Bool) : Prop := Sum0 Tryz.prog 101 [.int .i64 p0, .str p1] (.bool r0)
def S_semvcsref02_kid (p0 : Tree) (p1 : Int) (p2 : Int) (r0 : Bool) : Prop := Sum0 Tryz.prog 102 [.agg (treeC p0), .int .i64 p1, .int .i64 p2] (.bool r0)
def S_semvcsref02_Shaped (p0 : Tree) (r0 : Bool) : Prop := Sum0 Tryz.prog 71 [.agg (treeC p0)] (.bool r0)
def L0_syntax_Leads (m : Nat) (p1 : Int) (i1v1 : Nat) (i1v2 : Nat) (i1v3 : Nat) (z1v4 : Int) (r0 : Int) : Prop := ∀ (K : Ctx), PinB K [] → Go Tryz.prog K (bodyPost Tryz.prog Tryz.f97 (SP K (fun u _ => u = .int .i64 r0))) (.code (cB (cB (cB (cB (bodyC Tryz.f97)))))) [] 69 (mkF 69 0 [(1, .int .i64 p1), (5, .int .i64 ((i1v1 : Nat) : Int)), (6, .int .i64 z1v4), (7, .int .i64 ((i1v2 : Nat) : Int)), (8, .int .i64 ((i1v3 : Nat) : Int))]) ⟨0, []⟩
def L1_syntax_Leads (m : Nat) (p0 : Int) (p1 : Int) (b2v1 : Bool) (r0 : Int) : Prop := ∀ (K : Ctx), PinB K [] → Go Tryz.prog K (bodyPost Tryz.prog Tryz.f97 (SP K (fun u _ => u = .int .i64 r0))) (.code (cB (cE (cB (cE (cB (cE (cB (cE (cB (cE (cB (cK (cB (cA (cB (cB (cB (bodyC Tryz.f97))))))))))))))))))) [.blk 0, .seq (cB (cB (cB (cB (bodyC Tryz.f97)))))] 69 (mkF 69 0 [(1, .int .i64 p1), (5, .int .i64 0), (6, .int .i64 0), (7, .int .i64 1), (8, .int .i64 0), (9, .int .i64 p0), (22, .bool b2v1)]) ⟨0, []⟩
def L2_syntax_Leads (m : Nat) (p1 : Int) (i1v1 : Nat) (i1v2 : Nat) (i1v3 : Nat) (z1v4 : Int) (r0 : Int) : Prop := ∀ (K : Ctx), PinB K [] → Go Tryz.prog K (bodyPost Tryz.prog Tryz.f97 (SP K (fun u _ => u = .int .i64 r0))) (.code (cB (cB (cB (cB (cB (bodyC Tryz.f97))))))) [] 69 (mkF 69 0 [(1, .int .i64 p1), (5, .int .i64 ((i1v1 : Nat) : Int)), (6, .int .i64 z1v4), (7, .int .i64 ((i1v2 : Nat) : Int)), (8, .int .i64 ((i1v3 : Nat) : Int))]) ⟨0, []⟩
theorem rS_syntax_Leads (m : Nat) (p0 : Int) (p1 : Int) (r0 : Int) (h : ((p0 = 1) → ∃ (n0_1 : Int), S_syntax_atLeast p1 0 3 n0_1 ∧ n0_1 = r0) ∧ ((p0 ≠ 1) → ((p0 = 2) → L0_syntax_Leads m p1 2 6 2 (-1) r0) ∧ ((p0 ≠ 2) → ((p0 = 16) → L0_syntax_Leads m p1 0 3 0 (-1) r0) ∧ ((p0 ≠ 16) → ((p0 = 18) → L0_syntax_Leads m p1 1 2 0 (-1) r0) ∧ ((p0 ≠ 18) → ((p0 = 3) → L0_syntax_Leads m p1 1 3 0 1 r0) ∧ ((p0 ≠ 3) → ((p0 = 4) → L1_syntax_Leads m p0 p1 true r0) ∧ ((p0 ≠ 4) → ((p0 = 8) → L1_syntax_Leads m p0 p1 true r0) ∧ ((p0 ≠ 8) → L1_syntax_Leads m p0 p1 (p0 == 22) r0)))))))) : S_syntax_Leads p0 p1 r0 := by
  refine ⟨rfl, rfl, ?_⟩
  refine sum_enter 69 [] Tryz.func97 rfl rfl rfl (pv_of rfl) fun K hK => ?_
  refine gR 30 rfl ?_
  refine gB 10 rfl rfl rfl (fun hd => ?_) (fun hd => ?_)
  · refine gT 11 rfl hd rfl ?_
    replace hd := (eq_of_beq hd)
    replace h := h.1 hd
    refine gR 4 rfl ?_
    obtain ⟨n0_1, hs17, h⟩ := h
    refine gC0 hs17 (by kernel_rfl) rfl rfl .rfl rfl ?_
    refine gR 6 rfl ?_
    subst h
    refine go_sub (F' := (mkF 69 0 [(4, .int .i64 n0_1)])) (H' := ⟨0, []⟩) [] [] rfl hK ⟨⟨_, rfl, .rfl⟩, trivial⟩ trivial rfl ?_
    exact go_end tabS_ok (rs := [.tmp 4]) rfl rfl rfl
  · refine gF 11 rfl hd rfl ?_
    replace hd := (ne_of_beq_false hd)
    replace h := h.2 hd
    refine gR 7 rfl ?_
    refine gB 14 rfl rfl rfl (fun hd => ?_) (fun hd => ?_)
    · refine gT 15 rfl hd rfl ?_
      replace hd := (eq_of_beq hd)
      replace h := h.1 hd
      refine gR 9 rfl ?_
      exact gJ (h K hK) [] [] rfl hK ⟨⟨_, rfl, .rfl⟩, ⟨_, rfl, .rfl⟩, ⟨_, rfl, .rfl⟩, ⟨_, rfl, .rfl⟩, ⟨_, rfl, .rfl⟩, trivial⟩ trivial rfl
    · refine gF 15 rfl hd rfl ?_
      replace hd := (ne_of_beq_false hd)
      replace h := h.2 hd
      refine gR 7 rfl ?_
      refine gB 16 rfl rfl rfl (fun hd => ?_) (fun hd => ?_)
      · refine gT 17 rfl hd rfl ?_
        replace hd := (eq_of_beq hd)
        replace h := h.1 hd
        refine gR 9 rfl ?_
        exact gJ (h K hK) [] [] rfl hK ⟨⟨_, rfl, .rfl⟩, ⟨_, rfl, .rfl⟩, ⟨_, rfl, .rfl⟩, ⟨_, rfl, .rfl⟩, ⟨_, rfl, .rfl⟩, trivial⟩ trivial rfl
      · refine gF 17 rfl hd rfl ?_
        replace hd := (ne_of_beq_false hd)
        replace h := h.2 hd
        refine gR 7 rfl ?_
        refine gB 18 rfl rfl rfl (fun hd => ?_) (fun hd => ?_)
        · refine gT 19 rfl hd rfl ?_
          replace hd := (eq_of_beq hd)
          replace h := h.1 hd
          refine gR 9 rfl ?_
          exact gJ (h K hK) [] [] rfl hK ⟨⟨_, rfl, .rfl⟩, ⟨_, rfl, .rfl⟩, ⟨_, rfl, .rfl⟩, ⟨_, rfl, .rfl⟩, ⟨_, rfl, .rfl⟩, trivial⟩ trivial rfl
        · refine gF 19 rfl hd rfl ?_
          replace hd := (ne_of_beq_false hd)
          replace h := h.2 hd
          refine gR 7 rfl ?_
          refine gB 20 rfl rfl rfl (fun hd => ?_) (fun hd => ?_)
          · refine gT 21 rfl hd rfl ?_
            replace hd := (eq_of_beq hd)
            replace h := h.1 hd
            refine gR 8 rfl ?_
            exact gJ (h K hK) [] [] rfl hK ⟨⟨_, rfl, .rfl⟩, ⟨_, rfl, .rfl⟩, ⟨_, rfl, .rfl⟩, ⟨_, rfl, .rfl⟩, ⟨_, rfl, .rfl⟩, trivial⟩ trivial rfl
          · refine gF 21 rfl hd rfl ?_
            replace hd := (ne_of_beq_false hd)
            replace h := h.2 hd
            refine gR 8 rfl ?_
            refine gB 22 rfl rfl rfl (fun hd => ?_) (fun hd => ?_)
            · refine gT 23 rfl hd rfl ?_
              replace hd := (eq_of_beq hd)
              replace h := h.1 hd
              refine gR 3 rfl ?_
              exact gJ (h K hK) [] [] rfl hK ⟨⟨_, rfl, .rfl⟩, ⟨_, rfl, .rfl⟩, ⟨_, rfl, .rfl⟩, ⟨_, rfl, .rfl⟩, ⟨_, rfl, .rfl⟩, ⟨_, rfl, .rfl⟩, ⟨_, rfl, .rfl⟩, trivial⟩ trivial rfl
            · refine gF 23 rfl hd rfl ?_
              replace hd := (ne_of_beq_false hd)
              replace h := h.2 hd
              refine gR 7 rfl ?_
              refine gB 22 rfl rfl rfl (fun hd => ?_) (fun hd => ?_)
              · refine gT 24 rfl hd rfl ?_
                replace hd := (eq_of_beq hd)
                replace h := h.1 hd
                refine gR 3 rfl ?_
                exact gJ (h K hK) [] [] rfl hK ⟨⟨_, rfl, .rfl⟩, ⟨_, rfl, .rfl⟩, ⟨_, rfl, .rfl⟩, ⟨_, rfl, .rfl⟩, ⟨_, rfl, .rfl⟩, ⟨_, rfl, .rfl⟩, ⟨_, rfl, .rfl⟩, trivial⟩ trivial rfl
              · refine gF 24 rfl hd rfl ?_
                replace hd := (ne_of_beq_false hd)
                replace h := h.2 hd
                refine gR 6 rfl ?_
                exact gJ (h K hK) [] [] rfl hK ⟨⟨_, rfl, .rfl⟩, ⟨_, rfl, .rfl⟩, ⟨_, rfl, .rfl⟩, ⟨_, rfl, .rfl⟩, ⟨_, rfl, .rfl⟩, ⟨_, rfl, .rfl⟩, ⟨_, rfl, .rfl⟩, trivial⟩ trivial rfl
theorem rL0_syntax_Leads (m : Nat) (p1 : Int) (i1v1 : Nat) (i1v2 : Nat) (i1v3 : Nat) (z1v4 : Int) (r0 : Int) (h : ((0 ≤ z1v4) → ((z1v4 < p1) → (-1) = r0) ∧ ((¬ z1v4 < p1) → L2_syntax_Leads m p1 i1v1 i1v2 i1v3 z1v4 r0)) ∧ ((¬ 0 ≤ z1v4) → L2_syntax_Leads m p1 i1v1 i1v2 i1v3 z1v4 r0)) : L0_syntax_Leads (m + 1) p1 i1v1 i1v2 i1v3 z1v4 r0 := by
  intro K hK
  refine gR 6 rfl ?_
  refine gB 47 rfl rfl rfl (fun hd => ?_) (fun hd => ?_)
  · refine gT 46 rfl hd rfl ?_
    replace hd := (of_decide_eq_true hd)
    replace h := h.1 hd
    refine gR 6 rfl ?_
    refine gB 51 rfl rfl rfl (fun hd => ?_) (fun hd => ?_)
    · replace hd := (of_decide_eq_true hd)
      replace h := h.1 hd
      refine gR 8 rfl ?_
      subst h
      refine go_sub (F' := (mkF 69 0 [(4, .int .i64 (-1))])) (H' := ⟨0, []⟩) [] [] rfl hK ⟨⟨_, rfl, .rfl⟩, trivial⟩ trivial rfl ?_
      exact go_end tabS_ok (rs := [.tmp 4]) rfl rfl rfl
    · replace hd := (of_decide_eq_false hd)
      replace h := h.2 hd
      refine gR 3 rfl ?_
      exact gJ (h K hK) [] [] rfl hK ⟨⟨_, rfl, .rfl⟩, ⟨_, rfl, .rfl⟩, ⟨_, rfl, .rfl⟩, ⟨_, rfl, .rfl⟩, ⟨_, rfl, .rfl⟩, trivial⟩ trivial rfl
  · refine gF 46 rfl hd rfl ?_
    replace hd := (of_decide_eq_false hd)
    replace h := h.2 hd
    refine gR 9 rfl ?_
    exact gJ (h K hK) [] [] rfl hK ⟨⟨_, rfl, .rfl⟩, ⟨_, rfl, .rfl⟩, ⟨_, rfl, .rfl⟩, ⟨_, rfl, .rfl⟩, ⟨_, rfl, .rfl⟩, trivial⟩ trivial rfl
theorem rL1_syntax_Leads (m : Nat) (p0 : Int) (p1 : Int) (b2v1 : Bool) (r0 : Int) (h : ((b2v1 = true) → L0_syntax_Leads m p1 1 2 0 1 r0) ∧ ((b2v1 = false) → ((p0 = 17) → L0_syntax_Leads m p1 1 0 0 1 r0) ∧ ((p0 ≠ 17) → ((p0 = 19) → L0_syntax_Leads m p1 3 3 0 3 r0) ∧ ((p0 ≠ 19) → ((p0 = 20) → L0_syntax_Leads m p1 2 4 0 2 r0) ∧ ((p0 ≠ 20) → ((p0 = 21) → L0_syntax_Leads m p1 2 1 0 2 r0) ∧ ((p0 ≠ 21) → ((p0 = 5) → L0_syntax_Leads m p1 0 1 0 0 r0) ∧ ((p0 ≠ 5) → ((p0 = 6) → L0_syntax_Leads m p1 0 1 0 0 r0) ∧ ((p0 ≠ 6) → ((p0 = 7) → L0_syntax_Leads m p1 0 1 0 0 r0) ∧ ((p0 ≠ 7) → ((p0 = 9) → L0_syntax_Leads m p1 0 1 0 0 r0) ∧ ((p0 ≠ 9) → ((p0 = 10) → L0_syntax_Leads m p1 0 1 0 0 r0) ∧ ((p0 ≠ 10) → ((p0 = 11) → L0_syntax_Leads m p1 0 1 0 0 r0) ∧ ((p0 ≠ 11) → ((p0 = 12) → L0_syntax_Leads m p1 0 1 0 0 r0) ∧ ((p0 ≠ 12) → ((p0 = 13) → L0_syntax_Leads m p1 0 1 0 0 r0) ∧ ((p0 ≠ 13) → ((p0 = 14) → L0_syntax_Leads m p1 0 1 0 0 r0) ∧ ((p0 ≠ 14) → ((p0 = 15) → L0_syntax_Leads m p1 0 1 0 0 r0) ∧ ((p0 ≠ 15) → (-1) = r0)))))))))))))))) : L1_syntax_Leads (m + 1) p0 p1 b2v1 r0 := by
  intro K hK
  refine gB 22 rfl rfl rfl (fun hd => ?_) (fun hd => ?_)
  · skip
    replace h := h.1 hd
    refine gR 8 rfl ?_
    exact gJ (h K hK) [] [] rfl hK ⟨⟨_, rfl, .rfl⟩, ⟨_, rfl, .rfl⟩, ⟨_, rfl, .rfl⟩, ⟨_, rfl, .rfl⟩, ⟨_, rfl, .rfl⟩, trivial⟩ trivial rfl
  · skip
    replace h := h.2 hd
    refine gR 7 rfl ?_
    refine gB 26 rfl rfl rfl (fun hd => ?_) (fun hd => ?_)
    · refine gT 27 rfl hd rfl ?_
      replace hd := (eq_of_beq hd)
      replace h := h.1 hd
      refine gR 8 rfl ?_
      exact gJ (h K hK) [] [] rfl hK ⟨⟨_, rfl, .rfl⟩, ⟨_, rfl, .rfl⟩, ⟨_, rfl, .rfl⟩, ⟨_, rfl, .rfl⟩, ⟨_, rfl, .rfl⟩, trivial⟩ trivial rfl
    · refine gF 27 rfl hd rfl ?_
      replace hd := (ne_of_beq_false hd)
      replace h := h.2 hd
      refine gR 7 rfl ?_
      refine gB 28 rfl rfl rfl (fun hd => ?_) (fun hd => ?_)
      · refine gT 29 rfl hd rfl ?_
        replace hd := (eq_of_beq hd)
        replace h := h.1 hd
        refine gR 8 rfl ?_
        exact gJ (h K hK) [] [] rfl hK ⟨⟨_, rfl, .rfl⟩, ⟨_, rfl, .rfl⟩, ⟨_, rfl, .rfl⟩, ⟨_, rfl, .rfl⟩, ⟨_, rfl, .rfl⟩, trivial⟩ trivial rfl
      · refine gF 29 rfl hd rfl ?_
        replace hd := (ne_of_beq_false hd)
        replace h := h.2 hd
        refine gR 7 rfl ?_
        refine gB 30 rfl rfl rfl (fun hd => ?_) (fun hd => ?_)
        · refine gT 31 rfl hd rfl ?_
          replace hd := (eq_of_beq hd)
          replace h := h.1 hd
          refine gR 8 rfl ?_
          exact gJ (h K hK) [] [] rfl hK ⟨⟨_, rfl, .rfl⟩, ⟨_, rfl, .rfl⟩, ⟨_, rfl, .rfl⟩, ⟨_, rfl, .rfl⟩, ⟨_, rfl, .rfl⟩, trivial⟩ trivial rfl
        · refine gF 31 rfl hd rfl ?_
          replace hd := (ne_of_beq_false hd)
          replace h := h.2 hd
          refine gR 7 rfl ?_
          refine gB 32 rfl rfl rfl (fun hd => ?_) (fun hd => ?_)
          · refine gT 33 rfl hd rfl ?_
            replace hd := (eq_of_beq hd)
            replace h := h.1 hd
            refine gR 8 rfl ?_
            exact gJ (h K hK) [] [] rfl hK ⟨⟨_, rfl, .rfl⟩, ⟨_, rfl, .rfl⟩, ⟨_, rfl, .rfl⟩, ⟨_, rfl, .rfl⟩, ⟨_, rfl, .rfl⟩, trivial⟩ trivial rfl
          · refine gF 33 rfl hd rfl ?_
            replace hd := (ne_of_beq_false hd)
            replace h := h.2 hd
            refine gR 8 rfl ?_
            refine gB 34 rfl rfl rfl (fun hd => ?_) (fun hd => ?_)
            · refine gT 35 rfl hd rfl ?_
              replace hd := (eq_of_beq hd)
              replace h := h.1 hd
              refine gR 7 rfl ?_
              exact gJ (h K hK) [] [] rfl hK ⟨⟨_, rfl, .rfl⟩, ⟨_, rfl, .rfl⟩, ⟨_, rfl, .rfl⟩, ⟨_, rfl, .rfl⟩, ⟨_, rfl, .rfl⟩, trivial⟩ trivial rfl
            · refine gF 35 rfl hd rfl ?_
              replace hd := (ne_of_beq_false hd)
              replace h := h.2 hd
              refine gR 7 rfl ?_
              refine gB 34 rfl rfl rfl (fun hd => ?_) (fun hd => ?_)
              · refine gT 36 rfl hd rfl ?_
                replace hd := (eq_of_beq hd)
                replace h := h.1 hd
                refine gR 7 rfl ?_
                exact gJ (h K hK) [] [] rfl hK ⟨⟨_, rfl, .rfl⟩, ⟨_, rfl, .rfl⟩, ⟨_, rfl, .rfl⟩, ⟨_, rfl, .rfl⟩, ⟨_, rfl, .rfl⟩, trivial⟩ trivial rfl
              · refine gF 36 rfl hd rfl ?_
                replace hd := (ne_of_beq_false hd)
                replace h := h.2 hd
                refine gR 7 rfl ?_
                refine gB 34 rfl rfl rfl (fun hd => ?_) (fun hd => ?_)
                · refine gT 37 rfl hd rfl ?_
                  replace hd := (eq_of_beq hd)
                  replace h := h.1 hd
                  refine gR 7 rfl ?_
                  exact gJ (h K hK) [] [] rfl hK ⟨⟨_, rfl, .rfl⟩, ⟨_, rfl, .rfl⟩, ⟨_, rfl, .rfl⟩, ⟨_, rfl, .rfl⟩, ⟨_, rfl, .rfl⟩, trivial⟩ trivial rfl
                · refine gF 37 rfl hd rfl ?_
                  replace hd := (ne_of_beq_false hd)
                  replace h := h.2 hd
                  refine gR 7 rfl ?_
                  refine gB 34 rfl rfl rfl (fun hd => ?_) (fun hd => ?_)
                  · refine gT 38 rfl hd rfl ?_
                    replace hd := (eq_of_beq hd)
                    replace h := h.1 hd
                    refine gR 7 rfl ?_
                    exact gJ (h K hK) [] [] rfl hK ⟨⟨_, rfl, .rfl⟩, ⟨_, rfl, .rfl⟩, ⟨_, rfl, .rfl⟩, ⟨_, rfl, .rfl⟩, ⟨_, rfl, .rfl⟩, trivial⟩ trivial rfl
                  · refine gF 38 rfl hd rfl ?_
                    replace hd := (ne_of_beq_false hd)
                    replace h := h.2 hd
                    refine gR 7 rfl ?_
                    refine gB 34 rfl rfl rfl (fun hd => ?_) (fun hd => ?_)
                    · refine gT 39 rfl hd rfl ?_
                      replace hd := (eq_of_beq hd)
                      replace h := h.1 hd
                      refine gR 7 rfl ?_
                      exact gJ (h K hK) [] [] rfl hK ⟨⟨_, rfl, .rfl⟩, ⟨_, rfl, .rfl⟩, ⟨_, rfl, .rfl⟩, ⟨_, rfl, .rfl⟩, ⟨_, rfl, .rfl⟩, trivial⟩ trivial rfl
                    · refine gF 39 rfl hd rfl ?_
                      replace hd := (ne_of_beq_false hd)
                      replace h := h.2 hd
                      refine gR 7 rfl ?_
                      refine gB 34 rfl rfl rfl (fun hd => ?_) (fun hd => ?_)
                      · refine gT 40 rfl hd rfl ?_
                        replace hd := (eq_of_beq hd)
                        replace h := h.1 hd
                        refine gR 7 rfl ?_
                        exact gJ (h K hK) [] [] rfl hK ⟨⟨_, rfl, .rfl⟩, ⟨_, rfl, .rfl⟩, ⟨_, rfl, .rfl⟩, ⟨_, rfl, .rfl⟩, ⟨_, rfl, .rfl⟩, trivial⟩ trivial rfl
                      · refine gF 40 rfl hd rfl ?_
                        replace hd := (ne_of_beq_false hd)
                        replace h := h.2 hd
                        refine gR 7 rfl ?_
                        refine gB 34 rfl rfl rfl (fun hd => ?_) (fun hd => ?_)
                        · refine gT 41 rfl hd rfl ?_
                          replace hd := (eq_of_beq hd)
                          replace h := h.1 hd
                          refine gR 7 rfl ?_
                          exact gJ (h K hK) [] [] rfl hK ⟨⟨_, rfl, .rfl⟩, ⟨_, rfl, .rfl⟩, ⟨_, rfl, .rfl⟩, ⟨_, rfl, .rfl⟩, ⟨_, rfl, .rfl⟩, trivial⟩ trivial rfl
                        · refine gF 41 rfl hd rfl ?_
                          replace hd := (ne_of_beq_false hd)
                          replace h := h.2 hd
                          refine gR 7 rfl ?_
                          refine gB 34 rfl rfl rfl (fun hd => ?_) (fun hd => ?_)
                          · refine gT 42 rfl hd rfl ?_
                            replace hd := (eq_of_beq hd)
                            replace h := h.1 hd
                            refine gR 7 rfl ?_
                            exact gJ (h K hK) [] [] rfl hK ⟨⟨_, rfl, .rfl⟩, ⟨_, rfl, .rfl⟩, ⟨_, rfl, .rfl⟩, ⟨_, rfl, .rfl⟩, ⟨_, rfl, .rfl⟩, trivial⟩ trivial rfl
                          · refine gF 42 rfl hd rfl ?_
                            replace hd := (ne_of_beq_false hd)
                            replace h := h.2 hd
                            refine gR 7 rfl ?_
                            refine gB 34 rfl rfl rfl (fun hd => ?_) (fun hd => ?_)
                            · refine gT 43 rfl hd rfl ?_
                              replace hd := (eq_of_beq hd)
                              replace h := h.1 hd
                              refine gR 7 rfl ?_
                              exact gJ (h K hK) [] [] rfl hK ⟨⟨_, rfl, .rfl⟩, ⟨_, rfl, .rfl⟩, ⟨_, rfl, .rfl⟩, ⟨_, rfl, .rfl⟩, ⟨_, rfl, .rfl⟩, trivial⟩ trivial rfl
                            · refine gF 43 rfl hd rfl ?_
                              replace hd := (ne_of_beq_false hd)
                              replace h := h.2 hd
                              refine gR 6 rfl ?_
                              refine gB 34 rfl rfl rfl (fun hd => ?_) (fun hd => ?_)
                              · refine gT 44 rfl hd rfl ?_
                                replace hd := (eq_of_beq hd)
                                replace h := h.1 hd
                                refine gR 4 rfl ?_
                                exact gJ (h K hK) [] [] rfl hK ⟨⟨_, rfl, .rfl⟩, ⟨_, rfl, .rfl⟩, ⟨_, rfl, .rfl⟩, ⟨_, rfl, .rfl⟩, ⟨_, rfl, .rfl⟩, trivial⟩ trivial rfl
                              · refine gF 44 rfl hd rfl ?_
                                replace hd := (ne_of_beq_false hd)
                                replace h := h.2 hd
                                refine gR 9 rfl ?_
                                subst h
                                refine go_sub (F' := (mkF 69 0 [(4, .int .i64 (-1))])) (H' := ⟨0, []⟩) [] [] rfl hK ⟨⟨_, rfl, .rfl⟩, trivial⟩ trivial rfl ?_
                                exact go_end tabS_ok (rs := [.tmp 4]) rfl rfl rfl
theorem rL2_syntax_Leads (m : Nat) (p1 : Int) (i1v1 : Nat) (i1v2 : Nat) (i1v3 : Nat) (z1v4 : Int) (r0 : Int) (h : ((z1v4 < 0) → ((((i1v3 : Nat) : Int) < p1) → InI (p1 - ((i1v3 : Nat) : Int)) ∧ InI ((p1 - ((i1v3 : Nat) : Int)) - 1) ∧ InI (((i1v2 : Nat) : Int) + ((p1 - ((i1v3 : Nat) : Int)) - 1)) ∧ ∃ (n3_1 : Int), S_syntax_atLeast p1 ((i1v1 : Nat) : Int) (((i1v2 : Nat) : Int) + ((p1 - ((i1v3 : Nat) : Int)) - 1)) n3_1 ∧ n3_1 = r0) ∧ ((¬ ((i1v3 : Nat) : Int) < p1) → ∃ (n3_2 : Int), S_syntax_atLeast p1 ((i1v1 : Nat) : Int) ((i1v2 : Nat) : Int) n3_2 ∧ n3_2 = r0)) ∧ ((¬ z1v4 < 0) → ∃ (n3_3 : Int), S_syntax_atLeast p1 ((i1v1 : Nat) : Int) ((i1v2 : Nat) : Int) n3_3 ∧ n3_3 = r0)) : L2_syntax_Leads (m + 1) p1 i1v1 i1v2 i1v3 z1v4 r0 := by
  intro K hK
  refine gR 6 rfl ?_
  refine gB 54 rfl rfl rfl (fun hd => ?_) (fun hd => ?_)
  · refine gT 53 rfl hd rfl ?_
    replace hd := (of_decide_eq_true hd)
    replace h := h.1 hd
    refine gR 6 rfl ?_
    refine gB 58 rfl rfl rfl (fun hd => ?_) (fun hd => ?_)
    · replace hd := (of_decide_eq_true hd)
      replace h := h.1 hd
      refine gR 5 rfl ?_
      obtain ⟨hb, h⟩ := h
      refine gR 1 rfl ?_
      refine gV 62 (.int .i64 (p1 - ((i1v3 : Nat) : Int))) rfl (wrapI hb rfl) rfl ?_
      obtain ⟨hb, h⟩ := h
      refine gR 1 rfl ?_
      refine gV 63 (.int .i64 ((p1 - ((i1v3 : Nat) : Int)) - 1)) rfl (wrapI hb rfl) rfl ?_
      obtain ⟨hb, h⟩ := h
      refine gR 1 rfl ?_
      refine gV 64 (.int .i64 (((i1v2 : Nat) : Int) + ((p1 - ((i1v3 : Nat) : Int)) - 1))) rfl (wrapI hb rfl) rfl ?_
      refine gR 8 rfl ?_
      obtain ⟨n3_1, hs18, h⟩ := h
      refine gC0 hs18 (by kernel_rfl) rfl rfl .rfl rfl ?_
      refine gR 4 rfl ?_
      subst h
      refine go_sub (F' := (mkF 69 0 [(4, .int .i64 n3_1)])) (H' := ⟨0, []⟩) [] [] rfl hK ⟨⟨_, rfl, .rfl⟩, trivial⟩ trivial rfl ?_
      exact go_end tabS_ok (rs := [.tmp 4]) rfl rfl rfl
    · replace hd := (of_decide_eq_false hd)
      replace h := h.2 hd
      refine gR 8 rfl ?_
      obtain ⟨n3_2, hs19, h⟩ := h
      refine gC0 hs19 (by kernel_rfl) rfl rfl .rfl rfl ?_
      refine gR 4 rfl ?_
      subst h
      refine go_sub (F' := (mkF 69 0 [(4, .int .i64 n3_2)])) (H' := ⟨0, []⟩) [] [] rfl hK ⟨⟨_, rfl, .rfl⟩, trivial⟩ trivial rfl ?_
      exact go_end tabS_ok (rs := [.tmp 4]) rfl rfl rfl
  · refine gF 53 rfl hd rfl ?_
    replace hd := (of_decide_eq_false hd)
    replace h := h.2 hd
    refine gR 14 rfl ?_
    obtain ⟨n3_3, hs20, h⟩ := h
    refine gC0 hs20 (by kernel_rfl) rfl rfl .rfl rfl ?_
    refine gR 4 rfl ?_
    subst h
    refine go_sub (F' := (mkF 69 0 [(4, .int .i64 n3_3)])) (H' := ⟨0, []⟩) [] [] rfl hK ⟨⟨_, rfl, .rfl⟩, trivial⟩ trivial rfl ?_
    exact go_end tabS_ok (rs := [.tmp 4]) rfl rfl rfl
theorem rS_syntax_atLeast (m : Nat) (p0 : Int) (p1 : Int) (p2 : Int) (r0 : Int) (h : ((p0 < p1) → (-1) = r0) ∧ ((¬ p0 < p1) → p2 = r0)) : S_syntax_atLeast p0 p1 p2 r0 := by
  refine ⟨rfl, rfl, ?_⟩
  refine sum_enter 11 [] Tryz.func127 rfl rfl rfl (pv_of rfl) fun K hK => ?_
  refine gR 13 rfl ?_
  refine gB 9 rfl rfl rfl (fun hd => ?_) (fun hd => ?_)
  · replace hd := (of_decide_eq_true hd)
    replace h := h.1 hd
    refine gR 8 rfl ?_
    subst h
    refine go_sub (F' := (mkF 11 0 [(6, .int .i64 (-1))])) (H' := ⟨0, []⟩) [] [] rfl hK ⟨⟨_, rfl, .rfl⟩, trivial⟩ trivial rfl ?_
    exact go_end tabS_ok (rs := [.tmp 6]) rfl rfl rfl
  · replace hd := (of_decide_eq_false hd)
    replace h := h.2 hd
    refine gR 10 rfl ?_
    subst h
    refine go_sub (F' := (mkF 11 0 [(6, .int .i64 p2)])) (H' := ⟨0, []⟩) [] [] rfl hK ⟨⟨_, rfl, .rfl⟩, trivial⟩ trivial rfl ?_
    exact go_end tabS_ok (rs := [.tmp 6]) rfl rfl rfl
theorem rS_syntax_isType (m : Nat) (p0 : Int) (r0 : Bool) (h : ((5 ≤ p0) → decide (p0 ≤ 9) = r0) ∧ ((¬ 5 ≤ p0) → false = r0)) : S_syntax_isType p0 r0 := by
  refine ⟨rfl, rfl, ?_⟩
  refine sum_enter 9 [] Tryz.func131 rfl rfl rfl (pv_of rfl) fun K hK => ?_
  refine gR 10 rfl ?_
  refine gB 5 rfl rfl rfl (fun hd => ?_) (fun hd => ?_)
  · refine gT 4 rfl hd rfl ?_
    replace hd := (of_decide_eq_true hd)
    replace h := h.1 hd
    refine gR 7 rfl ?_
    subst h
    refine go_sub (F' := (mkF 9 0 [(2, .bool (decide (p0 ≤ 9)))])) (H' := ⟨0, []⟩) [] [] rfl hK ⟨⟨_, rfl, .rfl⟩, trivial⟩ trivial rfl ?_
    exact go_end tabS_ok (rs := [.tmp 2]) rfl rfl rfl
  · refine gF 4 rfl hd rfl ?_
    replace hd := (of_decide_eq_false hd)
    replace h := h.2 hd
    refine gR 7 rfl ?_
    subst h
    refine go_sub (F' := (mkF 9 0 [(2, .bool false)])) (H' := ⟨0, []⟩) [] [] rfl hK ⟨⟨_, rfl, .rfl⟩, trivial⟩ trivial rfl ?_
    exact go_end tabS_ok (rs := [.tmp 2]) rfl rfl rfl
theorem rS_syntax_isExpression (m : Nat) (p0 : Int) (r0 : Bool) (h : ((10 ≤ p0) → ((p0 ≤ 22) → (p0 != 17) = r0) ∧ ((¬ p0 ≤ 22) → false = r0)) ∧ ((¬ 10 ≤ p0) → false = r0)) : S_syntax_isExpression p0 r0 := by
  refine ⟨rfl, rfl, ?_⟩
  refine sum_enter 13 [] Tryz.func130 rfl rfl rfl (pv_of rfl) fun K hK => ?_
  refine gR 10 rfl ?_
  refine gB 5 rfl rfl rfl (fun hd => ?_) (fun hd => ?_)
  · refine gT 4 rfl hd rfl ?_
    replace hd := (of_decide_eq_true hd)
    replace h := h.1 hd
    refine gR 4 rfl ?_
    refine gB 9 rfl rfl rfl (fun hd => ?_) (fun hd => ?_)
    · refine gT 8 rfl hd rfl ?_
      replace hd := (of_decide_eq_true hd)
      replace h := h.1 hd
      refine gR 7 rfl ?_
      subst h
      refine go_sub (F' := (mkF 13 0 [(2, .bool (p0 != 17))])) (H' := ⟨0, []⟩) [] [] rfl hK ⟨⟨_, rfl, .rfl⟩, trivial⟩ trivial rfl ?_
      exact go_end tabS_ok (rs := [.tmp 2]) rfl rfl rfl
    · refine gF 8 rfl hd rfl ?_
      replace hd := (of_decide_eq_false hd)
      replace h := h.2 hd
      refine gR 7 rfl ?_
      subst h
      refine go_sub (F' := (mkF 13 0 [(2, .bool false)])) (H' := ⟨0, []⟩) [] [] rfl hK ⟨⟨_, rfl, .rfl⟩, trivial⟩ trivial rfl ?_
      exact go_end tabS_ok (rs := [.tmp 2]) rfl rfl rfl
  · refine gF 4 rfl hd rfl ?_
    replace hd := (of_decide_eq_false hd)
    replace h := h.2 hd
    refine gR 11 rfl ?_
    subst h
    refine go_sub (F' := (mkF 13 0 [(2, .bool false)])) (H' := ⟨0, []⟩) [] [] rfl hK ⟨⟨_, rfl, .rfl⟩, trivial⟩ trivial rfl ?_
    exact go_end tabS_ok (rs := [.tmp 2]) rfl rfl rfl
theorem rS_syntax_isUnit (m : Nat) (p0 : Int) (r0 : Bool) (h : ∃ (b0_1 : Bool), S_syntax_isExpression p0 b0_1 ∧ ((b0_1 = true) → ((p0 ≠ 19) → ((p0 ≠ 20) → (p0 != 21) = r0) ∧ ((p0 = 20) → false = r0)) ∧ ((p0 = 19) → false = r0)) ∧ ((b0_1 = false) → false = r0)) : S_syntax_isUnit p0 r0 := by
  refine ⟨rfl, rfl, ?_⟩
  refine sum_enter 17 [] Tryz.func132 rfl rfl rfl (pv_of rfl) fun K hK => ?_
  refine gR 8 rfl ?_
  obtain ⟨b0_1, hs2, h⟩ := h
  refine gC0 hs2 (by kernel_rfl) rfl rfl .rfl rfl ?_
  refine gR 1 rfl ?_
  refine gB 5 rfl rfl rfl (fun hd => ?_) (fun hd => ?_)
  · refine gT 4 rfl hd rfl ?_
    skip
    replace h := h.1 hd
    refine gR 4 rfl ?_
    refine gB 9 rfl rfl rfl (fun hd => ?_) (fun hd => ?_)
    · refine gT 8 rfl hd rfl ?_
      replace hd := (xneT hd)
      replace h := h.1 hd
      refine gR 4 rfl ?_
      refine gB 13 rfl rfl rfl (fun hd => ?_) (fun hd => ?_)
      · refine gT 12 rfl hd rfl ?_
        replace hd := (xneT hd)
        replace h := h.1 hd
        refine gR 7 rfl ?_
        subst h
        refine go_sub (F' := (mkF 17 0 [(2, .bool (p0 != 21))])) (H' := ⟨0, []⟩) [] [] rfl hK ⟨⟨_, rfl, .rfl⟩, trivial⟩ trivial rfl ?_
        exact go_end tabS_ok (rs := [.tmp 2]) rfl rfl rfl
      · refine gF 12 rfl hd rfl ?_
        replace hd := (bneFE hd)
        replace h := h.2 hd
        refine gR 7 rfl ?_
        subst h
        refine go_sub (F' := (mkF 17 0 [(2, .bool false)])) (H' := ⟨0, []⟩) [] [] rfl hK ⟨⟨_, rfl, .rfl⟩, trivial⟩ trivial rfl ?_
        exact go_end tabS_ok (rs := [.tmp 2]) rfl rfl rfl
    · refine gF 8 rfl hd rfl ?_
      replace hd := (bneFE hd)
      replace h := h.2 hd
      refine gR 11 rfl ?_
      subst h
      refine go_sub (F' := (mkF 17 0 [(2, .bool false)])) (H' := ⟨0, []⟩) [] [] rfl hK ⟨⟨_, rfl, .rfl⟩, trivial⟩ trivial rfl ?_
      exact go_end tabS_ok (rs := [.tmp 2]) rfl rfl rfl
  · refine gF 4 rfl hd rfl ?_
    skip
    replace h := h.2 hd
    refine gR 15 rfl ?_
    subst h
    refine go_sub (F' := (mkF 17 0 [(2, .bool false)])) (H' := ⟨0, []⟩) [] [] rfl hK ⟨⟨_, rfl, .rfl⟩, trivial⟩ trivial rfl ?_
    exact go_end tabS_ok (rs := [.tmp 2]) rfl rfl rfl
theorem rS_syntax_operator (m : Nat) (p0 : (List UInt8)) (r0 : Bool) (h : ((p0 = [43]) → true = r0) ∧ ((p0 ≠ [43]) → ((p0 = [45]) → true = r0) ∧ ((p0 ≠ [45]) → ((p0 = [42]) → true = r0) ∧ ((p0 ≠ [42]) → ((p0 = [60]) → true = r0) ∧ ((p0 ≠ [60]) → ((p0 = [61, 61]) → true = r0) ∧ ((p0 ≠ [61, 61]) → false = r0)))))) : S_syntax_operator p0 r0 := by
  refine ⟨rfl, rfl, ?_⟩
  refine sum_enter 10 [] Tryz.func129 rfl rfl rfl (pv_of rfl) fun K hK => ?_
  refine gR 19 rfl ?_
  refine gB 4 rfl rfl rfl (fun hd => ?_) (fun hd => ?_)
  · refine gT 5 rfl hd rfl ?_
    replace hd := (eq_of_beq hd)
    replace h := h.1 hd
    refine gR 12 rfl ?_
    subst h
    refine go_sub (F' := (mkF 10 0 [(2, .bool true)])) (H' := ⟨0, []⟩) [] [] rfl hK ⟨⟨_, rfl, .rfl⟩, trivial⟩ trivial rfl ?_
    exact go_end tabS_ok (rs := [.tmp 2]) rfl rfl rfl
  · refine gF 5 rfl hd rfl ?_
    replace hd := (ne_of_beq_false hd)
    replace h := h.2 hd
    refine gR 7 rfl ?_
    refine gB 4 rfl rfl rfl (fun hd => ?_) (fun hd => ?_)
    · refine gT 6 rfl hd rfl ?_
      replace hd := (eq_of_beq hd)
      replace h := h.1 hd
      refine gR 12 rfl ?_
      subst h
      refine go_sub (F' := (mkF 10 0 [(2, .bool true)])) (H' := ⟨0, []⟩) [] [] rfl hK ⟨⟨_, rfl, .rfl⟩, trivial⟩ trivial rfl ?_
      exact go_end tabS_ok (rs := [.tmp 2]) rfl rfl rfl
    · refine gF 6 rfl hd rfl ?_
      replace hd := (ne_of_beq_false hd)
      replace h := h.2 hd
      refine gR 7 rfl ?_
      refine gB 4 rfl rfl rfl (fun hd => ?_) (fun hd => ?_)
      · refine gT 7 rfl hd rfl ?_
        replace hd := (eq_of_beq hd)
        replace h := h.1 hd
        refine gR 12 rfl ?_
        subst h
        refine go_sub (F' := (mkF 10 0 [(2, .bool true)])) (H' := ⟨0, []⟩) [] [] rfl hK ⟨⟨_, rfl, .rfl⟩, trivial⟩ trivial rfl ?_
        exact go_end tabS_ok (rs := [.tmp 2]) rfl rfl rfl
      · refine gF 7 rfl hd rfl ?_
        replace hd := (ne_of_beq_false hd)
        replace h := h.2 hd
        refine gR 7 rfl ?_
        refine gB 4 rfl rfl rfl (fun hd => ?_) (fun hd => ?_)
        · refine gT 8 rfl hd rfl ?_
          replace hd := (eq_of_beq hd)
          replace h := h.1 hd
          refine gR 12 rfl ?_
          subst h
          refine go_sub (F' := (mkF 10 0 [(2, .bool true)])) (H' := ⟨0, []⟩) [] [] rfl hK ⟨⟨_, rfl, .rfl⟩, trivial⟩ trivial rfl ?_
          exact go_end tabS_ok (rs := [.tmp 2]) rfl rfl rfl
        · refine gF 8 rfl hd rfl ?_
          replace hd := (ne_of_beq_false hd)
          replace h := h.2 hd
          refine gR 6 rfl ?_
          refine gB 4 rfl rfl rfl (fun hd => ?_) (fun hd => ?_)
          · refine gT 9 rfl hd rfl ?_
            replace hd := (eq_of_beq hd)
            replace h := h.1 hd
            refine gR 9 rfl ?_
            subst h
            refine go_sub (F' := (mkF 10 0 [(2, .bool true)])) (H' := ⟨0, []⟩) [] [] rfl hK ⟨⟨_, rfl, .rfl⟩, trivial⟩ trivial rfl ?_
            exact go_end tabS_ok (rs := [.tmp 2]) rfl rfl rfl
          · refine gF 9 rfl hd rfl ?_
            replace hd := (ne_of_beq_false hd)
            replace h := h.2 hd
            refine gR 10 rfl ?_
            subst h
            refine go_sub (F' := (mkF 10 0 [(2, .bool false)])) (H' := ⟨0, []⟩) [] [] rfl hK ⟨⟨_, rfl, .rfl⟩, trivial⟩ trivial rfl ?_
            exact go_end tabS_ok (rs := [.tmp 2]) rfl rfl rfl
def L0_syntax_worded (m : Nat) (p0 : Int) (p1 : (List UInt8)) (n0_1 : Int) (b1v1 : Bool) (r0 : Bool) : Prop := ∀ (K : Ctx), PinB K [] → Go Tryz.prog K (bodyPost Tryz.prog Tryz.f98 (SP K (fun u _ => u = .bool r0))) (.code (cB (cK (cB (cA (cB (cB (bodyC Tryz.f98)))))))) [.blk 0, .seq (cB (cB (cB (bodyC Tryz.f98))))] 51 (mkF 51 0 [(1, .str p1), (5, .int .i64 n0_1), (8, .int .i64 p0), (9, .bool b1v1)]) ⟨0, []⟩
def L1_syntax_worded (m : Nat) (p0 : Int) (p1 : (List UInt8)) (n0_1 : Int) (b2v1 : Bool) (r0 : Bool) : Prop := ∀ (K : Ctx), PinB K [] → Go Tryz.prog K (bodyPost Tryz.prog Tryz.f98 (SP K (fun u _ => u = .bool r0))) (.code (cB (cE (cB (cK (cB (cA (cB (cB (bodyC Tryz.f98)))))))))) [.blk 0, .seq (cB (cB (cB (bodyC Tryz.f98))))] 51 (mkF 51 0 [(1, .str p1), (5, .int .i64 n0_1), (8, .int .i64 p0), (14, .bool b2v1)]) ⟨0, []⟩
theorem rS_syntax_worded (m : Nat) (p0 : Int) (p1 : (List UInt8)) (r0 : Bool) (h : ∃ (n0_1 : Int), S_lex_Class p1 n0_1 ∧ ((p0 = 1) → L0_syntax_worded m p0 p1 n0_1 true r0) ∧ ((p0 ≠ 1) → L0_syntax_worded m p0 p1 n0_1 (p0 == 3) r0)) : S_syntax_worded p0 p1 r0 := by
  refine ⟨rfl, rfl, ?_⟩
  refine sum_enter 51 [] Tryz.func98 rfl rfl rfl (pv_of rfl) fun K hK => ?_
  refine gR 8 rfl ?_
  obtain ⟨n0_1, hs7, h⟩ := h
  refine gC0 hs7 (by kernel_rfl) rfl rfl .rfl rfl ?_
  refine gR 17 rfl ?_
  refine gB 9 rfl rfl rfl (fun hd => ?_) (fun hd => ?_)
  · refine gT 10 rfl hd rfl ?_
    replace hd := (eq_of_beq hd)
    replace h := h.1 hd
    refine gR 3 rfl ?_
    exact gJ (h K hK) [] [] rfl hK ⟨⟨_, rfl, .rfl⟩, ⟨_, rfl, .rfl⟩, ⟨_, rfl, .rfl⟩, ⟨_, rfl, .rfl⟩, trivial⟩ trivial rfl
  · refine gF 10 rfl hd rfl ?_
    replace hd := (ne_of_beq_false hd)
    replace h := h.2 hd
    refine gR 6 rfl ?_
    exact gJ (h K hK) [] [] rfl hK ⟨⟨_, rfl, .rfl⟩, ⟨_, rfl, .rfl⟩, ⟨_, rfl, .rfl⟩, ⟨_, rfl, .rfl⟩, trivial⟩ trivial rfl
theorem rL0_syntax_worded (m : Nat) (p0 : Int) (p1 : (List UInt8)) (n0_1 : Int) (b1v1 : Bool) (r0 : Bool) (h : ((b1v1 = true) → (n0_1 == 2) = r0) ∧ ((b1v1 = false) → ((p0 = 2) → L1_syntax_worded m p0 p1 n0_1 true r0) ∧ ((p0 ≠ 2) → ((p0 = 4) → L1_syntax_worded m p0 p1 n0_1 true r0) ∧ ((p0 ≠ 4) → ((p0 = 12) → L1_syntax_worded m p0 p1 n0_1 true r0) ∧ ((p0 ≠ 12) → L1_syntax_worded m p0 p1 n0_1 (p0 == 20) r0))))) : L0_syntax_worded (m + 1) p0 p1 n0_1 b1v1 r0 := by
  intro K hK
  refine gB 9 rfl rfl rfl (fun hd => ?_) (fun hd => ?_)
  · skip
    replace h := h.1 hd
    refine gR 11 rfl ?_
    subst h
    refine go_sub (F' := (mkF 51 0 [(4, .bool (n0_1 == 2))])) (H' := ⟨0, []⟩) [] [] rfl hK ⟨⟨_, rfl, .rfl⟩, trivial⟩ trivial rfl ?_
    exact go_end tabS_ok (rs := [.tmp 4]) rfl rfl rfl
  · skip
    replace h := h.2 hd
    refine gR 8 rfl ?_
    refine gB 14 rfl rfl rfl (fun hd => ?_) (fun hd => ?_)
    · refine gT 15 rfl hd rfl ?_
      replace hd := (eq_of_beq hd)
      replace h := h.1 hd
      refine gR 3 rfl ?_
      exact gJ (h K hK) [] [] rfl hK ⟨⟨_, rfl, .rfl⟩, ⟨_, rfl, .rfl⟩, ⟨_, rfl, .rfl⟩, ⟨_, rfl, .rfl⟩, trivial⟩ trivial rfl
    · refine gF 15 rfl hd rfl ?_
      replace hd := (ne_of_beq_false hd)
      replace h := h.2 hd
      refine gR 7 rfl ?_
      refine gB 14 rfl rfl rfl (fun hd => ?_) (fun hd => ?_)
      · refine gT 16 rfl hd rfl ?_
        replace hd := (eq_of_beq hd)
        replace h := h.1 hd
        refine gR 3 rfl ?_
        exact gJ (h K hK) [] [] rfl hK ⟨⟨_, rfl, .rfl⟩, ⟨_, rfl, .rfl⟩, ⟨_, rfl, .rfl⟩, ⟨_, rfl, .rfl⟩, trivial⟩ trivial rfl
      · refine gF 16 rfl hd rfl ?_
        replace hd := (ne_of_beq_false hd)
        replace h := h.2 hd
        refine gR 7 rfl ?_
        refine gB 14 rfl rfl rfl (fun hd => ?_) (fun hd => ?_)
        · refine gT 17 rfl hd rfl ?_
          replace hd := (eq_of_beq hd)
          replace h := h.1 hd
          refine gR 3 rfl ?_
          exact gJ (h K hK) [] [] rfl hK ⟨⟨_, rfl, .rfl⟩, ⟨_, rfl, .rfl⟩, ⟨_, rfl, .rfl⟩, ⟨_, rfl, .rfl⟩, trivial⟩ trivial rfl
        · refine gF 17 rfl hd rfl ?_
          replace hd := (ne_of_beq_false hd)
          replace h := h.2 hd
          refine gR 6 rfl ?_
          exact gJ (h K hK) [] [] rfl hK ⟨⟨_, rfl, .rfl⟩, ⟨_, rfl, .rfl⟩, ⟨_, rfl, .rfl⟩, ⟨_, rfl, .rfl⟩, trivial⟩ trivial rfl
theorem rL1_syntax_worded (m : Nat) (p0 : Int) (p1 : (List UInt8)) (n0_1 : Int) (b2v1 : Bool) (r0 : Bool) (h : ((b2v1 = true) → (n0_1 == 1) = r0) ∧ ((b2v1 = false) → ((p0 = 9) → ((n0_1 = 2) → true = r0) ∧ ((n0_1 ≠ 2) → (n0_1 == 4) = r0)) ∧ ((p0 ≠ 9) → ((p0 = 16) → ((n0_1 = 1) → true = r0) ∧ ((n0_1 ≠ 1) → (n0_1 == 3) = r0)) ∧ ((p0 ≠ 16) → ((p0 = 10) → (n0_1 == 5) = r0) ∧ ((p0 ≠ 10) → ((p0 = 11) → (n0_1 == 6) = r0) ∧ ((p0 ≠ 11) → ((p0 = 21) → ∃ (b2_1 : Bool), S_syntax_operator p1 b2_1 ∧ b2_1 = r0) ∧ ((p0 ≠ 21) → (p1 == []) = r0))))))) : L1_syntax_worded (m + 1) p0 p1 n0_1 b2v1 r0 := by
  intro K hK
  refine gB 14 rfl rfl rfl (fun hd => ?_) (fun hd => ?_)
  · skip
    replace h := h.1 hd
    refine gR 11 rfl ?_
    subst h
    refine go_sub (F' := (mkF 51 0 [(4, .bool (n0_1 == 1))])) (H' := ⟨0, []⟩) [] [] rfl hK ⟨⟨_, rfl, .rfl⟩, trivial⟩ trivial rfl ?_
    exact go_end tabS_ok (rs := [.tmp 4]) rfl rfl rfl
  · skip
    replace h := h.2 hd
    refine gR 7 rfl ?_
    refine gB 21 rfl rfl rfl (fun hd => ?_) (fun hd => ?_)
    · refine gT 22 rfl hd rfl ?_
      replace hd := (eq_of_beq hd)
      replace h := h.1 hd
      refine gR 6 rfl ?_
      refine gB 25 rfl rfl rfl (fun hd => ?_) (fun hd => ?_)
      · refine gT 24 rfl hd rfl ?_
        replace hd := (eq_of_beq hd)
        replace h := h.1 hd
        refine gR 9 rfl ?_
        subst h
        refine go_sub (F' := (mkF 51 0 [(4, .bool true)])) (H' := ⟨0, []⟩) [] [] rfl hK ⟨⟨_, rfl, .rfl⟩, trivial⟩ trivial rfl ?_
        exact go_end tabS_ok (rs := [.tmp 4]) rfl rfl rfl
      · refine gF 24 rfl hd rfl ?_
        replace hd := (ne_of_beq_false hd)
        replace h := h.2 hd
        refine gR 9 rfl ?_
        subst h
        refine go_sub (F' := (mkF 51 0 [(4, .bool (n0_1 == 4))])) (H' := ⟨0, []⟩) [] [] rfl hK ⟨⟨_, rfl, .rfl⟩, trivial⟩ trivial rfl ?_
        exact go_end tabS_ok (rs := [.tmp 4]) rfl rfl rfl
    · refine gF 22 rfl hd rfl ?_
      replace hd := (ne_of_beq_false hd)
      replace h := h.2 hd
      refine gR 7 rfl ?_
      refine gB 29 rfl rfl rfl (fun hd => ?_) (fun hd => ?_)
      · refine gT 30 rfl hd rfl ?_
        replace hd := (eq_of_beq hd)
        replace h := h.1 hd
        refine gR 6 rfl ?_
        refine gB 33 rfl rfl rfl (fun hd => ?_) (fun hd => ?_)
        · refine gT 32 rfl hd rfl ?_
          replace hd := (eq_of_beq hd)
          replace h := h.1 hd
          refine gR 9 rfl ?_
          subst h
          refine go_sub (F' := (mkF 51 0 [(4, .bool true)])) (H' := ⟨0, []⟩) [] [] rfl hK ⟨⟨_, rfl, .rfl⟩, trivial⟩ trivial rfl ?_
          exact go_end tabS_ok (rs := [.tmp 4]) rfl rfl rfl
        · refine gF 32 rfl hd rfl ?_
          replace hd := (ne_of_beq_false hd)
          replace h := h.2 hd
          refine gR 9 rfl ?_
          subst h
          refine go_sub (F' := (mkF 51 0 [(4, .bool (n0_1 == 3))])) (H' := ⟨0, []⟩) [] [] rfl hK ⟨⟨_, rfl, .rfl⟩, trivial⟩ trivial rfl ?_
          exact go_end tabS_ok (rs := [.tmp 4]) rfl rfl rfl
      · refine gF 30 rfl hd rfl ?_
        replace hd := (ne_of_beq_false hd)
        replace h := h.2 hd
        refine gR 7 rfl ?_
        refine gB 37 rfl rfl rfl (fun hd => ?_) (fun hd => ?_)
        · refine gT 38 rfl hd rfl ?_
          replace hd := (eq_of_beq hd)
          replace h := h.1 hd
          refine gR 11 rfl ?_
          subst h
          refine go_sub (F' := (mkF 51 0 [(4, .bool (n0_1 == 5))])) (H' := ⟨0, []⟩) [] [] rfl hK ⟨⟨_, rfl, .rfl⟩, trivial⟩ trivial rfl ?_
          exact go_end tabS_ok (rs := [.tmp 4]) rfl rfl rfl
        · refine gF 38 rfl hd rfl ?_
          replace hd := (ne_of_beq_false hd)
          replace h := h.2 hd
          refine gR 7 rfl ?_
          refine gB 41 rfl rfl rfl (fun hd => ?_) (fun hd => ?_)
          · refine gT 42 rfl hd rfl ?_
            replace hd := (eq_of_beq hd)
            replace h := h.1 hd
            refine gR 11 rfl ?_
            subst h
            refine go_sub (F' := (mkF 51 0 [(4, .bool (n0_1 == 6))])) (H' := ⟨0, []⟩) [] [] rfl hK ⟨⟨_, rfl, .rfl⟩, trivial⟩ trivial rfl ?_
            exact go_end tabS_ok (rs := [.tmp 4]) rfl rfl rfl
          · refine gF 42 rfl hd rfl ?_
            replace hd := (ne_of_beq_false hd)
            replace h := h.2 hd
            refine gR 7 rfl ?_
            refine gB 45 rfl rfl rfl (fun hd => ?_) (fun hd => ?_)
            · refine gT 46 rfl hd rfl ?_
              replace hd := (eq_of_beq hd)
              replace h := h.1 hd
              refine gR 4 rfl ?_
              obtain ⟨b2_1, hs8, h⟩ := h
              refine gC0 hs8 (by kernel_rfl) rfl rfl .rfl rfl ?_
              refine gR 6 rfl ?_
              subst h
              refine go_sub (F' := (mkF 51 0 [(4, .bool b2_1)])) (H' := ⟨0, []⟩) [] [] rfl hK ⟨⟨_, rfl, .rfl⟩, trivial⟩ trivial rfl ?_
              exact go_end tabS_ok (rs := [.tmp 4]) rfl rfl rfl
            · refine gF 46 rfl hd rfl ?_
              replace hd := (ne_of_beq_false hd)
              replace h := h.2 hd
              refine gR 12 rfl ?_
              subst h
              refine go_sub (F' := (mkF 51 0 [(4, .bool (p1 == []))])) (H' := ⟨0, []⟩) [] [] rfl hK ⟨⟨_, rfl, .rfl⟩, trivial⟩ trivial rfl ?_
              exact go_end tabS_ok (rs := [.tmp 4]) rfl rfl rfl
def L0_syntax_suits (m : Nat) (p0 : Tree) (p1 : Int) (t0_2 : Tree) (b1v1 : Bool) (r0 : Bool) : Prop := ∀ (K : Ctx), PinB K [] → Go Tryz.prog K (bodyPost Tryz.prog Tryz.f99 (SP K (fun u _ => u = .bool r0))) (.code (cB (cE (cB (cE (cB (cK (cB (cA (cB (cB (bodyC Tryz.f99)))))))))))) [.blk 0, .seq (cB (cB (cB (bodyC Tryz.f99))))] 67 (mkF 67 0 [(1, .int .i64 p1), (5, .int .i64 t0_2.kind), (13, .int .i64 p0.kind), (43, .bool b1v1)]) ⟨0, []⟩
theorem rS_syntax_suits (m : Nat) (p0 : Tree) (p1 : Int) (r0 : Bool) (h : ∃ (k0_1 : Nat), p1 = ((k0_1 : Nat) : Int) ∧ ∃ (t0_2 : Tree), p0.kids[k0_1]? = some t0_2 ∧ ((p0.kind = 1) → ((t0_2.kind = 2) → true = r0) ∧ ((t0_2.kind ≠ 2) → (t0_2.kind == 3) = r0)) ∧ ((p0.kind ≠ 1) → ((p0.kind = 2) → ((p1 = (((p0.kids.length : Nat) : Int) - 1)) → ∃ (b0_3 : Bool), S_syntax_isExpression t0_2.kind b0_3 ∧ b0_3 = r0) ∧ ((p1 ≠ (((p0.kids.length : Nat) : Int) - 1)) → ((p1 = (((p0.kids.length : Nat) : Int) - 2)) → ∃ (b0_4 : Bool), S_syntax_isType t0_2.kind b0_4 ∧ b0_4 = r0) ∧ ((p1 ≠ (((p0.kids.length : Nat) : Int) - 2)) → (t0_2.kind == 4) = r0))) ∧ ((p0.kind ≠ 2) → ((p0.kind = 3) → L0_syntax_suits m p0 p1 t0_2 true r0) ∧ ((p0.kind ≠ 3) → ((p0.kind = 4) → L0_syntax_suits m p0 p1 t0_2 true r0) ∧ ((p0.kind ≠ 4) → L0_syntax_suits m p0 p1 t0_2 (p0.kind == 8) r0))))) : S_syntax_suits p0 p1 r0 := by
  refine ⟨rfl, rfl, ?_⟩
  refine sum_enter 67 [] Tryz.func99 rfl rfl rfl (pv_of rfl) fun K hK => ?_
  refine gR 3 rfl ?_
  refine gFP 0 rfl rfl rfl rfl ?_
  refine gR 8 rfl ?_
  obtain ⟨k0_1, ek0_1, h⟩ := h
  refine gV 8 (.int .i64 ((k0_1 : Nat) : Int)) rfl (lenI' ek0_1) rfl ?_
  obtain ⟨t0_2, hxt0_2, h⟩ := h
  refine gY (yIR' (kidsV_get hxt0_2) tabS_ok rfl rfl rfl rfl) rfl rfl ?_
  refine gR 19 rfl ?_
  refine gB 14 rfl rfl rfl (fun hd => ?_) (fun hd => ?_)
  · refine gT 15 rfl hd rfl ?_
    replace hd := (eq_of_beq hd)
    replace h := h.1 hd
    refine gR 6 rfl ?_
    refine gB 18 rfl rfl rfl (fun hd => ?_) (fun hd => ?_)
    · refine gT 17 rfl hd rfl ?_
      replace hd := (eq_of_beq hd)
      replace h := h.1 hd
      refine gR 9 rfl ?_
      subst h
      refine go_sub (F' := (mkF 67 0 [(4, .bool true)])) (H' := ⟨0, []⟩) [] [] rfl hK ⟨⟨_, rfl, .rfl⟩, trivial⟩ trivial rfl ?_
      exact go_end tabS_ok (rs := [.tmp 4]) rfl rfl rfl
    · refine gF 17 rfl hd rfl ?_
      replace hd := (ne_of_beq_false hd)
      replace h := h.2 hd
      refine gR 9 rfl ?_
      subst h
      refine go_sub (F' := (mkF 67 0 [(4, .bool (t0_2.kind == 3))])) (H' := ⟨0, []⟩) [] [] rfl hK ⟨⟨_, rfl, .rfl⟩, trivial⟩ trivial rfl ?_
      exact go_end tabS_ok (rs := [.tmp 4]) rfl rfl rfl
  · refine gF 15 rfl hd rfl ?_
    replace hd := (ne_of_beq_false hd)
    replace h := h.2 hd
    refine gR 7 rfl ?_
    refine gB 22 rfl rfl rfl (fun hd => ?_) (fun hd => ?_)
    · refine gT 23 rfl hd rfl ?_
      replace hd := (eq_of_beq hd)
      replace h := h.1 hd
      refine gR 13 rfl ?_
      refine gV 28 (.int .i64 ((p0.kids.length : Nat) : Int)) rfl (lenI (lenK _)) rfl ?_
      refine gLB 27 rfl (lenK _) fun hl17 => ?_
      refine gR 1 rfl ?_
      refine gV 29 (.int .i64 (((p0.kids.length : Nat) : Int) - 1)) rfl (wrapI (by have := hl17; omega) rfl) rfl ?_
      refine gR 4 rfl ?_
      refine gB 25 rfl rfl rfl (fun hd => ?_) (fun hd => ?_)
      · refine gT 30 rfl hd rfl ?_
        replace hd := (eq_of_beq hd)
        replace h := h.1 hd
        refine gR 4 rfl ?_
        obtain ⟨b0_3, hs18, h⟩ := h
        refine gC0 hs18 (by kernel_rfl) rfl rfl .rfl rfl ?_
        refine gR 8 rfl ?_
        subst h
        refine go_sub (F' := (mkF 67 0 [(4, .bool b0_3)])) (H' := ⟨0, []⟩) [] [] rfl hK ⟨⟨_, rfl, .rfl⟩, trivial⟩ trivial rfl ?_
        exact go_end tabS_ok (rs := [.tmp 4]) rfl rfl rfl
      · refine gF 30 rfl hd rfl ?_
        replace hd := (ne_of_beq_false hd)
        replace h := h.2 hd
        refine gR 6 rfl ?_
        refine gV 36 (.int .i64 ((p0.kids.length : Nat) : Int)) rfl (lenI (lenK _)) rfl ?_
        refine gR 1 rfl ?_
        refine gV 37 (.int .i64 (((p0.kids.length : Nat) : Int) - 2)) rfl (wrapI (by have := hl17; omega) rfl) rfl ?_
        refine gR 4 rfl ?_
        refine gB 33 rfl rfl rfl (fun hd => ?_) (fun hd => ?_)
        · refine gT 38 rfl hd rfl ?_
          replace hd := (eq_of_beq hd)
          replace h := h.1 hd
          refine gR 4 rfl ?_
          obtain ⟨b0_4, hs19, h⟩ := h
          refine gC0 hs19 (by kernel_rfl) rfl rfl .rfl rfl ?_
          refine gR 8 rfl ?_
          subst h
          refine go_sub (F' := (mkF 67 0 [(4, .bool b0_4)])) (H' := ⟨0, []⟩) [] [] rfl hK ⟨⟨_, rfl, .rfl⟩, trivial⟩ trivial rfl ?_
          exact go_end tabS_ok (rs := [.tmp 4]) rfl rfl rfl
        · refine gF 38 rfl hd rfl ?_
          replace hd := (ne_of_beq_false hd)
          replace h := h.2 hd
          refine gR 14 rfl ?_
          subst h
          refine go_sub (F' := (mkF 67 0 [(4, .bool (t0_2.kind == 4))])) (H' := ⟨0, []⟩) [] [] rfl hK ⟨⟨_, rfl, .rfl⟩, trivial⟩ trivial rfl ?_
          exact go_end tabS_ok (rs := [.tmp 4]) rfl rfl rfl
    · refine gF 23 rfl hd rfl ?_
      replace hd := (ne_of_beq_false hd)
      replace h := h.2 hd
      refine gR 8 rfl ?_
      refine gB 43 rfl rfl rfl (fun hd => ?_) (fun hd => ?_)
      · refine gT 44 rfl hd rfl ?_
        replace hd := (eq_of_beq hd)
        replace h := h.1 hd
        refine gR 3 rfl ?_
        exact gJ (h K hK) [] [] rfl hK ⟨⟨_, rfl, .rfl⟩, ⟨_, rfl, .rfl⟩, ⟨_, rfl, .rfl⟩, ⟨_, rfl, .rfl⟩, trivial⟩ trivial rfl
      · refine gF 44 rfl hd rfl ?_
        replace hd := (ne_of_beq_false hd)
        replace h := h.2 hd
        refine gR 7 rfl ?_
        refine gB 43 rfl rfl rfl (fun hd => ?_) (fun hd => ?_)
        · refine gT 45 rfl hd rfl ?_
          replace hd := (eq_of_beq hd)
          replace h := h.1 hd
          refine gR 3 rfl ?_
          exact gJ (h K hK) [] [] rfl hK ⟨⟨_, rfl, .rfl⟩, ⟨_, rfl, .rfl⟩, ⟨_, rfl, .rfl⟩, ⟨_, rfl, .rfl⟩, trivial⟩ trivial rfl
        · refine gF 45 rfl hd rfl ?_
          replace hd := (ne_of_beq_false hd)
          replace h := h.2 hd
          refine gR 6 rfl ?_
          exact gJ (h K hK) [] [] rfl hK ⟨⟨_, rfl, .rfl⟩, ⟨_, rfl, .rfl⟩, ⟨_, rfl, .rfl⟩, ⟨_, rfl, .rfl⟩, trivial⟩ trivial rfl
theorem rL0_syntax_suits (m : Nat) (p0 : Tree) (p1 : Int) (t0_2 : Tree) (b1v1 : Bool) (r0 : Bool) (h : ((b1v1 = true) → ∃ (b1_1 : Bool), S_syntax_isType t0_2.kind b1_1 ∧ b1_1 = r0) ∧ ((b1v1 = false) → ((p0.kind = 16) → (t0_2.kind == 17) = r0) ∧ ((p0.kind ≠ 16) → ((p0.kind = 21) → ∃ (b1_2 : Bool), S_syntax_isUnit t0_2.kind b1_2 ∧ ((b1_2 = true) → true = r0) ∧ ((b1_2 = false) → ((p1 = 0) → (t0_2.kind == 21) = r0) ∧ ((p1 ≠ 0) → false = r0))) ∧ ((p0.kind ≠ 21) → ∃ (b1_3 : Bool), S_syntax_isExpression t0_2.kind b1_3 ∧ b1_3 = r0)))) : L0_syntax_suits (m + 1) p0 p1 t0_2 b1v1 r0 := by
  intro K hK
  refine gB 43 rfl rfl rfl (fun hd => ?_) (fun hd => ?_)
  · skip
    replace h := h.1 hd
    refine gR 4 rfl ?_
    obtain ⟨b1_1, hs20, h⟩ := h
    refine gC0 hs20 (by kernel_rfl) rfl rfl .rfl rfl ?_
    refine gR 6 rfl ?_
    subst h
    refine go_sub (F' := (mkF 67 0 [(4, .bool b1_1)])) (H' := ⟨0, []⟩) [] [] rfl hK ⟨⟨_, rfl, .rfl⟩, trivial⟩ trivial rfl ?_
    exact go_end tabS_ok (rs := [.tmp 4]) rfl rfl rfl
  · skip
    replace h := h.2 hd
    refine gR 7 rfl ?_
    refine gB 49 rfl rfl rfl (fun hd => ?_) (fun hd => ?_)
    · refine gT 50 rfl hd rfl ?_
      replace hd := (eq_of_beq hd)
      replace h := h.1 hd
      refine gR 11 rfl ?_
      subst h
      refine go_sub (F' := (mkF 67 0 [(4, .bool (t0_2.kind == 17))])) (H' := ⟨0, []⟩) [] [] rfl hK ⟨⟨_, rfl, .rfl⟩, trivial⟩ trivial rfl ?_
      exact go_end tabS_ok (rs := [.tmp 4]) rfl rfl rfl
    · refine gF 50 rfl hd rfl ?_
      replace hd := (ne_of_beq_false hd)
      replace h := h.2 hd
      refine gR 7 rfl ?_
      refine gB 53 rfl rfl rfl (fun hd => ?_) (fun hd => ?_)
      · refine gT 54 rfl hd rfl ?_
        replace hd := (eq_of_beq hd)
        replace h := h.1 hd
        refine gR 4 rfl ?_
        obtain ⟨b1_2, hs21, h⟩ := h
        refine gC0 hs21 (by kernel_rfl) rfl rfl .rfl rfl ?_
        refine gR 1 rfl ?_
        refine gB 57 rfl rfl rfl (fun hd => ?_) (fun hd => ?_)
        · refine gT 56 rfl hd rfl ?_
          skip
          replace h := h.1 hd
          refine gR 13 rfl ?_
          subst h
          refine go_sub (F' := (mkF 67 0 [(4, .bool true)])) (H' := ⟨0, []⟩) [] [] rfl hK ⟨⟨_, rfl, .rfl⟩, trivial⟩ trivial rfl ?_
          exact go_end tabS_ok (rs := [.tmp 4]) rfl rfl rfl
        · refine gF 56 rfl hd rfl ?_
          skip
          replace h := h.2 hd
          refine gR 3 rfl ?_
          refine gB 60 rfl rfl rfl (fun hd => ?_) (fun hd => ?_)
          · refine gT 59 rfl hd rfl ?_
            replace hd := (eq_of_beq hd)
            replace h := h.1 hd
            refine gR 10 rfl ?_
            subst h
            refine go_sub (F' := (mkF 67 0 [(4, .bool (t0_2.kind == 21))])) (H' := ⟨0, []⟩) [] [] rfl hK ⟨⟨_, rfl, .rfl⟩, trivial⟩ trivial rfl ?_
            exact go_end tabS_ok (rs := [.tmp 4]) rfl rfl rfl
          · refine gF 59 rfl hd rfl ?_
            replace hd := (ne_of_beq_false hd)
            replace h := h.2 hd
            refine gR 10 rfl ?_
            subst h
            refine go_sub (F' := (mkF 67 0 [(4, .bool false)])) (H' := ⟨0, []⟩) [] [] rfl hK ⟨⟨_, rfl, .rfl⟩, trivial⟩ trivial rfl ?_
            exact go_end tabS_ok (rs := [.tmp 4]) rfl rfl rfl
      · refine gF 54 rfl hd rfl ?_
        replace hd := (ne_of_beq_false hd)
        replace h := h.2 hd
        refine gR 7 rfl ?_
        obtain ⟨b1_3, hs22, h⟩ := h
        refine gC0 hs22 (by kernel_rfl) rfl rfl .rfl rfl ?_
        refine gR 4 rfl ?_
        subst h
        refine go_sub (F' := (mkF 67 0 [(4, .bool b1_3)])) (H' := ⟨0, []⟩) [] [] rfl hK ⟨⟨_, rfl, .rfl⟩, trivial⟩ trivial rfl ?_
        exact go_end tabS_ok (rs := [.tmp 4]) rfl rfl rfl
def L0_syntax_Shaped (m : Nat) (p0 : Tree) (i1v1 : Nat) (r0 : Bool) : Prop := ∀ (K : Ctx) (j1 : Nat), PinB K [] → m ≤ j1 → Go Tryz.prog K (bodyPost Tryz.prog Tryz.f69 (SP K (fun u _ => u = .bool r0))) (.code (cL (cK (cB (cA (cB (cB (bodyC Tryz.f69)))))))) [.loop (cL (cK (cB (cA (cB (cB (bodyC Tryz.f69))))))) j1, .blk 0, .seq (cB (cB (cB (bodyC Tryz.f69))))] 38 (mkF 38 0 [(1, .box (treeC p0) 0), (21, .row 4 (kidsV p0.kids)), (22, .int .i64 ((p0.kids.length : Nat) : Int)), (23, .int .i64 ((i1v1 : Nat) : Int))]) ⟨0, []⟩
theorem rS_syntax_Shaped (m : Nat) (p0 : Tree) (r0 : Bool) (h : ∃ (n0_1 : Int), S_syntax_Leads p0.kind ((p0.kids.length : Nat) : Int) n0_1 ∧ ((n0_1 < 0) → false = r0) ∧ ((¬ n0_1 < 0) → ∃ (b0_2 : Bool), S_syntax_worded p0.kind p0.text b0_2 ∧ ((b0_2 = false) → false = r0) ∧ ((b0_2 = true) → L0_syntax_Shaped m p0 0 r0))) : S_syntax_Shaped p0 r0 := by
  refine ⟨rfl, rfl, ?_⟩
  refine sum_enter 38 [] Tryz.func69 rfl rfl rfl (pv_of rfl) fun K hK => ?_
  refine gR 3 rfl ?_
  refine gFP 0 rfl rfl rfl rfl ?_
  refine gR 11 rfl ?_
  refine gV 9 (.int .i64 ((p0.kids.length : Nat) : Int)) rfl (lenI (lenK _)) rfl ?_
  refine gLB 8 rfl (lenK _) fun hl11 => ?_
  obtain ⟨n0_1, hs12, h⟩ := h
  refine gC0 hs12 (by kernel_rfl) rfl rfl .rfl rfl ?_
  refine gR 2 rfl ?_
  refine gB 12 rfl rfl rfl (fun hd => ?_) (fun hd => ?_)
  · refine gT 11 rfl hd rfl ?_
    replace hd := (of_decide_eq_true hd)
    replace h := h.1 hd
    refine gR 17 rfl ?_
    subst h
    refine go_sub (F' := (mkF 38 0 [(2, .bool false)])) (H' := ⟨0, []⟩) [] [] rfl hK ⟨⟨_, rfl, .rfl⟩, trivial⟩ trivial rfl ?_
    exact go_end tabS_ok (rs := [.tmp 2]) rfl rfl rfl
  · refine gF 11 rfl hd rfl ?_
    replace hd := (of_decide_eq_false hd)
    replace h := h.2 hd
    refine gR 4 rfl ?_
    obtain ⟨b0_2, hs13, h⟩ := h
    refine gC0 hs13 (by kernel_rfl) rfl rfl .rfl rfl ?_
    refine gR 4 rfl ?_
    refine gB 19 rfl rfl rfl (fun hd => ?_) (fun hd => ?_)
    · replace hd := (not_t hd)
      replace h := h.1 hd
      refine gR 8 rfl ?_
      subst h
      refine go_sub (F' := (mkF 38 0 [(2, .bool false)])) (H' := ⟨0, []⟩) [] [] rfl hK ⟨⟨_, rfl, .rfl⟩, trivial⟩ trivial rfl ?_
      exact go_end tabS_ok (rs := [.tmp 2]) rfl rfl rfl
    · replace hd := (not_f hd)
      replace h := h.2 hd
      refine gR 9 rfl ?_
      refine gV 22 (.int .i64 ((p0.kids.length : Nat) : Int)) rfl (lenI (lenK _)) rfl ?_
      refine gR 4 rfl ?_
      refine go_loop m ?_
      exact gJ (h K _ hK (by omega)) [] [] rfl hK ⟨⟨_, rfl, .rfl⟩, ⟨_, rfl, .rfl⟩, ⟨_, rfl, .rfl⟩, ⟨_, rfl, .rfl⟩, trivial⟩ trivial rfl
theorem rL0_syntax_Shaped (m : Nat) (p0 : Tree) (i1v1 : Nat) (r0 : Bool) (h : ((i1v1 < p0.kids.length) → ∃ (t1_1 : Tree), p0.kids[i1v1]? = some t1_1 ∧ ∃ (b1_2 : Bool), S_syntax_suits p0 ((i1v1 : Nat) : Int) b1_2 ∧ ((b1_2 = false) → false = r0) ∧ ((b1_2 = true) → ∃ (b1_3 : Bool), S_syntax_Shaped t1_1 b1_3 ∧ ((b1_3 = false) → false = r0) ∧ ((b1_3 = true) → i1v1 + 1 ≤ 9223372036854775807 ∧ L0_syntax_Shaped m p0 (i1v1 + 1) r0))) ∧ ((¬ i1v1 < p0.kids.length) → true = r0)) : L0_syntax_Shaped (m + 1) p0 i1v1 r0 := by
  intro K j1 hK hj1
  obtain ⟨j1, rfl⟩ : ∃ j, j1 = j + 1 := ⟨j1 - 1, by omega⟩
  refine gR 6 rfl ?_
  refine gB 24 rfl rfl rfl (fun hd => ?_) (fun hd => ?_)
  · replace hd := (natT hd)
    replace h := h.1 hd
    refine gR 8 rfl ?_
    obtain ⟨t1_1, hxt1_1, h⟩ := h
    refine gY (yIR' (kidsV_get hxt1_1) tabS_ok rfl rfl rfl rfl) rfl rfl ?_
    refine gR 10 rfl ?_
    obtain ⟨b1_2, hs14, h⟩ := h
    refine gC0 hs14 (by kernel_rfl) rfl rfl .rfl rfl ?_
    refine gR 2 rfl ?_
    refine gB 32 rfl rfl rfl (fun hd => ?_) (fun hd => ?_)
    · refine gT 31 rfl hd rfl ?_
      replace hd := (not_t hd)
      replace h := h.1 hd
      refine gR 15 rfl ?_
      refine go_xloopR ?_
      refine gR 2 rfl ?_
      subst h
      refine go_sub (F' := (mkF 38 0 [(2, .bool false)])) (H' := ⟨0, []⟩) [] [] rfl hK ⟨⟨_, rfl, .rfl⟩, trivial⟩ trivial rfl ?_
      exact go_end tabS_ok (rs := [.tmp 2]) rfl rfl rfl
    · refine gF 31 rfl hd rfl ?_
      replace hd := (not_f hd)
      replace h := h.2 hd
      refine gR 1 rfl ?_
      obtain ⟨b1_3, hs15, h⟩ := h
      refine gC0 hs15 (by kernel_rfl) rfl rfl .rfl rfl ?_
      refine gR 4 rfl ?_
      refine gB 36 rfl rfl rfl (fun hd => ?_) (fun hd => ?_)
      · replace hd := (not_t hd)
        replace h := h.1 hd
        refine gR 9 rfl ?_
        refine go_xloopR ?_
        refine gR 2 rfl ?_
        subst h
        refine go_sub (F' := (mkF 38 0 [(2, .bool false)])) (H' := ⟨0, []⟩) [] [] rfl hK ⟨⟨_, rfl, .rfl⟩, trivial⟩ trivial rfl ?_
        exact go_end tabS_ok (rs := [.tmp 2]) rfl rfl rfl
      · replace hd := (not_f hd)
        replace h := h.2 hd
        refine gR 5 rfl ?_
        obtain ⟨hb, h⟩ := h
        refine gR 1 rfl ?_
        refine gV 37 (.int .i64 ((i1v1 + 1 : Nat) : Int)) rfl (wrapI (by omega) (by omega)) rfl ?_
        refine gR 2 rfl ?_
        refine go_xloop ?_
        exact gJ (h K _ hK (by omega)) [] [] rfl hK ⟨⟨_, rfl, .rfl⟩, ⟨_, rfl, .rfl⟩, ⟨_, rfl, .rfl⟩, ⟨_, rfl, .rfl⟩, trivial⟩ trivial rfl
  · replace hd := (natF hd)
    replace h := h.2 hd
    refine gR 3 rfl ?_
    refine go_xloopE ?_
    refine gR 8 rfl ?_
    subst h
    refine go_sub (F' := (mkF 38 0 [(2, .bool true)])) (H' := ⟨0, []⟩) [] [] rfl hK ⟨⟨_, rfl, .rfl⟩, trivial⟩ trivial rfl ?_
    exact go_end tabS_ok (rs := [.tmp 2]) rfl rfl rfl
def L0_semvcsref02_Leads (m : Nat) (p0 : Int) (p1 : Int) (b1v1 : Bool) (r0 : Int) : Prop := ∀ (K : Ctx), PinB K [] → Go Tryz.prog K (bodyPost Tryz.prog Tryz.f100 (SP K (fun u _ => u = .int .i64 r0))) (.code (cB (cE (cB (cE (cB (cE (cB (cK (cB (cA (cB (bodyC Tryz.f100))))))))))))) [.blk 0, .seq (cB (cB (bodyC Tryz.f100)))] 71 (mkF 71 0 [(1, .int .i64 p1), (5, .int .i64 p0), (22, .bool b1v1)]) ⟨0, []⟩
def L1_semvcsref02_Leads (m : Nat) (p0 : Int) (p1 : Int) (b2v1 : Bool) (r0 : Int) : Prop := ∀ (K : Ctx), PinB K [] → Go Tryz.prog K (bodyPost Tryz.prog Tryz.f100 (SP K (fun u _ => u = .int .i64 r0))) (.code (cB (cE (cB (cE (cB (cE (cB (cE (cB (cK (cB (cA (cB (bodyC Tryz.f100))))))))))))))) [.blk 0, .seq (cB (cB (bodyC Tryz.f100)))] 71 (mkF 71 0 [(1, .int .i64 p1), (5, .int .i64 p0), (28, .bool b2v1)]) ⟨0, []⟩
theorem rS_semvcsref02_Leads (m : Nat) (p0 : Int) (p1 : Int) (r0 : Int) (h : ((p0 = 1) → ((0 ≤ p1) → 3 = r0) ∧ ((¬ 0 ≤ p1) → (-1) = r0)) ∧ ((p0 ≠ 1) → ((p0 = 2) → ((2 ≤ p1) → InI (p1 - 3) ∧ InI (6 + (max 0 (p1 - 3))) ∧ (6 + (max 0 (p1 - 3))) = r0) ∧ ((¬ 2 ≤ p1) → (-1) = r0)) ∧ ((p0 ≠ 2) → ((p0 = 3) → ∃ (n0_1 : Int), S_semvcsref02_only p1 1 3 n0_1 ∧ n0_1 = r0) ∧ ((p0 ≠ 3) → ((p0 = 4) → L0_semvcsref02_Leads m p0 p1 true r0) ∧ ((p0 ≠ 4) → ((p0 = 8) → L0_semvcsref02_Leads m p0 p1 true r0) ∧ ((p0 ≠ 8) → L0_semvcsref02_Leads m p0 p1 (p0 == 22) r0)))))) : S_semvcsref02_Leads p0 p1 r0 := by
  refine ⟨rfl, rfl, ?_⟩
  refine sum_enter 71 [] Tryz.func100 rfl rfl rfl (pv_of rfl) fun K hK => ?_
  refine gR 18 rfl ?_
  refine gB 6 rfl rfl rfl (fun hd => ?_) (fun hd => ?_)
  · refine gT 7 rfl hd rfl ?_
    replace hd := (eq_of_beq hd)
    replace h := h.1 hd
    refine gR 7 rfl ?_
    refine gB 9 rfl rfl rfl (fun hd => ?_) (fun hd => ?_)
    · replace hd := (of_decide_eq_true hd)
      replace h := h.1 hd
      refine gR 9 rfl ?_
      subst h
      refine go_sub (F' := (mkF 71 0 [(4, .int .i64 3)])) (H' := ⟨0, []⟩) [] [] rfl hK ⟨⟨_, rfl, .rfl⟩, trivial⟩ trivial rfl ?_
      exact go_end tabS_ok (rs := [.tmp 4]) rfl rfl rfl
    · replace hd := (of_decide_eq_false hd)
      replace h := h.2 hd
      refine gR 10 rfl ?_
      subst h
      refine go_sub (F' := (mkF 71 0 [(4, .int .i64 (-1))])) (H' := ⟨0, []⟩) [] [] rfl hK ⟨⟨_, rfl, .rfl⟩, trivial⟩ trivial rfl ?_
      exact go_end tabS_ok (rs := [.tmp 4]) rfl rfl rfl
  · refine gF 7 rfl hd rfl ?_
    replace hd := (ne_of_beq_false hd)
    replace h := h.2 hd
    refine gR 7 rfl ?_
    refine gB 10 rfl rfl rfl (fun hd => ?_) (fun hd => ?_)
    · refine gT 11 rfl hd rfl ?_
      replace hd := (eq_of_beq hd)
      replace h := h.1 hd
      refine gR 7 rfl ?_
      refine gB 13 rfl rfl rfl (fun hd => ?_) (fun hd => ?_)
      · replace hd := (of_decide_eq_true hd)
        replace h := h.1 hd
        refine gR 4 rfl ?_
        obtain ⟨hb, h⟩ := h
        refine gR 1 rfl ?_
        refine gV 15 (.int .i64 (p1 - 3)) rfl (wrapI hb rfl) rfl ?_
        refine gR 1 rfl ?_
        obtain ⟨hb, h⟩ := h
        refine gR 1 rfl ?_
        refine gV 17 (.int .i64 (6 + (max 0 (p1 - 3)))) rfl (wrapI hb rfl) rfl ?_
        refine gR 6 rfl ?_
        subst h
        refine go_sub (F' := (mkF 71 0 [(4, .int .i64 (6 + (max 0 (p1 - 3))))])) (H' := ⟨0, []⟩) [] [] rfl hK ⟨⟨_, rfl, .rfl⟩, trivial⟩ trivial rfl ?_
        exact go_end tabS_ok (rs := [.tmp 4]) rfl rfl rfl
      · replace hd := (of_decide_eq_false hd)
        replace h := h.2 hd
        refine gR 10 rfl ?_
        subst h
        refine go_sub (F' := (mkF 71 0 [(4, .int .i64 (-1))])) (H' := ⟨0, []⟩) [] [] rfl hK ⟨⟨_, rfl, .rfl⟩, trivial⟩ trivial rfl ?_
        exact go_end tabS_ok (rs := [.tmp 4]) rfl rfl rfl
    · refine gF 11 rfl hd rfl ?_
      replace hd := (ne_of_beq_false hd)
      replace h := h.2 hd
      refine gR 7 rfl ?_
      refine gB 18 rfl rfl rfl (fun hd => ?_) (fun hd => ?_)
      · refine gT 19 rfl hd rfl ?_
        replace hd := (eq_of_beq hd)
        replace h := h.1 hd
        refine gR 4 rfl ?_
        obtain ⟨n0_1, hs20, h⟩ := h
        refine gC0 hs20 (by kernel_rfl) rfl rfl .rfl rfl ?_
        refine gR 6 rfl ?_
        subst h
        refine go_sub (F' := (mkF 71 0 [(4, .int .i64 n0_1)])) (H' := ⟨0, []⟩) [] [] rfl hK ⟨⟨_, rfl, .rfl⟩, trivial⟩ trivial rfl ?_
        exact go_end tabS_ok (rs := [.tmp 4]) rfl rfl rfl
      · refine gF 19 rfl hd rfl ?_
        replace hd := (ne_of_beq_false hd)
        replace h := h.2 hd
        refine gR 8 rfl ?_
        refine gB 22 rfl rfl rfl (fun hd => ?_) (fun hd => ?_)
        · refine gT 23 rfl hd rfl ?_
          replace hd := (eq_of_beq hd)
          replace h := h.1 hd
          refine gR 3 rfl ?_
          exact gJ (h K hK) [] [] rfl hK ⟨⟨_, rfl, .rfl⟩, ⟨_, rfl, .rfl⟩, ⟨_, rfl, .rfl⟩, trivial⟩ trivial rfl
        · refine gF 23 rfl hd rfl ?_
          replace hd := (ne_of_beq_false hd)
          replace h := h.2 hd
          refine gR 7 rfl ?_
          refine gB 22 rfl rfl rfl (fun hd => ?_) (fun hd => ?_)
          · refine gT 24 rfl hd rfl ?_
            replace hd := (eq_of_beq hd)
            replace h := h.1 hd
            refine gR 3 rfl ?_
            exact gJ (h K hK) [] [] rfl hK ⟨⟨_, rfl, .rfl⟩, ⟨_, rfl, .rfl⟩, ⟨_, rfl, .rfl⟩, trivial⟩ trivial rfl
          · refine gF 24 rfl hd rfl ?_
            replace hd := (ne_of_beq_false hd)
            replace h := h.2 hd
            refine gR 6 rfl ?_
            exact gJ (h K hK) [] [] rfl hK ⟨⟨_, rfl, .rfl⟩, ⟨_, rfl, .rfl⟩, ⟨_, rfl, .rfl⟩, trivial⟩ trivial rfl
theorem rL0_semvcsref02_Leads (m : Nat) (p0 : Int) (p1 : Int) (b1v1 : Bool) (r0 : Int) (h : ((b1v1 = true) → ∃ (n1_1 : Int), S_semvcsref02_only p1 1 2 n1_1 ∧ n1_1 = r0) ∧ ((b1v1 = false) → ((p0 = 5) → L1_semvcsref02_Leads m p0 p1 true r0) ∧ ((p0 ≠ 5) → ((p0 = 6) → L1_semvcsref02_Leads m p0 p1 true r0) ∧ ((p0 ≠ 6) → ((p0 = 7) → L1_semvcsref02_Leads m p0 p1 true r0) ∧ ((p0 ≠ 7) → ((p0 = 9) → L1_semvcsref02_Leads m p0 p1 true r0) ∧ ((p0 ≠ 9) → ((p0 = 10) → L1_semvcsref02_Leads m p0 p1 true r0) ∧ ((p0 ≠ 10) → ((p0 = 11) → L1_semvcsref02_Leads m p0 p1 true r0) ∧ ((p0 ≠ 11) → ((p0 = 12) → L1_semvcsref02_Leads m p0 p1 true r0) ∧ ((p0 ≠ 12) → ((p0 = 13) → L1_semvcsref02_Leads m p0 p1 true r0) ∧ ((p0 ≠ 13) → ((p0 = 14) → L1_semvcsref02_Leads m p0 p1 true r0) ∧ ((p0 ≠ 14) → L1_semvcsref02_Leads m p0 p1 (p0 == 15) r0))))))))))) : L0_semvcsref02_Leads (m + 1) p0 p1 b1v1 r0 := by
  intro K hK
  refine gB 22 rfl rfl rfl (fun hd => ?_) (fun hd => ?_)
  · skip
    replace h := h.1 hd
    refine gR 4 rfl ?_
    obtain ⟨n1_1, hs21, h⟩ := h
    refine gC0 hs21 (by kernel_rfl) rfl rfl .rfl rfl ?_
    refine gR 6 rfl ?_
    subst h
    refine go_sub (F' := (mkF 71 0 [(4, .int .i64 n1_1)])) (H' := ⟨0, []⟩) [] [] rfl hK ⟨⟨_, rfl, .rfl⟩, trivial⟩ trivial rfl ?_
    exact go_end tabS_ok (rs := [.tmp 4]) rfl rfl rfl
  · skip
    replace h := h.2 hd
    refine gR 8 rfl ?_
    refine gB 28 rfl rfl rfl (fun hd => ?_) (fun hd => ?_)
    · refine gT 29 rfl hd rfl ?_
      replace hd := (eq_of_beq hd)
      replace h := h.1 hd
      refine gR 3 rfl ?_
      exact gJ (h K hK) [] [] rfl hK ⟨⟨_, rfl, .rfl⟩, ⟨_, rfl, .rfl⟩, ⟨_, rfl, .rfl⟩, trivial⟩ trivial rfl
    · refine gF 29 rfl hd rfl ?_
      replace hd := (ne_of_beq_false hd)
      replace h := h.2 hd
      refine gR 7 rfl ?_
      refine gB 28 rfl rfl rfl (fun hd => ?_) (fun hd => ?_)
      · refine gT 30 rfl hd rfl ?_
        replace hd := (eq_of_beq hd)
        replace h := h.1 hd
        refine gR 3 rfl ?_
        exact gJ (h K hK) [] [] rfl hK ⟨⟨_, rfl, .rfl⟩, ⟨_, rfl, .rfl⟩, ⟨_, rfl, .rfl⟩, trivial⟩ trivial rfl
      · refine gF 30 rfl hd rfl ?_
        replace hd := (ne_of_beq_false hd)
        replace h := h.2 hd
        refine gR 7 rfl ?_
        refine gB 28 rfl rfl rfl (fun hd => ?_) (fun hd => ?_)
        · refine gT 31 rfl hd rfl ?_
          replace hd := (eq_of_beq hd)
          replace h := h.1 hd
          refine gR 3 rfl ?_
          exact gJ (h K hK) [] [] rfl hK ⟨⟨_, rfl, .rfl⟩, ⟨_, rfl, .rfl⟩, ⟨_, rfl, .rfl⟩, trivial⟩ trivial rfl
        · refine gF 31 rfl hd rfl ?_
          replace hd := (ne_of_beq_false hd)
          replace h := h.2 hd
          refine gR 7 rfl ?_
          refine gB 28 rfl rfl rfl (fun hd => ?_) (fun hd => ?_)
          · refine gT 32 rfl hd rfl ?_
            replace hd := (eq_of_beq hd)
            replace h := h.1 hd
            refine gR 3 rfl ?_
            exact gJ (h K hK) [] [] rfl hK ⟨⟨_, rfl, .rfl⟩, ⟨_, rfl, .rfl⟩, ⟨_, rfl, .rfl⟩, trivial⟩ trivial rfl
          · refine gF 32 rfl hd rfl ?_
            replace hd := (ne_of_beq_false hd)
            replace h := h.2 hd
            refine gR 7 rfl ?_
            refine gB 28 rfl rfl rfl (fun hd => ?_) (fun hd => ?_)
            · refine gT 33 rfl hd rfl ?_
              replace hd := (eq_of_beq hd)
              replace h := h.1 hd
              refine gR 3 rfl ?_
              exact gJ (h K hK) [] [] rfl hK ⟨⟨_, rfl, .rfl⟩, ⟨_, rfl, .rfl⟩, ⟨_, rfl, .rfl⟩, trivial⟩ trivial rfl
            · refine gF 33 rfl hd rfl ?_
              replace hd := (ne_of_beq_false hd)
              replace h := h.2 hd
              refine gR 7 rfl ?_
              refine gB 28 rfl rfl rfl (fun hd => ?_) (fun hd => ?_)
              · refine gT 34 rfl hd rfl ?_
                replace hd := (eq_of_beq hd)
                replace h := h.1 hd
                refine gR 3 rfl ?_
                exact gJ (h K hK) [] [] rfl hK ⟨⟨_, rfl, .rfl⟩, ⟨_, rfl, .rfl⟩, ⟨_, rfl, .rfl⟩, trivial⟩ trivial rfl
              · refine gF 34 rfl hd rfl ?_
                replace hd := (ne_of_beq_false hd)
                replace h := h.2 hd
                refine gR 7 rfl ?_
                refine gB 28 rfl rfl rfl (fun hd => ?_) (fun hd => ?_)
                · refine gT 35 rfl hd rfl ?_
                  replace hd := (eq_of_beq hd)
                  replace h := h.1 hd
                  refine gR 3 rfl ?_
                  exact gJ (h K hK) [] [] rfl hK ⟨⟨_, rfl, .rfl⟩, ⟨_, rfl, .rfl⟩, ⟨_, rfl, .rfl⟩, trivial⟩ trivial rfl
                · refine gF 35 rfl hd rfl ?_
                  replace hd := (ne_of_beq_false hd)
                  replace h := h.2 hd
                  refine gR 7 rfl ?_
                  refine gB 28 rfl rfl rfl (fun hd => ?_) (fun hd => ?_)
                  · refine gT 36 rfl hd rfl ?_
                    replace hd := (eq_of_beq hd)
                    replace h := h.1 hd
                    refine gR 3 rfl ?_
                    exact gJ (h K hK) [] [] rfl hK ⟨⟨_, rfl, .rfl⟩, ⟨_, rfl, .rfl⟩, ⟨_, rfl, .rfl⟩, trivial⟩ trivial rfl
                  · refine gF 36 rfl hd rfl ?_
                    replace hd := (ne_of_beq_false hd)
                    replace h := h.2 hd
                    refine gR 7 rfl ?_
                    refine gB 28 rfl rfl rfl (fun hd => ?_) (fun hd => ?_)
                    · refine gT 37 rfl hd rfl ?_
                      replace hd := (eq_of_beq hd)
                      replace h := h.1 hd
                      refine gR 3 rfl ?_
                      exact gJ (h K hK) [] [] rfl hK ⟨⟨_, rfl, .rfl⟩, ⟨_, rfl, .rfl⟩, ⟨_, rfl, .rfl⟩, trivial⟩ trivial rfl
                    · refine gF 37 rfl hd rfl ?_
                      replace hd := (ne_of_beq_false hd)
                      replace h := h.2 hd
                      refine gR 6 rfl ?_
                      exact gJ (h K hK) [] [] rfl hK ⟨⟨_, rfl, .rfl⟩, ⟨_, rfl, .rfl⟩, ⟨_, rfl, .rfl⟩, trivial⟩ trivial rfl
theorem rL1_semvcsref02_Leads (m : Nat) (p0 : Int) (p1 : Int) (b2v1 : Bool) (r0 : Int) (h : ((b2v1 = true) → ∃ (n2_1 : Int), S_semvcsref02_only p1 0 1 n2_1 ∧ n2_1 = r0) ∧ ((b2v1 = false) → ((p0 = 16) → ((0 ≤ p1) → InI (p1 - 1) ∧ InI (3 + (max 0 (p1 - 1))) ∧ (3 + (max 0 (p1 - 1))) = r0) ∧ ((¬ 0 ≤ p1) → (-1) = r0)) ∧ ((p0 ≠ 16) → ((p0 = 17) → ∃ (n2_2 : Int), S_semvcsref02_only p1 1 0 n2_2 ∧ n2_2 = r0) ∧ ((p0 ≠ 17) → ((p0 = 18) → ((1 ≤ p1) → InI (1 + p1) ∧ (1 + p1) = r0) ∧ ((¬ 1 ≤ p1) → (-1) = r0)) ∧ ((p0 ≠ 18) → ((p0 = 19) → ∃ (n2_3 : Int), S_semvcsref02_only p1 3 3 n2_3 ∧ n2_3 = r0) ∧ ((p0 ≠ 19) → ((p0 = 20) → ∃ (n2_4 : Int), S_semvcsref02_only p1 2 4 n2_4 ∧ n2_4 = r0) ∧ ((p0 ≠ 20) → ((p0 = 21) → ∃ (n2_5 : Int), S_semvcsref02_only p1 2 1 n2_5 ∧ n2_5 = r0) ∧ ((p0 ≠ 21) → (-1) = r0)))))))) : L1_semvcsref02_Leads (m + 1) p0 p1 b2v1 r0 := by
  intro K hK
  refine gB 28 rfl rfl rfl (fun hd => ?_) (fun hd => ?_)
  · skip
    replace h := h.1 hd
    refine gR 4 rfl ?_
    obtain ⟨n2_1, hs22, h⟩ := h
    refine gC0 hs22 (by kernel_rfl) rfl rfl .rfl rfl ?_
    refine gR 6 rfl ?_
    subst h
    refine go_sub (F' := (mkF 71 0 [(4, .int .i64 n2_1)])) (H' := ⟨0, []⟩) [] [] rfl hK ⟨⟨_, rfl, .rfl⟩, trivial⟩ trivial rfl ?_
    exact go_end tabS_ok (rs := [.tmp 4]) rfl rfl rfl
  · skip
    replace h := h.2 hd
    refine gR 7 rfl ?_
    refine gB 41 rfl rfl rfl (fun hd => ?_) (fun hd => ?_)
    · refine gT 42 rfl hd rfl ?_
      replace hd := (eq_of_beq hd)
      replace h := h.1 hd
      refine gR 7 rfl ?_
      refine gB 44 rfl rfl rfl (fun hd => ?_) (fun hd => ?_)
      · replace hd := (of_decide_eq_true hd)
        replace h := h.1 hd
        refine gR 4 rfl ?_
        obtain ⟨hb, h⟩ := h
        refine gR 1 rfl ?_
        refine gV 46 (.int .i64 (p1 - 1)) rfl (wrapI hb rfl) rfl ?_
        refine gR 1 rfl ?_
        obtain ⟨hb, h⟩ := h
        refine gR 1 rfl ?_
        refine gV 48 (.int .i64 (3 + (max 0 (p1 - 1)))) rfl (wrapI hb rfl) rfl ?_
        refine gR 6 rfl ?_
        subst h
        refine go_sub (F' := (mkF 71 0 [(4, .int .i64 (3 + (max 0 (p1 - 1))))])) (H' := ⟨0, []⟩) [] [] rfl hK ⟨⟨_, rfl, .rfl⟩, trivial⟩ trivial rfl ?_
        exact go_end tabS_ok (rs := [.tmp 4]) rfl rfl rfl
      · replace hd := (of_decide_eq_false hd)
        replace h := h.2 hd
        refine gR 10 rfl ?_
        subst h
        refine go_sub (F' := (mkF 71 0 [(4, .int .i64 (-1))])) (H' := ⟨0, []⟩) [] [] rfl hK ⟨⟨_, rfl, .rfl⟩, trivial⟩ trivial rfl ?_
        exact go_end tabS_ok (rs := [.tmp 4]) rfl rfl rfl
    · refine gF 42 rfl hd rfl ?_
      replace hd := (ne_of_beq_false hd)
      replace h := h.2 hd
      refine gR 7 rfl ?_
      refine gB 49 rfl rfl rfl (fun hd => ?_) (fun hd => ?_)
      · refine gT 50 rfl hd rfl ?_
        replace hd := (eq_of_beq hd)
        replace h := h.1 hd
        refine gR 4 rfl ?_
        obtain ⟨n2_2, hs23, h⟩ := h
        refine gC0 hs23 (by kernel_rfl) rfl rfl .rfl rfl ?_
        refine gR 6 rfl ?_
        subst h
        refine go_sub (F' := (mkF 71 0 [(4, .int .i64 n2_2)])) (H' := ⟨0, []⟩) [] [] rfl hK ⟨⟨_, rfl, .rfl⟩, trivial⟩ trivial rfl ?_
        exact go_end tabS_ok (rs := [.tmp 4]) rfl rfl rfl
      · refine gF 50 rfl hd rfl ?_
        replace hd := (ne_of_beq_false hd)
        replace h := h.2 hd
        refine gR 7 rfl ?_
        refine gB 53 rfl rfl rfl (fun hd => ?_) (fun hd => ?_)
        · refine gT 54 rfl hd rfl ?_
          replace hd := (eq_of_beq hd)
          replace h := h.1 hd
          refine gR 7 rfl ?_
          refine gB 56 rfl rfl rfl (fun hd => ?_) (fun hd => ?_)
          · replace hd := (of_decide_eq_true hd)
            replace h := h.1 hd
            refine gR 4 rfl ?_
            obtain ⟨hb, h⟩ := h
            refine gR 1 rfl ?_
            refine gV 58 (.int .i64 (1 + p1)) rfl (wrapI hb rfl) rfl ?_
            refine gR 6 rfl ?_
            subst h
            refine go_sub (F' := (mkF 71 0 [(4, .int .i64 (1 + p1))])) (H' := ⟨0, []⟩) [] [] rfl hK ⟨⟨_, rfl, .rfl⟩, trivial⟩ trivial rfl ?_
            exact go_end tabS_ok (rs := [.tmp 4]) rfl rfl rfl
          · replace hd := (of_decide_eq_false hd)
            replace h := h.2 hd
            refine gR 10 rfl ?_
            subst h
            refine go_sub (F' := (mkF 71 0 [(4, .int .i64 (-1))])) (H' := ⟨0, []⟩) [] [] rfl hK ⟨⟨_, rfl, .rfl⟩, trivial⟩ trivial rfl ?_
            exact go_end tabS_ok (rs := [.tmp 4]) rfl rfl rfl
        · refine gF 54 rfl hd rfl ?_
          replace hd := (ne_of_beq_false hd)
          replace h := h.2 hd
          refine gR 7 rfl ?_
          refine gB 59 rfl rfl rfl (fun hd => ?_) (fun hd => ?_)
          · refine gT 60 rfl hd rfl ?_
            replace hd := (eq_of_beq hd)
            replace h := h.1 hd
            refine gR 4 rfl ?_
            obtain ⟨n2_3, hs24, h⟩ := h
            refine gC0 hs24 (by kernel_rfl) rfl rfl .rfl rfl ?_
            refine gR 6 rfl ?_
            subst h
            refine go_sub (F' := (mkF 71 0 [(4, .int .i64 n2_3)])) (H' := ⟨0, []⟩) [] [] rfl hK ⟨⟨_, rfl, .rfl⟩, trivial⟩ trivial rfl ?_
            exact go_end tabS_ok (rs := [.tmp 4]) rfl rfl rfl
          · refine gF 60 rfl hd rfl ?_
            replace hd := (ne_of_beq_false hd)
            replace h := h.2 hd
            refine gR 7 rfl ?_
            refine gB 63 rfl rfl rfl (fun hd => ?_) (fun hd => ?_)
            · refine gT 64 rfl hd rfl ?_
              replace hd := (eq_of_beq hd)
              replace h := h.1 hd
              refine gR 4 rfl ?_
              obtain ⟨n2_4, hs25, h⟩ := h
              refine gC0 hs25 (by kernel_rfl) rfl rfl .rfl rfl ?_
              refine gR 6 rfl ?_
              subst h
              refine go_sub (F' := (mkF 71 0 [(4, .int .i64 n2_4)])) (H' := ⟨0, []⟩) [] [] rfl hK ⟨⟨_, rfl, .rfl⟩, trivial⟩ trivial rfl ?_
              exact go_end tabS_ok (rs := [.tmp 4]) rfl rfl rfl
            · refine gF 64 rfl hd rfl ?_
              replace hd := (ne_of_beq_false hd)
              replace h := h.2 hd
              refine gR 7 rfl ?_
              refine gB 67 rfl rfl rfl (fun hd => ?_) (fun hd => ?_)
              · refine gT 68 rfl hd rfl ?_
                replace hd := (eq_of_beq hd)
                replace h := h.1 hd
                refine gR 4 rfl ?_
                obtain ⟨n2_5, hs26, h⟩ := h
                refine gC0 hs26 (by kernel_rfl) rfl rfl .rfl rfl ?_
                refine gR 6 rfl ?_
                subst h
                refine go_sub (F' := (mkF 71 0 [(4, .int .i64 n2_5)])) (H' := ⟨0, []⟩) [] [] rfl hK ⟨⟨_, rfl, .rfl⟩, trivial⟩ trivial rfl ?_
                exact go_end tabS_ok (rs := [.tmp 4]) rfl rfl rfl
              · refine gF 68 rfl hd rfl ?_
                replace hd := (ne_of_beq_false hd)
                replace h := h.2 hd
                refine gR 10 rfl ?_
                subst h
                refine go_sub (F' := (mkF 71 0 [(4, .int .i64 (-1))])) (H' := ⟨0, []⟩) [] [] rfl hK ⟨⟨_, rfl, .rfl⟩, trivial⟩ trivial rfl ?_
                exact go_end tabS_ok (rs := [.tmp 4]) rfl rfl rfl
theorem rS_semvcsref02_only (m : Nat) (p0 : Int) (p1 : Int) (p2 : Int) (r0 : Int) (h : ((p0 = p1) → p2 = r0) ∧ ((p0 ≠ p1) → (-1) = r0)) : S_semvcsref02_only p0 p1 p2 r0 := by
  refine ⟨rfl, rfl, ?_⟩
  refine sum_enter 11 [] Tryz.func133 rfl rfl rfl (pv_of rfl) fun K hK => ?_
  refine gR 13 rfl ?_
  refine gB 9 rfl rfl rfl (fun hd => ?_) (fun hd => ?_)
  · replace hd := (eq_of_beq hd)
    replace h := h.1 hd
    refine gR 9 rfl ?_
    subst h
    refine go_sub (F' := (mkF 11 0 [(6, .int .i64 p2)])) (H' := ⟨0, []⟩) [] [] rfl hK ⟨⟨_, rfl, .rfl⟩, trivial⟩ trivial rfl ?_
    exact go_end tabS_ok (rs := [.tmp 6]) rfl rfl rfl
  · replace hd := (ne_of_beq_false hd)
    replace h := h.2 hd
    refine gR 9 rfl ?_
    subst h
    refine go_sub (F' := (mkF 11 0 [(6, .int .i64 (-1))])) (H' := ⟨0, []⟩) [] [] rfl hK ⟨⟨_, rfl, .rfl⟩, trivial⟩ trivial rfl ?_
    exact go_end tabS_ok (rs := [.tmp 6]) rfl rfl rfl
theorem rS_semvcsref02_IsType (m : Nat) (p0 : Int) (r0 : Bool) (h : ((5 ≤ p0) → decide (p0 ≤ 9) = r0) ∧ ((¬ 5 ≤ p0) → false = r0)) : S_semvcsref02_IsType p0 r0 := by
  refine ⟨rfl, rfl, ?_⟩
  refine sum_enter 9 [] Tryz.func136 rfl rfl rfl (pv_of rfl) fun K hK => ?_
  refine gR 10 rfl ?_
  refine gB 5 rfl rfl rfl (fun hd => ?_) (fun hd => ?_)
  · refine gT 4 rfl hd rfl ?_
    replace hd := (of_decide_eq_true hd)
    replace h := h.1 hd
    refine gR 7 rfl ?_
    subst h
    refine go_sub (F' := (mkF 9 0 [(2, .bool (decide (p0 ≤ 9)))])) (H' := ⟨0, []⟩) [] [] rfl hK ⟨⟨_, rfl, .rfl⟩, trivial⟩ trivial rfl ?_
    exact go_end tabS_ok (rs := [.tmp 2]) rfl rfl rfl
  · refine gF 4 rfl hd rfl ?_
    replace hd := (of_decide_eq_false hd)
    replace h := h.2 hd
    refine gR 7 rfl ?_
    subst h
    refine go_sub (F' := (mkF 9 0 [(2, .bool false)])) (H' := ⟨0, []⟩) [] [] rfl hK ⟨⟨_, rfl, .rfl⟩, trivial⟩ trivial rfl ?_
    exact go_end tabS_ok (rs := [.tmp 2]) rfl rfl rfl
theorem rS_semvcsref02_IsExpr (m : Nat) (p0 : Int) (r0 : Bool) (h : ((10 ≤ p0) → ((p0 ≤ 22) → (p0 != 17) = r0) ∧ ((¬ p0 ≤ 22) → false = r0)) ∧ ((¬ 10 ≤ p0) → false = r0)) : S_semvcsref02_IsExpr p0 r0 := by
  refine ⟨rfl, rfl, ?_⟩
  refine sum_enter 13 [] Tryz.func135 rfl rfl rfl (pv_of rfl) fun K hK => ?_
  refine gR 10 rfl ?_
  refine gB 5 rfl rfl rfl (fun hd => ?_) (fun hd => ?_)
  · refine gT 4 rfl hd rfl ?_
    replace hd := (of_decide_eq_true hd)
    replace h := h.1 hd
    refine gR 4 rfl ?_
    refine gB 9 rfl rfl rfl (fun hd => ?_) (fun hd => ?_)
    · refine gT 8 rfl hd rfl ?_
      replace hd := (of_decide_eq_true hd)
      replace h := h.1 hd
      refine gR 7 rfl ?_
      subst h
      refine go_sub (F' := (mkF 13 0 [(2, .bool (p0 != 17))])) (H' := ⟨0, []⟩) [] [] rfl hK ⟨⟨_, rfl, .rfl⟩, trivial⟩ trivial rfl ?_
      exact go_end tabS_ok (rs := [.tmp 2]) rfl rfl rfl
    · refine gF 8 rfl hd rfl ?_
      replace hd := (of_decide_eq_false hd)
      replace h := h.2 hd
      refine gR 7 rfl ?_
      subst h
      refine go_sub (F' := (mkF 13 0 [(2, .bool false)])) (H' := ⟨0, []⟩) [] [] rfl hK ⟨⟨_, rfl, .rfl⟩, trivial⟩ trivial rfl ?_
      exact go_end tabS_ok (rs := [.tmp 2]) rfl rfl rfl
  · refine gF 4 rfl hd rfl ?_
    replace hd := (of_decide_eq_false hd)
    replace h := h.2 hd
    refine gR 11 rfl ?_
    subst h
    refine go_sub (F' := (mkF 13 0 [(2, .bool false)])) (H' := ⟨0, []⟩) [] [] rfl hK ⟨⟨_, rfl, .rfl⟩, trivial⟩ trivial rfl ?_
    exact go_end tabS_ok (rs := [.tmp 2]) rfl rfl rfl
theorem rS_semvcsref02_IsUnit (m : Nat) (p0 : Int) (r0 : Bool) (h : ∃ (b0_1 : Bool), S_semvcsref02_IsExpr p0 b0_1 ∧ ((b0_1 = true) → ((p0 ≠ 19) → ((p0 ≠ 20) → (p0 != 21) = r0) ∧ ((p0 = 20) → false = r0)) ∧ ((p0 = 19) → false = r0)) ∧ ((b0_1 = false) → false = r0)) : S_semvcsref02_IsUnit p0 r0 := by
  refine ⟨rfl, rfl, ?_⟩
  refine sum_enter 17 [] Tryz.func137 rfl rfl rfl (pv_of rfl) fun K hK => ?_
  refine gR 8 rfl ?_
  obtain ⟨b0_1, hs2, h⟩ := h
  refine gC0 hs2 (by kernel_rfl) rfl rfl .rfl rfl ?_
  refine gR 1 rfl ?_
  refine gB 5 rfl rfl rfl (fun hd => ?_) (fun hd => ?_)
  · refine gT 4 rfl hd rfl ?_
    skip
    replace h := h.1 hd
    refine gR 4 rfl ?_
    refine gB 9 rfl rfl rfl (fun hd => ?_) (fun hd => ?_)
    · refine gT 8 rfl hd rfl ?_
      replace hd := (xneT hd)
      replace h := h.1 hd
      refine gR 4 rfl ?_
      refine gB 13 rfl rfl rfl (fun hd => ?_) (fun hd => ?_)
      · refine gT 12 rfl hd rfl ?_
        replace hd := (xneT hd)
        replace h := h.1 hd
        refine gR 7 rfl ?_
        subst h
        refine go_sub (F' := (mkF 17 0 [(2, .bool (p0 != 21))])) (H' := ⟨0, []⟩) [] [] rfl hK ⟨⟨_, rfl, .rfl⟩, trivial⟩ trivial rfl ?_
        exact go_end tabS_ok (rs := [.tmp 2]) rfl rfl rfl
      · refine gF 12 rfl hd rfl ?_
        replace hd := (bneFE hd)
        replace h := h.2 hd
        refine gR 7 rfl ?_
        subst h
        refine go_sub (F' := (mkF 17 0 [(2, .bool false)])) (H' := ⟨0, []⟩) [] [] rfl hK ⟨⟨_, rfl, .rfl⟩, trivial⟩ trivial rfl ?_
        exact go_end tabS_ok (rs := [.tmp 2]) rfl rfl rfl
    · refine gF 8 rfl hd rfl ?_
      replace hd := (bneFE hd)
      replace h := h.2 hd
      refine gR 11 rfl ?_
      subst h
      refine go_sub (F' := (mkF 17 0 [(2, .bool false)])) (H' := ⟨0, []⟩) [] [] rfl hK ⟨⟨_, rfl, .rfl⟩, trivial⟩ trivial rfl ?_
      exact go_end tabS_ok (rs := [.tmp 2]) rfl rfl rfl
  · refine gF 4 rfl hd rfl ?_
    skip
    replace h := h.2 hd
    refine gR 15 rfl ?_
    subst h
    refine go_sub (F' := (mkF 17 0 [(2, .bool false)])) (H' := ⟨0, []⟩) [] [] rfl hK ⟨⟨_, rfl, .rfl⟩, trivial⟩ trivial rfl ?_
    exact go_end tabS_ok (rs := [.tmp 2]) rfl rfl rfl
theorem rS_semvcsref02_IsOperator (m : Nat) (p0 : (List UInt8)) (r0 : Bool) (h : ((p0 = [43]) → true = r0) ∧ ((p0 ≠ [43]) → ((p0 = [45]) → true = r0) ∧ ((p0 ≠ [45]) → ((p0 = [42]) → true = r0) ∧ ((p0 ≠ [42]) → ((p0 = [60]) → true = r0) ∧ ((p0 ≠ [60]) → ((p0 = [61, 61]) → true = r0) ∧ ((p0 ≠ [61, 61]) → false = r0)))))) : S_semvcsref02_IsOperator p0 r0 := by
  refine ⟨rfl, rfl, ?_⟩
  refine sum_enter 10 [] Tryz.func134 rfl rfl rfl (pv_of rfl) fun K hK => ?_
  refine gR 19 rfl ?_
  refine gB 4 rfl rfl rfl (fun hd => ?_) (fun hd => ?_)
  · refine gT 5 rfl hd rfl ?_
    replace hd := (eq_of_beq hd)
    replace h := h.1 hd
    refine gR 12 rfl ?_
    subst h
    refine go_sub (F' := (mkF 10 0 [(2, .bool true)])) (H' := ⟨0, []⟩) [] [] rfl hK ⟨⟨_, rfl, .rfl⟩, trivial⟩ trivial rfl ?_
    exact go_end tabS_ok (rs := [.tmp 2]) rfl rfl rfl
  · refine gF 5 rfl hd rfl ?_
    replace hd := (ne_of_beq_false hd)
    replace h := h.2 hd
    refine gR 7 rfl ?_
    refine gB 4 rfl rfl rfl (fun hd => ?_) (fun hd => ?_)
    · refine gT 6 rfl hd rfl ?_
      replace hd := (eq_of_beq hd)
      replace h := h.1 hd
      refine gR 12 rfl ?_
      subst h
      refine go_sub (F' := (mkF 10 0 [(2, .bool true)])) (H' := ⟨0, []⟩) [] [] rfl hK ⟨⟨_, rfl, .rfl⟩, trivial⟩ trivial rfl ?_
      exact go_end tabS_ok (rs := [.tmp 2]) rfl rfl rfl
    · refine gF 6 rfl hd rfl ?_
      replace hd := (ne_of_beq_false hd)
      replace h := h.2 hd
      refine gR 7 rfl ?_
      refine gB 4 rfl rfl rfl (fun hd => ?_) (fun hd => ?_)
      · refine gT 7 rfl hd rfl ?_
        replace hd := (eq_of_beq hd)
        replace h := h.1 hd
        refine gR 12 rfl ?_
        subst h
        refine go_sub (F' := (mkF 10 0 [(2, .bool true)])) (H' := ⟨0, []⟩) [] [] rfl hK ⟨⟨_, rfl, .rfl⟩, trivial⟩ trivial rfl ?_
        exact go_end tabS_ok (rs := [.tmp 2]) rfl rfl rfl
      · refine gF 7 rfl hd rfl ?_
        replace hd := (ne_of_beq_false hd)
        replace h := h.2 hd
        refine gR 7 rfl ?_
        refine gB 4 rfl rfl rfl (fun hd => ?_) (fun hd => ?_)
        · refine gT 8 rfl hd rfl ?_
          replace hd := (eq_of_beq hd)
          replace h := h.1 hd
          refine gR 12 rfl ?_
          subst h
          refine go_sub (F' := (mkF 10 0 [(2, .bool true)])) (H' := ⟨0, []⟩) [] [] rfl hK ⟨⟨_, rfl, .rfl⟩, trivial⟩ trivial rfl ?_
          exact go_end tabS_ok (rs := [.tmp 2]) rfl rfl rfl
        · refine gF 8 rfl hd rfl ?_
          replace hd := (ne_of_beq_false hd)
          replace h := h.2 hd
          refine gR 6 rfl ?_
          refine gB 4 rfl rfl rfl (fun hd => ?_) (fun hd => ?_)
          · refine gT 9 rfl hd rfl ?_
            replace hd := (eq_of_beq hd)
            replace h := h.1 hd
            refine gR 9 rfl ?_
            subst h
            refine go_sub (F' := (mkF 10 0 [(2, .bool true)])) (H' := ⟨0, []⟩) [] [] rfl hK ⟨⟨_, rfl, .rfl⟩, trivial⟩ trivial rfl ?_
            exact go_end tabS_ok (rs := [.tmp 2]) rfl rfl rfl
          · refine gF 9 rfl hd rfl ?_
            replace hd := (ne_of_beq_false hd)
            replace h := h.2 hd
            refine gR 10 rfl ?_
            subst h
            refine go_sub (F' := (mkF 10 0 [(2, .bool false)])) (H' := ⟨0, []⟩) [] [] rfl hK ⟨⟨_, rfl, .rfl⟩, trivial⟩ trivial rfl ?_
            exact go_end tabS_ok (rs := [.tmp 2]) rfl rfl rfl
def L0_semvcsref02_TextFits (m : Nat) (p0 : Int) (p1 : (List UInt8)) (n0_1 : Int) (b1v1 : Bool) (r0 : Bool) : Prop := ∀ (K : Ctx), PinB K [] → Go Tryz.prog K (bodyPost Tryz.prog Tryz.f101 (SP K (fun u _ => u = .bool r0))) (.code (cB (cK (cB (cA (cB (cB (bodyC Tryz.f101)))))))) [.blk 0, .seq (cB (cB (cB (bodyC Tryz.f101))))] 51 (mkF 51 0 [(1, .str p1), (5, .int .i64 n0_1), (8, .int .i64 p0), (9, .bool b1v1)]) ⟨0, []⟩
def L1_semvcsref02_TextFits (m : Nat) (p0 : Int) (p1 : (List UInt8)) (n0_1 : Int) (b2v1 : Bool) (r0 : Bool) : Prop := ∀ (K : Ctx), PinB K [] → Go Tryz.prog K (bodyPost Tryz.prog Tryz.f101 (SP K (fun u _ => u = .bool r0))) (.code (cB (cE (cB (cK (cB (cA (cB (cB (bodyC Tryz.f101)))))))))) [.blk 0, .seq (cB (cB (cB (bodyC Tryz.f101))))] 51 (mkF 51 0 [(1, .str p1), (5, .int .i64 n0_1), (8, .int .i64 p0), (14, .bool b2v1)]) ⟨0, []⟩
theorem rS_semvcsref02_TextFits (m : Nat) (p0 : Int) (p1 : (List UInt8)) (r0 : Bool) (h : ∃ (n0_1 : Int), S_semvcsref01_Class p1 n0_1 ∧ ((p0 = 1) → L0_semvcsref02_TextFits m p0 p1 n0_1 true r0) ∧ ((p0 ≠ 1) → L0_semvcsref02_TextFits m p0 p1 n0_1 (p0 == 3) r0)) : S_semvcsref02_TextFits p0 p1 r0 := by
  refine ⟨rfl, rfl, ?_⟩
  refine sum_enter 51 [] Tryz.func101 rfl rfl rfl (pv_of rfl) fun K hK => ?_
  refine gR 8 rfl ?_
  obtain ⟨n0_1, hs7, h⟩ := h
  refine gC0 hs7 (by kernel_rfl) rfl rfl .rfl rfl ?_
  refine gR 17 rfl ?_
  refine gB 9 rfl rfl rfl (fun hd => ?_) (fun hd => ?_)
  · refine gT 10 rfl hd rfl ?_
    replace hd := (eq_of_beq hd)
    replace h := h.1 hd
    refine gR 3 rfl ?_
    exact gJ (h K hK) [] [] rfl hK ⟨⟨_, rfl, .rfl⟩, ⟨_, rfl, .rfl⟩, ⟨_, rfl, .rfl⟩, ⟨_, rfl, .rfl⟩, trivial⟩ trivial rfl
  · refine gF 10 rfl hd rfl ?_
    replace hd := (ne_of_beq_false hd)
    replace h := h.2 hd
    refine gR 6 rfl ?_
    exact gJ (h K hK) [] [] rfl hK ⟨⟨_, rfl, .rfl⟩, ⟨_, rfl, .rfl⟩, ⟨_, rfl, .rfl⟩, ⟨_, rfl, .rfl⟩, trivial⟩ trivial rfl
theorem rL0_semvcsref02_TextFits (m : Nat) (p0 : Int) (p1 : (List UInt8)) (n0_1 : Int) (b1v1 : Bool) (r0 : Bool) (h : ((b1v1 = true) → (n0_1 == 2) = r0) ∧ ((b1v1 = false) → ((p0 = 2) → L1_semvcsref02_TextFits m p0 p1 n0_1 true r0) ∧ ((p0 ≠ 2) → ((p0 = 4) → L1_semvcsref02_TextFits m p0 p1 n0_1 true r0) ∧ ((p0 ≠ 4) → ((p0 = 12) → L1_semvcsref02_TextFits m p0 p1 n0_1 true r0) ∧ ((p0 ≠ 12) → L1_semvcsref02_TextFits m p0 p1 n0_1 (p0 == 20) r0))))) : L0_semvcsref02_TextFits (m + 1) p0 p1 n0_1 b1v1 r0 := by
  intro K hK
  refine gB 9 rfl rfl rfl (fun hd => ?_) (fun hd => ?_)
  · skip
    replace h := h.1 hd
    refine gR 11 rfl ?_
    subst h
    refine go_sub (F' := (mkF 51 0 [(4, .bool (n0_1 == 2))])) (H' := ⟨0, []⟩) [] [] rfl hK ⟨⟨_, rfl, .rfl⟩, trivial⟩ trivial rfl ?_
    exact go_end tabS_ok (rs := [.tmp 4]) rfl rfl rfl
  · skip
    replace h := h.2 hd
    refine gR 8 rfl ?_
    refine gB 14 rfl rfl rfl (fun hd => ?_) (fun hd => ?_)
    · refine gT 15 rfl hd rfl ?_
      replace hd := (eq_of_beq hd)
      replace h := h.1 hd
      refine gR 3 rfl ?_
      exact gJ (h K hK) [] [] rfl hK ⟨⟨_, rfl, .rfl⟩, ⟨_, rfl, .rfl⟩, ⟨_, rfl, .rfl⟩, ⟨_, rfl, .rfl⟩, trivial⟩ trivial rfl
    · refine gF 15 rfl hd rfl ?_
      replace hd := (ne_of_beq_false hd)
      replace h := h.2 hd
      refine gR 7 rfl ?_
      refine gB 14 rfl rfl rfl (fun hd => ?_) (fun hd => ?_)
      · refine gT 16 rfl hd rfl ?_
        replace hd := (eq_of_beq hd)
        replace h := h.1 hd
        refine gR 3 rfl ?_
        exact gJ (h K hK) [] [] rfl hK ⟨⟨_, rfl, .rfl⟩, ⟨_, rfl, .rfl⟩, ⟨_, rfl, .rfl⟩, ⟨_, rfl, .rfl⟩, trivial⟩ trivial rfl
      · refine gF 16 rfl hd rfl ?_
        replace hd := (ne_of_beq_false hd)
        replace h := h.2 hd
        refine gR 7 rfl ?_
        refine gB 14 rfl rfl rfl (fun hd => ?_) (fun hd => ?_)
        · refine gT 17 rfl hd rfl ?_
          replace hd := (eq_of_beq hd)
          replace h := h.1 hd
          refine gR 3 rfl ?_
          exact gJ (h K hK) [] [] rfl hK ⟨⟨_, rfl, .rfl⟩, ⟨_, rfl, .rfl⟩, ⟨_, rfl, .rfl⟩, ⟨_, rfl, .rfl⟩, trivial⟩ trivial rfl
        · refine gF 17 rfl hd rfl ?_
          replace hd := (ne_of_beq_false hd)
          replace h := h.2 hd
          refine gR 6 rfl ?_
          exact gJ (h K hK) [] [] rfl hK ⟨⟨_, rfl, .rfl⟩, ⟨_, rfl, .rfl⟩, ⟨_, rfl, .rfl⟩, ⟨_, rfl, .rfl⟩, trivial⟩ trivial rfl
theorem rL1_semvcsref02_TextFits (m : Nat) (p0 : Int) (p1 : (List UInt8)) (n0_1 : Int) (b2v1 : Bool) (r0 : Bool) (h : ((b2v1 = true) → (n0_1 == 1) = r0) ∧ ((b2v1 = false) → ((p0 = 9) → ((n0_1 = 2) → true = r0) ∧ ((n0_1 ≠ 2) → (n0_1 == 4) = r0)) ∧ ((p0 ≠ 9) → ((p0 = 16) → ((n0_1 = 1) → true = r0) ∧ ((n0_1 ≠ 1) → (n0_1 == 3) = r0)) ∧ ((p0 ≠ 16) → ((p0 = 10) → (n0_1 == 5) = r0) ∧ ((p0 ≠ 10) → ((p0 = 11) → (n0_1 == 6) = r0) ∧ ((p0 ≠ 11) → ((p0 = 21) → ∃ (b2_1 : Bool), S_semvcsref02_IsOperator p1 b2_1 ∧ b2_1 = r0) ∧ ((p0 ≠ 21) → (p1 == []) = r0))))))) : L1_semvcsref02_TextFits (m + 1) p0 p1 n0_1 b2v1 r0 := by
  intro K hK
  refine gB 14 rfl rfl rfl (fun hd => ?_) (fun hd => ?_)
  · skip
    replace h := h.1 hd
    refine gR 11 rfl ?_
    subst h
    refine go_sub (F' := (mkF 51 0 [(4, .bool (n0_1 == 1))])) (H' := ⟨0, []⟩) [] [] rfl hK ⟨⟨_, rfl, .rfl⟩, trivial⟩ trivial rfl ?_
    exact go_end tabS_ok (rs := [.tmp 4]) rfl rfl rfl
  · skip
    replace h := h.2 hd
    refine gR 7 rfl ?_
    refine gB 21 rfl rfl rfl (fun hd => ?_) (fun hd => ?_)
    · refine gT 22 rfl hd rfl ?_
      replace hd := (eq_of_beq hd)
      replace h := h.1 hd
      refine gR 6 rfl ?_
      refine gB 25 rfl rfl rfl (fun hd => ?_) (fun hd => ?_)
      · refine gT 24 rfl hd rfl ?_
        replace hd := (eq_of_beq hd)
        replace h := h.1 hd
        refine gR 9 rfl ?_
        subst h
        refine go_sub (F' := (mkF 51 0 [(4, .bool true)])) (H' := ⟨0, []⟩) [] [] rfl hK ⟨⟨_, rfl, .rfl⟩, trivial⟩ trivial rfl ?_
        exact go_end tabS_ok (rs := [.tmp 4]) rfl rfl rfl
      · refine gF 24 rfl hd rfl ?_
        replace hd := (ne_of_beq_false hd)
        replace h := h.2 hd
        refine gR 9 rfl ?_
        subst h
        refine go_sub (F' := (mkF 51 0 [(4, .bool (n0_1 == 4))])) (H' := ⟨0, []⟩) [] [] rfl hK ⟨⟨_, rfl, .rfl⟩, trivial⟩ trivial rfl ?_
        exact go_end tabS_ok (rs := [.tmp 4]) rfl rfl rfl
    · refine gF 22 rfl hd rfl ?_
      replace hd := (ne_of_beq_false hd)
      replace h := h.2 hd
      refine gR 7 rfl ?_
      refine gB 29 rfl rfl rfl (fun hd => ?_) (fun hd => ?_)
      · refine gT 30 rfl hd rfl ?_
        replace hd := (eq_of_beq hd)
        replace h := h.1 hd
        refine gR 6 rfl ?_
        refine gB 33 rfl rfl rfl (fun hd => ?_) (fun hd => ?_)
        · refine gT 32 rfl hd rfl ?_
          replace hd := (eq_of_beq hd)
          replace h := h.1 hd
          refine gR 9 rfl ?_
          subst h
          refine go_sub (F' := (mkF 51 0 [(4, .bool true)])) (H' := ⟨0, []⟩) [] [] rfl hK ⟨⟨_, rfl, .rfl⟩, trivial⟩ trivial rfl ?_
          exact go_end tabS_ok (rs := [.tmp 4]) rfl rfl rfl
        · refine gF 32 rfl hd rfl ?_
          replace hd := (ne_of_beq_false hd)
          replace h := h.2 hd
          refine gR 9 rfl ?_
          subst h
          refine go_sub (F' := (mkF 51 0 [(4, .bool (n0_1 == 3))])) (H' := ⟨0, []⟩) [] [] rfl hK ⟨⟨_, rfl, .rfl⟩, trivial⟩ trivial rfl ?_
          exact go_end tabS_ok (rs := [.tmp 4]) rfl rfl rfl
      · refine gF 30 rfl hd rfl ?_
        replace hd := (ne_of_beq_false hd)
        replace h := h.2 hd
        refine gR 7 rfl ?_
        refine gB 37 rfl rfl rfl (fun hd => ?_) (fun hd => ?_)
        · refine gT 38 rfl hd rfl ?_
          replace hd := (eq_of_beq hd)
          replace h := h.1 hd
          refine gR 11 rfl ?_
          subst h
          refine go_sub (F' := (mkF 51 0 [(4, .bool (n0_1 == 5))])) (H' := ⟨0, []⟩) [] [] rfl hK ⟨⟨_, rfl, .rfl⟩, trivial⟩ trivial rfl ?_
          exact go_end tabS_ok (rs := [.tmp 4]) rfl rfl rfl
        · refine gF 38 rfl hd rfl ?_
          replace hd := (ne_of_beq_false hd)
          replace h := h.2 hd
          refine gR 7 rfl ?_
          refine gB 41 rfl rfl rfl (fun hd => ?_) (fun hd => ?_)
          · refine gT 42 rfl hd rfl ?_
            replace hd := (eq_of_beq hd)
            replace h := h.1 hd
            refine gR 11 rfl ?_
            subst h
            refine go_sub (F' := (mkF 51 0 [(4, .bool (n0_1 == 6))])) (H' := ⟨0, []⟩) [] [] rfl hK ⟨⟨_, rfl, .rfl⟩, trivial⟩ trivial rfl ?_
            exact go_end tabS_ok (rs := [.tmp 4]) rfl rfl rfl
          · refine gF 42 rfl hd rfl ?_
            replace hd := (ne_of_beq_false hd)
            replace h := h.2 hd
            refine gR 7 rfl ?_
            refine gB 45 rfl rfl rfl (fun hd => ?_) (fun hd => ?_)
            · refine gT 46 rfl hd rfl ?_
              replace hd := (eq_of_beq hd)
              replace h := h.1 hd
              refine gR 4 rfl ?_
              obtain ⟨b2_1, hs8, h⟩ := h
              refine gC0 hs8 (by kernel_rfl) rfl rfl .rfl rfl ?_
              refine gR 6 rfl ?_
              subst h
              refine go_sub (F' := (mkF 51 0 [(4, .bool b2_1)])) (H' := ⟨0, []⟩) [] [] rfl hK ⟨⟨_, rfl, .rfl⟩, trivial⟩ trivial rfl ?_
              exact go_end tabS_ok (rs := [.tmp 4]) rfl rfl rfl
            · refine gF 46 rfl hd rfl ?_
              replace hd := (ne_of_beq_false hd)
              replace h := h.2 hd
              refine gR 12 rfl ?_
              subst h
              refine go_sub (F' := (mkF 51 0 [(4, .bool (p1 == []))])) (H' := ⟨0, []⟩) [] [] rfl hK ⟨⟨_, rfl, .rfl⟩, trivial⟩ trivial rfl ?_
              exact go_end tabS_ok (rs := [.tmp 4]) rfl rfl rfl
def L0_semvcsref02_kid (m : Nat) (p0 : Tree) (p1 : Int) (p2 : Int) (b1v1 : Bool) (r0 : Bool) : Prop := ∀ (K : Ctx), PinB K [] → Go Tryz.prog K (bodyPost Tryz.prog Tryz.f102 (SP K (fun u _ => u = .bool r0))) (.code (cB (cE (cB (cE (cB (cK (cB (cA (cB (cB (bodyC Tryz.f102)))))))))))) [.blk 0, .seq (cB (cB (cB (bodyC Tryz.f102))))] 62 (mkF 62 0 [(1, .int .i64 p1), (2, .int .i64 p2), (12, .int .i64 p0.kind), (38, .bool b1v1)]) ⟨0, []⟩
theorem rS_semvcsref02_kid (m : Nat) (p0 : Tree) (p1 : Int) (p2 : Int) (r0 : Bool) (h : ((p0.kind = 1) → ((p2 = 2) → true = r0) ∧ ((p2 ≠ 2) → (p2 == 3) = r0)) ∧ ((p0.kind ≠ 1) → ((p0.kind = 2) → ((p1 = (((p0.kids.length : Nat) : Int) - 1)) → ∃ (b0_1 : Bool), S_semvcsref02_IsExpr p2 b0_1 ∧ b0_1 = r0) ∧ ((p1 ≠ (((p0.kids.length : Nat) : Int) - 1)) → ((p1 = (((p0.kids.length : Nat) : Int) - 2)) → ∃ (b0_2 : Bool), S_semvcsref02_IsType p2 b0_2 ∧ b0_2 = r0) ∧ ((p1 ≠ (((p0.kids.length : Nat) : Int) - 2)) → (p2 == 4) = r0))) ∧ ((p0.kind ≠ 2) → ((p0.kind = 3) → L0_semvcsref02_kid m p0 p1 p2 true r0) ∧ ((p0.kind ≠ 3) → ((p0.kind = 4) → L0_semvcsref02_kid m p0 p1 p2 true r0) ∧ ((p0.kind ≠ 4) → L0_semvcsref02_kid m p0 p1 p2 (p0.kind == 8) r0))))) : S_semvcsref02_kid p0 p1 p2 r0 := by
  refine ⟨rfl, rfl, ?_⟩
  refine sum_enter 62 [] Tryz.func102 rfl rfl rfl (pv_of rfl) fun K hK => ?_
  refine gR 3 rfl ?_
  refine gFP 0 rfl rfl rfl rfl ?_
  refine gR 8 rfl ?_
  refine gV 10 (.int .i64 ((p0.kids.length : Nat) : Int)) rfl (lenI (lenK _)) rfl ?_
  refine gLB 9 rfl (lenK _) fun hl17 => ?_
  refine gR 17 rfl ?_
  refine gB 13 rfl rfl rfl (fun hd => ?_) (fun hd => ?_)
  · refine gT 14 rfl hd rfl ?_
    replace hd := (eq_of_beq hd)
    replace h := h.1 hd
    refine gR 6 rfl ?_
    refine gB 17 rfl rfl rfl (fun hd => ?_) (fun hd => ?_)
    · refine gT 16 rfl hd rfl ?_
      replace hd := (eq_of_beq hd)
      replace h := h.1 hd
      refine gR 9 rfl ?_
      subst h
      refine go_sub (F' := (mkF 62 0 [(6, .bool true)])) (H' := ⟨0, []⟩) [] [] rfl hK ⟨⟨_, rfl, .rfl⟩, trivial⟩ trivial rfl ?_
      exact go_end tabS_ok (rs := [.tmp 6]) rfl rfl rfl
    · refine gF 16 rfl hd rfl ?_
      replace hd := (ne_of_beq_false hd)
      replace h := h.2 hd
      refine gR 9 rfl ?_
      subst h
      refine go_sub (F' := (mkF 62 0 [(6, .bool (p2 == 3))])) (H' := ⟨0, []⟩) [] [] rfl hK ⟨⟨_, rfl, .rfl⟩, trivial⟩ trivial rfl ?_
      exact go_end tabS_ok (rs := [.tmp 6]) rfl rfl rfl
  · refine gF 14 rfl hd rfl ?_
    replace hd := (ne_of_beq_false hd)
    replace h := h.2 hd
    refine gR 7 rfl ?_
    refine gB 21 rfl rfl rfl (fun hd => ?_) (fun hd => ?_)
    · refine gT 22 rfl hd rfl ?_
      replace hd := (eq_of_beq hd)
      replace h := h.1 hd
      refine gR 12 rfl ?_
      refine gV 26 (.int .i64 (((p0.kids.length : Nat) : Int) - 1)) rfl (wrapI (by have := hl17; omega) rfl) rfl ?_
      refine gR 4 rfl ?_
      refine gB 24 rfl rfl rfl (fun hd => ?_) (fun hd => ?_)
      · refine gT 27 rfl hd rfl ?_
        replace hd := (eq_of_beq hd)
        replace h := h.1 hd
        refine gR 4 rfl ?_
        obtain ⟨b0_1, hs18, h⟩ := h
        refine gC0 hs18 (by kernel_rfl) rfl rfl .rfl rfl ?_
        refine gR 8 rfl ?_
        subst h
        refine go_sub (F' := (mkF 62 0 [(6, .bool b0_1)])) (H' := ⟨0, []⟩) [] [] rfl hK ⟨⟨_, rfl, .rfl⟩, trivial⟩ trivial rfl ?_
        exact go_end tabS_ok (rs := [.tmp 6]) rfl rfl rfl
      · refine gF 27 rfl hd rfl ?_
        replace hd := (ne_of_beq_false hd)
        replace h := h.2 hd
        refine gR 5 rfl ?_
        refine gV 32 (.int .i64 (((p0.kids.length : Nat) : Int) - 2)) rfl (wrapI (by have := hl17; omega) rfl) rfl ?_
        refine gR 4 rfl ?_
        refine gB 30 rfl rfl rfl (fun hd => ?_) (fun hd => ?_)
        · refine gT 33 rfl hd rfl ?_
          replace hd := (eq_of_beq hd)
          replace h := h.1 hd
          refine gR 4 rfl ?_
          obtain ⟨b0_2, hs19, h⟩ := h
          refine gC0 hs19 (by kernel_rfl) rfl rfl .rfl rfl ?_
          refine gR 8 rfl ?_
          subst h
          refine go_sub (F' := (mkF 62 0 [(6, .bool b0_2)])) (H' := ⟨0, []⟩) [] [] rfl hK ⟨⟨_, rfl, .rfl⟩, trivial⟩ trivial rfl ?_
          exact go_end tabS_ok (rs := [.tmp 6]) rfl rfl rfl
        · refine gF 33 rfl hd rfl ?_
          replace hd := (ne_of_beq_false hd)
          replace h := h.2 hd
          refine gR 14 rfl ?_
          subst h
          refine go_sub (F' := (mkF 62 0 [(6, .bool (p2 == 4))])) (H' := ⟨0, []⟩) [] [] rfl hK ⟨⟨_, rfl, .rfl⟩, trivial⟩ trivial rfl ?_
          exact go_end tabS_ok (rs := [.tmp 6]) rfl rfl rfl
    · refine gF 22 rfl hd rfl ?_
      replace hd := (ne_of_beq_false hd)
      replace h := h.2 hd
      refine gR 8 rfl ?_
      refine gB 38 rfl rfl rfl (fun hd => ?_) (fun hd => ?_)
      · refine gT 39 rfl hd rfl ?_
        replace hd := (eq_of_beq hd)
        replace h := h.1 hd
        refine gR 3 rfl ?_
        exact gJ (h K hK) [] [] rfl hK ⟨⟨_, rfl, .rfl⟩, ⟨_, rfl, .rfl⟩, ⟨_, rfl, .rfl⟩, ⟨_, rfl, .rfl⟩, trivial⟩ trivial rfl
      · refine gF 39 rfl hd rfl ?_
        replace hd := (ne_of_beq_false hd)
        replace h := h.2 hd
        refine gR 7 rfl ?_
        refine gB 38 rfl rfl rfl (fun hd => ?_) (fun hd => ?_)
        · refine gT 40 rfl hd rfl ?_
          replace hd := (eq_of_beq hd)
          replace h := h.1 hd
          refine gR 3 rfl ?_
          exact gJ (h K hK) [] [] rfl hK ⟨⟨_, rfl, .rfl⟩, ⟨_, rfl, .rfl⟩, ⟨_, rfl, .rfl⟩, ⟨_, rfl, .rfl⟩, trivial⟩ trivial rfl
        · refine gF 40 rfl hd rfl ?_
          replace hd := (ne_of_beq_false hd)
          replace h := h.2 hd
          refine gR 6 rfl ?_
          exact gJ (h K hK) [] [] rfl hK ⟨⟨_, rfl, .rfl⟩, ⟨_, rfl, .rfl⟩, ⟨_, rfl, .rfl⟩, ⟨_, rfl, .rfl⟩, trivial⟩ trivial rfl
theorem rL0_semvcsref02_kid (m : Nat) (p0 : Tree) (p1 : Int) (p2 : Int) (b1v1 : Bool) (r0 : Bool) (h : ((b1v1 = true) → ∃ (b1_1 : Bool), S_semvcsref02_IsType p2 b1_1 ∧ b1_1 = r0) ∧ ((b1v1 = false) → ((p0.kind = 16) → (p2 == 17) = r0) ∧ ((p0.kind ≠ 16) → ((p0.kind = 21) → ∃ (b1_2 : Bool), S_semvcsref02_IsUnit p2 b1_2 ∧ ((b1_2 = true) → true = r0) ∧ ((b1_2 = false) → ((p1 = 0) → (p2 == 21) = r0) ∧ ((p1 ≠ 0) → false = r0))) ∧ ((p0.kind ≠ 21) → ∃ (b1_3 : Bool), S_semvcsref02_IsExpr p2 b1_3 ∧ b1_3 = r0)))) : L0_semvcsref02_kid (m + 1) p0 p1 p2 b1v1 r0 := by
  intro K hK
  refine gB 38 rfl rfl rfl (fun hd => ?_) (fun hd => ?_)
  · skip
    replace h := h.1 hd
    refine gR 4 rfl ?_
    obtain ⟨b1_1, hs20, h⟩ := h
    refine gC0 hs20 (by kernel_rfl) rfl rfl .rfl rfl ?_
    refine gR 6 rfl ?_
    subst h
    refine go_sub (F' := (mkF 62 0 [(6, .bool b1_1)])) (H' := ⟨0, []⟩) [] [] rfl hK ⟨⟨_, rfl, .rfl⟩, trivial⟩ trivial rfl ?_
    exact go_end tabS_ok (rs := [.tmp 6]) rfl rfl rfl
  · skip
    replace h := h.2 hd
    refine gR 7 rfl ?_
    refine gB 44 rfl rfl rfl (fun hd => ?_) (fun hd => ?_)
    · refine gT 45 rfl hd rfl ?_
      replace hd := (eq_of_beq hd)
      replace h := h.1 hd
      refine gR 11 rfl ?_
      subst h
      refine go_sub (F' := (mkF 62 0 [(6, .bool (p2 == 17))])) (H' := ⟨0, []⟩) [] [] rfl hK ⟨⟨_, rfl, .rfl⟩, trivial⟩ trivial rfl ?_
      exact go_end tabS_ok (rs := [.tmp 6]) rfl rfl rfl
    · refine gF 45 rfl hd rfl ?_
      replace hd := (ne_of_beq_false hd)
      replace h := h.2 hd
      refine gR 7 rfl ?_
      refine gB 48 rfl rfl rfl (fun hd => ?_) (fun hd => ?_)
      · refine gT 49 rfl hd rfl ?_
        replace hd := (eq_of_beq hd)
        replace h := h.1 hd
        refine gR 4 rfl ?_
        obtain ⟨b1_2, hs21, h⟩ := h
        refine gC0 hs21 (by kernel_rfl) rfl rfl .rfl rfl ?_
        refine gR 1 rfl ?_
        refine gB 52 rfl rfl rfl (fun hd => ?_) (fun hd => ?_)
        · refine gT 51 rfl hd rfl ?_
          skip
          replace h := h.1 hd
          refine gR 13 rfl ?_
          subst h
          refine go_sub (F' := (mkF 62 0 [(6, .bool true)])) (H' := ⟨0, []⟩) [] [] rfl hK ⟨⟨_, rfl, .rfl⟩, trivial⟩ trivial rfl ?_
          exact go_end tabS_ok (rs := [.tmp 6]) rfl rfl rfl
        · refine gF 51 rfl hd rfl ?_
          skip
          replace h := h.2 hd
          refine gR 3 rfl ?_
          refine gB 55 rfl rfl rfl (fun hd => ?_) (fun hd => ?_)
          · refine gT 54 rfl hd rfl ?_
            replace hd := (eq_of_beq hd)
            replace h := h.1 hd
            refine gR 10 rfl ?_
            subst h
            refine go_sub (F' := (mkF 62 0 [(6, .bool (p2 == 21))])) (H' := ⟨0, []⟩) [] [] rfl hK ⟨⟨_, rfl, .rfl⟩, trivial⟩ trivial rfl ?_
            exact go_end tabS_ok (rs := [.tmp 6]) rfl rfl rfl
          · refine gF 54 rfl hd rfl ?_
            replace hd := (ne_of_beq_false hd)
            replace h := h.2 hd
            refine gR 10 rfl ?_
            subst h
            refine go_sub (F' := (mkF 62 0 [(6, .bool false)])) (H' := ⟨0, []⟩) [] [] rfl hK ⟨⟨_, rfl, .rfl⟩, trivial⟩ trivial rfl ?_
            exact go_end tabS_ok (rs := [.tmp 6]) rfl rfl rfl
      · refine gF 49 rfl hd rfl ?_
        replace hd := (ne_of_beq_false hd)
        replace h := h.2 hd
        refine gR 7 rfl ?_
        obtain ⟨b1_3, hs22, h⟩ := h
        refine gC0 hs22 (by kernel_rfl) rfl rfl .rfl rfl ?_
        refine gR 4 rfl ?_
        subst h
        refine go_sub (F' := (mkF 62 0 [(6, .bool b1_3)])) (H' := ⟨0, []⟩) [] [] rfl hK ⟨⟨_, rfl, .rfl⟩, trivial⟩ trivial rfl ?_
        exact go_end tabS_ok (rs := [.tmp 6]) rfl rfl rfl
def L0_semvcsref02_Shaped (m : Nat) (p0 : Tree) (i1v1 : Nat) (r0 : Bool) : Prop := ∀ (K : Ctx) (j1 : Nat), PinB K [] → m ≤ j1 → Go Tryz.prog K (bodyPost Tryz.prog Tryz.f71 (SP K (fun u _ => u = .bool r0))) (.code (cL (cK (cB (cA (cB (cB (bodyC Tryz.f71)))))))) [.loop (cL (cK (cB (cA (cB (cB (bodyC Tryz.f71))))))) j1, .blk 0, .seq (cB (cB (cB (bodyC Tryz.f71))))] 45 (mkF 45 0 [(1, .box (treeC p0) 0), (3, .int .i64 ((i1v1 : Nat) : Int))]) ⟨0, []⟩
theorem rS_semvcsref02_Shaped (m : Nat) (p0 : Tree) (r0 : Bool) (h : ∃ (n0_1 : Int), S_semvcsref02_Leads p0.kind ((p0.kids.length : Nat) : Int) n0_1 ∧ ((n0_1 < 0) → false = r0) ∧ ((¬ n0_1 < 0) → ∃ (b0_2 : Bool), S_semvcsref02_TextFits p0.kind p0.text b0_2 ∧ ((b0_2 = false) → false = r0) ∧ ((b0_2 = true) → L0_semvcsref02_Shaped m p0 0 r0))) : S_semvcsref02_Shaped p0 r0 := by
  refine ⟨rfl, rfl, ?_⟩
  refine sum_enter 45 [] Tryz.func71 rfl rfl rfl (pv_of rfl) fun K hK => ?_
  refine gR 3 rfl ?_
  refine gFP 0 rfl rfl rfl rfl ?_
  refine gR 11 rfl ?_
  refine gV 8 (.int .i64 ((p0.kids.length : Nat) : Int)) rfl (lenI (lenK _)) rfl ?_
  refine gLB 7 rfl (lenK _) fun hl13 => ?_
  obtain ⟨n0_1, hs14, h⟩ := h
  refine gC0 hs14 (by kernel_rfl) rfl rfl .rfl rfl ?_
  refine gR 2 rfl ?_
  refine gB 11 rfl rfl rfl (fun hd => ?_) (fun hd => ?_)
  · refine gT 10 rfl hd rfl ?_
    replace hd := (of_decide_eq_true hd)
    replace h := h.1 hd
    refine gR 17 rfl ?_
    subst h
    refine go_sub (F' := (mkF 45 0 [(2, .bool false)])) (H' := ⟨0, []⟩) [] [] rfl hK ⟨⟨_, rfl, .rfl⟩, trivial⟩ trivial rfl ?_
    exact go_end tabS_ok (rs := [.tmp 2]) rfl rfl rfl
  · refine gF 10 rfl hd rfl ?_
    replace hd := (of_decide_eq_false hd)
    replace h := h.2 hd
    refine gR 4 rfl ?_
    obtain ⟨b0_2, hs15, h⟩ := h
    refine gC0 hs15 (by kernel_rfl) rfl rfl .rfl rfl ?_
    refine gR 4 rfl ?_
    refine gB 18 rfl rfl rfl (fun hd => ?_) (fun hd => ?_)
    · replace hd := (not_t hd)
      replace h := h.1 hd
      refine gR 8 rfl ?_
      subst h
      refine go_sub (F' := (mkF 45 0 [(2, .bool false)])) (H' := ⟨0, []⟩) [] [] rfl hK ⟨⟨_, rfl, .rfl⟩, trivial⟩ trivial rfl ?_
      exact go_end tabS_ok (rs := [.tmp 2]) rfl rfl rfl
    · replace hd := (not_f hd)
      replace h := h.2 hd
      refine gR 10 rfl ?_
      refine go_loop m ?_
      exact gJ (h K _ hK (by omega)) [] [] rfl hK ⟨⟨_, rfl, .rfl⟩, ⟨_, rfl, .rfl⟩, trivial⟩ trivial rfl
theorem rL0_semvcsref02_Shaped (m : Nat) (p0 : Tree) (i1v1 : Nat) (r0 : Bool) (h : ((i1v1 < p0.kids.length) → ∃ (t1_1 : Tree), p0.kids[i1v1]? = some t1_1 ∧ ∃ (b1_2 : Bool), S_semvcsref02_kid p0 ((i1v1 : Nat) : Int) t1_1.kind b1_2 ∧ ((b1_2 = false) → false = r0) ∧ ((b1_2 = true) → ∃ (t1_3 : Tree), p0.kids[i1v1]? = some t1_3 ∧ ∃ (b1_4 : Bool), S_semvcsref02_Shaped t1_3 b1_4 ∧ ((b1_4 = false) → false = r0) ∧ ((b1_4 = true) → L0_semvcsref02_Shaped m p0 (i1v1 + 1) r0))) ∧ ((¬ i1v1 < p0.kids.length) → true = r0)) : L0_semvcsref02_Shaped (m + 1) p0 i1v1 r0 := by
  intro K j1 hK hj1
  obtain ⟨j1, rfl⟩ : ∃ j, j1 = j + 1 := ⟨j1 - 1, by omega⟩
  refine gR 7 rfl ?_
  refine gV 22 (.int .i64 ((p0.kids.length : Nat) : Int)) rfl (lenI (lenK _)) rfl ?_
  refine gLB 21 rfl (lenK _) fun hl16 => ?_
  refine gR 3 rfl ?_
  refine gB 23 rfl rfl rfl (fun hd => ?_) (fun hd => ?_)
  · replace hd := (natT hd)
    replace h := h.1 hd
    refine gR 6 rfl ?_
    refine gDs [] 19 19 rfl (by kernel_rfl) (by kernel_rfl) ?_
    refine gDr [(0, 2), (1, 2), (2, 2), (3, 2), (4, 0)] (by kernel_rfl) rfl rfl ?_
    obtain ⟨t1_1, hxt1_1, h⟩ := h
    refine gYd1 5 rfl (by kernel_rfl) (yIR' (kidsV_get hxt1_1) tabS_ok rfl rfl rfl rfl) rfl rfl ?_
    refine gDr [(6, 0), (7, 0)] (by kernel_rfl) rfl rfl ?_
    obtain ⟨b1_2, hs17, h⟩ := h
    refine gDC0 8 hs17 (by kernel_rfl) rfl (by kernel_rfl) rfl rfl .rfl rfl rfl ?_
    refine gDr [(9, 0), (10, 0)] (by kernel_rfl) rfl rfl ?_
    refine gB 36 rfl rfl rfl (fun hd => ?_) (fun hd => ?_)
    · refine gT 35 rfl hd rfl ?_
      replace hd := (not_t hd)
      replace h := h.1 hd
      refine gDr [(11, 2), (12, 2), (13, 0), (14, 0), (15, 0), (16, 0), (17, 0), (18, 0)] (by kernel_rfl) rfl rfl ?_
      refine gDe (by kernel_rfl) ?_
      refine gR 10 rfl ?_
      refine go_xloopR ?_
      refine gR 2 rfl ?_
      subst h
      refine go_sub (F' := (mkF 45 0 [(2, .bool false)])) (H' := ⟨0, []⟩) [] [] rfl hK ⟨⟨_, rfl, .rfl⟩, trivial⟩ trivial rfl ?_
      exact go_end tabS_ok (rs := [.tmp 2]) rfl rfl rfl
    · refine gF 35 rfl hd rfl ?_
      replace hd := (not_f hd)
      replace h := h.2 hd
      refine gDr [(11, 2), (12, 2), (13, 0)] (by kernel_rfl) rfl rfl ?_
      obtain ⟨t1_3, hxt1_3, h⟩ := h
      refine gYd1 14 rfl (by kernel_rfl) (yIR' (kidsV_get hxt1_3) tabS_ok rfl rfl rfl rfl) rfl rfl ?_
      refine gDr [(15, 0)] (by kernel_rfl) rfl rfl ?_
      obtain ⟨b1_4, hs18, h⟩ := h
      refine gDC0 16 hs18 (by kernel_rfl) rfl (by kernel_rfl) rfl rfl .rfl rfl rfl ?_
      refine gDr [(17, 0), (18, 0)] (by kernel_rfl) rfl rfl ?_
      refine gDe (by kernel_rfl) ?_
      refine gR 1 rfl ?_
      refine gB 44 rfl rfl rfl (fun hd => ?_) (fun hd => ?_)
      · replace hd := (not_t hd)
        replace h := h.1 hd
        refine gR 9 rfl ?_
        refine go_xloopR ?_
        refine gR 2 rfl ?_
        subst h
        refine go_sub (F' := (mkF 45 0 [(2, .bool false)])) (H' := ⟨0, []⟩) [] [] rfl hK ⟨⟨_, rfl, .rfl⟩, trivial⟩ trivial rfl ?_
        exact go_end tabS_ok (rs := [.tmp 2]) rfl rfl rfl
      · replace hd := (not_f hd)
        replace h := h.2 hd
        refine gR 7 rfl ?_
        refine gV 25 (.int .i64 ((i1v1 + 1 : Nat) : Int)) rfl (wrapI (by have := hl16; omega) (by omega)) rfl ?_
        refine gR 2 rfl ?_
        refine go_xloop ?_
        exact gJ (h K _ hK (by omega)) [] [] rfl hK ⟨⟨_, rfl, .rfl⟩, ⟨_, rfl, .rfl⟩, trivial⟩ trivial rfl
  · replace hd := (natF hd)
    replace h := h.2 hd
    refine gR 3 rfl ?_
    refine go_xloopE ?_
    refine gR 8 rfl ?_
    subst h
    refine go_sub (F' := (mkF 45 0 [(2, .bool true)])) (H' := ⟨0, []⟩) [] [] rfl hK ⟨⟨_, rfl, .rfl⟩, trivial⟩ trivial rfl ?_
    exact go_end tabS_ok (rs := [.tmp 2]) rfl rfl rfl
end Go.Proofs.YteglbnopdedadaaGreat
