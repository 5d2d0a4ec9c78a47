/- Contracts of the functions that the law reaches, part 3. -/
import Derived.Test.YtpnpdlnpikkeaaaLa2
set_option linter.unusedVariables false
set_option linter.unusedSimpArgs false
namespace Go.Proofs.Ytpnpdlnpikkeaaa
open Go.RowKit
inductive Rs where
 | ok (e : Bool) (F : Fm) (H : Hp)
 | pt (p : EP) (s : List EI) (F : Fm) (H : Hp)
 | er (n m : Nat)
def Ar : V → List Nat → List Nat
 | .ptr id _, acc => id :: acc
 | .el id _ _ _, acc => id :: acc
 | .sl id, acc => id :: acc
 | _, acc => acc
def yz : List V → List Nat → List Nat
 | [], acc => acc
 | v :: r, acc => yz r (Ar v acc)
def AJ : V → List Nat → List Nat
 | .agg cs, acc => yz cs acc
 | v, acc => Ar v acc
def me : List V → List Nat → List Nat
 | [], acc => acc
 | .tup vs :: r, acc => me r (vs.foldl (fun acc v => AJ v acc) acc)
 | v :: r, acc => me r (AJ v acc)
def fk (i : Nat) : List Nat → Bool
 | [] => false
 |j :: r => match Nat.beq i j with
  | true => true
  | false => fk i r
def jz (H : Hp) : Nat → List Nat → List Nat → List Nat
 | 0, _, acc => acc
 | _ + 1, [], acc => acc
 |n + 1, id :: r, acc => match fk id acc with
  | true => jz H n r acc
  |false => match H.get id with
   | .var _ cs => jz H n (yz cs r) (id :: acc)
   | _ => jz H n r (id :: acc)
def nz {α : Type} (R : List Nat) : List (Nat × Ob) → (List (Nat × Ob) → α) → α
 | [], c => c []
 |(i, o) :: r, c => match fk i R with
  | true => nz R r fun r' => c ((i, o) :: r')
  | false => nz R r c
def mz {α : Type} (nx : Nat) (R : List Nat) : List (Nat × Ob) → (List (Nat × Ob) → α) → α
 | [], c => c []
 |(i, o) :: r, c => match !fk i R && Nat.blt i nx with
  |true => match o with
   | .free => mz nx R r fun r' => c ((i, .gone) :: r')
   | o => mz nx R r fun r' => c ((i, o) :: r')
  | false => mz nx R r c
def uA {α : Type} (lo : Nat) (H : Hp) (v : V) (c : V → Hp → α) : α := match v with
 |.sl id => match Nat.ble lo id with
  |true => match H.get id with
   |.row _ sz els => match pureL els with
    | true => pP id H.es fun es => c (.row sz els) ⟨H.nx, es⟩
    | false => c v H
   | _ => c v H
  | false => c v H
 | _ => c v H
def vf {α : Type} (lo : Nat) (H : Hp) : List V → (List V → Hp → α) → α
 | [], c => c [] H
 | v :: r, c => uA lo H v fun v' H' => vf lo H' r fun r' H'' => c (v' :: r') H''
def xx {α : Type} (lo : Nat) (H : Hp) (v : V) (c : V → Hp → α) : α := match v with
 | .agg cs => vf lo H cs fun cs H' => c (.agg cs) H'
 | v => uA lo H v c
def sQ {α : Type} (lo : Nat) (H : Hp) : List V → (List V → Hp → α) → α
 | [], c => c [] H
 | v :: r, c => xx lo H v fun v' H' => sQ lo H' r fun r' H'' => c (v' :: r') H''
def we (H : Hp) : List Nat → Bool
 | [] => false
 |i :: r => match H.get i with
  | .row _ _ _ => true
  | _ => we H r
def zc (o : Oper) : Bool := match o.op with
 | .store .. => true
 | _ => false
def Aj (o : Oper) : Bool := match o.op with
 | .alloc .. => false
 | .box .. => false
 | .store .. => false
 | .buildSlice .. => false
 | .makeSlice .. => false
 | .call ⟨.builtin .len, _, _⟩ => true
 | .call ⟨.builtin .max, _, _⟩ => true
 | .call .. => false
 | _ => true
def tw : Nat → List Oper → Nat
 | i, [] => i
 |i, o :: r => match zc o with
  | true => i
  | false => tw (i + 1) r
def mL (T : Tab) (H : Hp) (all : Array Oper) : List Oper → Fm → List Nat → List Nat → List Nat
 | [], _, rd, cl => rd.filter fun i => !fk i cl
 |o :: r, F, rd, cl => match be F all o.guard with
  | some false => F.puto o.dst (some (.tup [])) fun F' => mL T H all r F' rd cl
  |_ => match iK T H.get F o.op with
   | some v => F.puto o.dst (some v) fun F' => mL T H all r F' rd cl
   |none => match lA F o.op with
    |some id => match im T H.get F H.nx o.op with
     | some (v, _) => F.puto o.dst v fun F' => mL T H all r F' (match fk id rd with | true => rd | false => id :: rd) cl
     | none => F.puto o.dst none fun F' => mL T H all r F' rd cl
    |none => match o.op with
     |.call ⟨.value (.func _), ⟨args⟩, _⟩ => match fR F args with
      | some vs => F.puto o.dst none fun F' => mL T H all r F' rd (jz H 40 (me vs []) cl)
      | none => F.puto o.dst none fun F' => mL T H all r F' rd cl
     | _ => F.puto o.dst none fun F' => mL T H all r F' rd cl
def pm (F : Fm) (all : Array Oper) (L : List Nat) (m : Nat) (listed : Array Bool) : List Nat → Option Nat
 | [] => none
 |i :: r => match all[i]? with
  |some o => match Nat.beq i m with
   | true => pm F all L m listed r
   |false => match Aj o with
    |true => match Region.free .any all listed i with
     | true => some i
     | false => pm F all L m listed r
    | false => pm F all L m listed r
  | none => none
section
variable (T : Tab) (ih : EP → List EI → Fm → Hp → Rs)
def vj (keep : Bool) (vs : List V) (fn : Func) (b : Code) (H : Hp) (L : List Nat) (ok : Bool) (c : V → Hp → Rs) : Rs :=
 match jz H 40 (me vs []) [] with
 |R => match (ca H.get L && L.all fun i => !fk i R) || ok with
  |true => nz R H.es fun es1 => match ih (.code b) [] (il fn.ntmps vs) ⟨H.nx, es1⟩ with
   |.ok _ F1 H1 => match mb T H1.get F1 fn.results.toList with
    |some rs => match Nat.ble H.nx H1.nx with
     |true => match keep || we H R with
      | true => mz H.nx R H.es fun es2 => c (iX rs) ⟨H1.nx, H1.es ++ es2⟩
      |false => sQ H.nx H1 rs fun rs H2 => match jz H2 60 (me rs R) [] with
       | R2 => nz R2 H2.es fun es3 => mz H.nx R H.es fun es2 => c (iX rs) ⟨H2.nx, es3 ++ es2⟩
     | false => .er 1 0
    | none => .er 2 0
   | .er n m => .er n m
   | .pt .. => .er 3 0
  | false => .er 4 0
def lY (F : Fm) (H : Hp) (L : List Nat) (ok : Bool) (o : Oper) (c : Option V → Hp → Rs) : Rs :=
 match iK T H.get F o.op with
 | some v => c (some v) H
 |none => match dG H.nx fun nid => im T H.get F nid o.op with
  |some (v, ed) => match (ca H.get L && ed.clear L) || ok with
   |true => H.ap ed fun H' => match v with
    | some v => c (some v) H'
    | none => c (some (.tup [])) H'
   | false => .er 5 0
  |none => match o.op with
   |.call ⟨.value (.func fid), ⟨args⟩, _⟩ => match fR F args with
    |some vs => match T.nat fid vs with
     | some v => c (some v) H
     |none => match T.fn fid with
      |some fn => match fn.body with
       |some b => match Nat.ble vs.length fn.ntmps with
        | true => vj T ih (T.keep fid) vs fn b H L ok fun v H' => c (some v) H'
        | false => .er 6 fid
       | none => .er 7 fid
      | none => .er 8 fid
    | none => .er 9 fid
   | _ => .er (10000 + o.type) (match o.dst with | some d => d | none => 999)
def sw (l : List Nat) (j : Nat) : Bool := match l with
 | [x] => Nat.beq x j
 | _ => false
def uK (x y i : Nat) : Nat := match Nat.beq x i with
 | true => y
 |false => match Nat.beq y i with
  | true => x
  | false => i
def qX (all : Array Oper) (L : List Nat) (m i : Nat) (o : Oper) (ps : List (Nat × Operand)) (v : V) (s : List EI) : Nat → Array Bool → Fm → Hp → Rs
 |left, listed, F, H => match ca H.get L || (listed.setIfInBounds i true).getD m false with
  |true => match Region.ready .any all listed with
   |[x] => match Nat.beq x i with
    | true => F.puto o.dst (some v) fun F' => ih (.drw all L m left (listed.setIfInBounds i true)) s F' H
    | false => .er 41 i
   |[x, y] => match left with
    | 0 => .er 42 i
    |left + 1 => dG (uK x y i) fun j => match Nat.beq j i with
     | true => .er 43 i
     |false => match all[j]? with
      |some oj => match sw (Region.ready .any all (listed.setIfInBounds i true)) j && qW o.dst oj.dst && lC oj.dst ps && (match o.dst with | some t => (F.get t).isNone | none => true) with
       |true => match be F all oj.guard with
        | some true => lY T ih F H L ((listed.setIfInBounds j true).getD m false && ((listed.setIfInBounds j true).setIfInBounds i true).getD m false) oj fun u H' => F.puto oj.dst u fun F' => qX all L m i o ps v s left (listed.setIfInBounds j true) F' H'
        | _ => .er 44 i
       | false => .er 45 i
      | none => .er 46 i
   | _ => .er 47 i
  | false => .er 48 i
def lL (T : Tab) (F : Fm) (all : Array Oper) : List Nat → Option (Nat × Oper × List (Nat × Operand) × V)
 | [] => none
 |i :: r => match all[i]? with
  |some ⟨_, .buildSlice _ _ ⟨ps⟩, _, _, _, none⟩ => match hO F ps with
   |some vs => match kS T all i vs with
    | some (o, ps', v) => some (i, o, ps', v)
    | none => lL T F all r
   | none => lL T F all r
  | _ => lL T F all r
def xl (all : Array Oper) (L : List Nat) (m left i j : Nat) (listed : Array Bool) (s : List EI) (F : Fm) (H : Hp) : Rs := match all[i]? with
 |some oi => match all[j]? with
  |some oj => match be F all oi.guard with
   |some true => match be F all oj.guard with
    |some true => lY T ih F H L ((listed.setIfInBounds i true).getD m false) oi fun ui Hi => F.puto oi.dst ui fun Fi => match ih (.drw all L m left (listed.setIfInBounds i true)) [] Fi Hi with
     |.ok false F1 H1 => lY T ih F H L ((listed.setIfInBounds j true).getD m false) oj fun uj Hj => F.puto oj.dst uj fun Fj => match ih (.drw all L m left (listed.setIfInBounds j true)) [] Fj Hj with
      |.ok false F2 H2 => match sq H.nx F2 H2 F1 H1 with
       | true => ih (.ex .normal) s F1 H1
       | false => .er 51 i
      | .er a b => .er a b
      | _ => .er 52 i
     | .er a b => .er a b
     | _ => .er 53 i
    | _ => .er 54 i
   | _ => .er 55 i
  | none => .er 56 i
 | none => .er 57 i
def uY (c : Code) (s : List EI) (F : Fm) (H : Hp) : Rs := match c with
 | .seq x y => ih (.code x) (.seq y :: s) F H
 | .block id c => ih (.code c) (.blk id :: s) F H
 | .skip => ih (.ex .normal) s F H
 | .ret => ih (.ex .ret) s F H
 | .exit id => ih (.ex (.exit id)) s F H
 | .scope c => ih (.code c) (.scp :: s) F H
 | .label _ => ih (.ex .normal) s F H
 | .loop c => ih (.code c) (.loop c 1000000 :: s) F H
 |.cond c x y => match aG F c with
  | some (.bool true) => ih (.code x) s F H
  | some (.bool false) => ih (.code y) s F H
  | _ => .er 11 0
 | .region _ ⟨l⟩ false => ih (.ops ⟨l⟩ l) s F H
 |.region _ ⟨l⟩ true => match Region.noSelect ⟨l⟩ with
  | true => listK (mL T H ⟨l⟩ l F [] []) fun L => dG (tw 0 l) fun m => dG l.length fun n => ih (.drw ⟨l⟩ L m n (Array.replicate n false)) s F H
  | false => .er 13 0
 | _ => .er 14 0
def rM (all : Array Oper) (rest : List Oper) (s : List EI) (F : Fm) (H : Hp) : Rs := match rest with
 | [] => ih (.ex .normal) s F H
 |o :: r => match be F all o.guard with
  | some false => F.puto o.dst (some (.tup [])) fun F' => ih (.ops all r) s F' H
  | some true => lY T ih F H [] true o fun v H' => F.puto o.dst v fun F' => ih (.ops all r) s F' H'
  | none => .er 15 0
def uI (e : Exit) (s : List EI) (F : Fm) (H : Hp) : Rs := match s with
 |[] => match e with
  | .normal => .ok false F H
  | .ret => .ok true F H
  | _ => .er 16 0
 |.seq c :: s => match e with
  | .normal => ih (.code c) s F H
  | .exit i => ih (.ex (.exit i)) s F H
  | .ret => ih (.ex .ret) s F H
  | _ => .er 17 0
 |.loop c j :: s => match e with
  |.normal => match j with
   | 0 => .er 18 0
   | j + 1 => ih (.code c) (.loop c j :: s) F H
  | .exit i => ih (.ex (.exit i)) s F H
  | .ret => ih (.ex .ret) s F H
  | _ => .er 19 0
 |.scp :: s => match e with
  | .normal => ih (.ex .normal) s F H
  | .exit i => ih (.ex (.exit i)) s F H
  | .ret => ih (.ex .ret) s F H
  | _ => .er 20 0
 |.blk id :: s => match e with
  | .normal => ih (.ex .normal) s F H
  |.exit i => match Nat.beq i id with
   | true => ih (.ex .normal) s F H
   | false => ih (.ex (.exit i)) s F H
  | .ret => ih (.ex .ret) s F H
  | _ => .er 21 0
def uT (all : Array Oper) (L : List Nat) (m left : Nat) (listed : Array Bool) (s : List EI) (F : Fm) (H : Hp) : Rs := match Region.ready .any all listed with
 | [] => ih (.ex .normal) s F H
 |i :: R => match left with
  | 0 => .er 22 0
  |left + 1 => match R with
   |[] => match all[i]? with
    |some o => match be F all o.guard with
     | some false => F.puto o.dst (some (.tup [])) fun F' => ih (.drw all L m left (listed.setIfInBounds i true)) s F' H
     | some true => lY T ih F H L ((listed.setIfInBounds i true).getD m false) o fun v H' => F.puto o.dst v fun F' => ih (.drw all L m left (listed.setIfInBounds i true)) s F' H'
     | none => .er (6000 + all.size) i
    | none => .er 24 0
   |_ => match pm F all L m listed (i :: R) with
    |some i => match all[i]? with
     |some o => match (Region.ready .any all listed).contains i && Region.free .any all listed i && !Nat.beq i m with
      |true => match be F all o.guard with
       | some false => F.puto o.dst (some (.tup [])) fun F' => ih (.drw all L m left (listed.setIfInBounds i true)) s F' H
       |some true => match iK T H.get F o.op with
        | some v => F.puto o.dst (some v) fun F' => ih (.drw all L m left (listed.setIfInBounds i true)) s F' H
        |none => match lA F o.op with
         |some id => match L.contains id && jK .any all m i && !listed.getD m false with
          |true => match im T H.get F H.nx o.op with
           | some (some v, _) => F.puto o.dst (some v) fun F' => ih (.drw all L m left (listed.setIfInBounds i true)) s F' H
           | _ => .er (4000 + all.size) i
          | false => .er (2000 + all.size) i
         | none => .er (3000 + all.size) i
       | none => .er (5000 + all.size) i
      | false => .er 29 i
     | none => .er 30 i
    |none => match lL T F all (i :: R) with
     | some (i, o, ps, v) => F.puto o.dst none fun F' => qX T ih all L m i o ps v s left listed F' H
     |none => match R with
      | [j] => xl T ih all L m left i j listed s F H
      | _ => .er (1000 + all.size) i
def step (p : EP) (s : List EI) (F : Fm) (H : Hp) : Rs := match p with
 | .code c => uY T ih c s F H
 | .ops all rest => rM T ih all rest s F H
 | .ex e => uI ih e s F H
 | .drw all L m left listed => uT T ih all L m left listed s F H
end
def run (T : Tab) : Nat → EP → List EI → Fm → Hp → Rs
 | 0, p, s, F, H => .pt p s F H
 | k + 1, p, s, F, H => step T (run T k) p s F H
end Go.Proofs.Ytpnpdlnpikkeaaa
namespace Go.Proofs.Ytpnpdlnpikkeaaa
open Go.RowKit
set_option maxRecDepth 100000
def tyL : List (Nat × TD) := [
 (25, ⟨4, 72, .agg [.int .i64 0, .str [], .nils, .nils], .struct [(0, 1, true), (1, 1, true), (2, 1, true), (3, 1, true)]⟩),
 (3, ⟨1, 8, .int .i64 0, .sc⟩),
 (9, ⟨1, 16, .str [], .str⟩),
 (23, ⟨1, 24, .nils, .sl 25⟩),
 (22, ⟨1, 24, .nils, .sl 9⟩),
 (36, ⟨1, 24, .nils, .sl 39⟩),
 (5, ⟨1, 1, .int .u8 0, .sc⟩),
 (43, ⟨1, 8, .nilp, .sc⟩),
 (47, ⟨3, 40, .agg [.int .i64 0, .str [], .str []], .struct [(0, 1, true), (1, 1, true), (2, 1, true)]⟩),
 (82, ⟨1, 8, .nilp, .sc⟩),
 (94, ⟨4, 32, .agg [.int .i64 0, .int .i64 0, .int .i64 0, .int .i64 0], .struct [(0, 1, true), (1, 1, true), (2, 1, true), (3, 1, true)]⟩),
 (39, ⟨2, 32, .agg [.str [], .str []], .struct [(0, 1, true), (1, 1, true)]⟩),
 (40, ⟨1, 24, .nils, .sl 47⟩),
 (45, ⟨5, 56, .agg [.nils, .int .i64 0, .int .i64 0, .int .i64 0, .int .i64 0], .struct [(0, 1, true), (1, 1, true), (2, 1, true), (3, 1, true), (4, 1, true)]⟩),
 (31, ⟨1, 8, .int .i64 0, .sc⟩),
 (69, ⟨3, 48, .agg [.nilp, .nils, .str []], .struct [(0, 2, false), (2, 1, true)]⟩),
 (67, ⟨2, 32, .agg [.nilp, .nils], .struct [(0, 1, true), (1, 1, true)]⟩),
 (4, ⟨1, 1, .bool false, .bool⟩)]
def jq {α : Type} : List (Nat × α) → Nat → Option α
 | [], _ => none
 |(i, x) :: r, j => match Nat.beq i j with
  | true => some x
  | false => jq r j
def tyB (P : Program) : List (Nat × TD) → Bool
 | [] => true
 | (t, d) :: r => tdB P t d && tyB P r
theorem vV {P : Program} : ∀ {l : List (Nat × TD)}, tyB P l = true → ∀ t d, jq l t = some d → TdOk P t d
 | [], _, t, d, h => by cases h
 | (i, x) :: r, hb, t, d, h => by
  simp only [tyB, Bool.and_eq_true] at hb
  simp only [jq] at h
  split at h
  ·rename_i e
   have := Nat.eq_of_beq_eq_true e
   subst this
   injection h with h; subst h
   exact Ac hb.1
  ·exact vV hb.2 t d h
theorem vL : ∀ t d, jq tyL t = some d → TdOk Try.prog t d := vV (by kernel_rfl)
noncomputable def fnL : List (Nat × Func) := [(9, Try.f9), (15, Try.f15), (16, Try.f16), (17, Try.f17), (26, Try.f26), (27, Try.f27), (28, Try.f28), (29, Try.f29), (30, Try.f30), (31, Try.f31), (32, Try.f32), (33, Try.f33), (34, Try.f34), (48, Try.f48), (49, Try.f49), (50, Try.f50), (51, Try.f51), (52, Try.f52), (54, Try.f54), (55, Try.f55), (56, Try.f56), (57, Try.f57), (75, Try.f75), (76, Try.f76), (77, Try.f77), (78, Try.f78), (60, Try.f60), (80, Try.f80), (87, Try.f87), (88, Try.f88), (96, Try.f96), (97, Try.f97)]
def fnB (P : Program) : List (Nat × Func) → Prop
 | [] => True
 | (i, f) :: r => (P.funcs[i]? = some f ∧ bP P i = true) ∧ fnB P r
theorem xe {P : Program} : ∀ {l : List (Nat × Func)}, fnB P l → ∀ i f, jq l i = some f → P.funcs[i]? = some f ∧ bP P i = true
 | [], _, i, f, h => by cases h
 | (j, x) :: r, hb, i, f, h => by
  simp only [jq] at h
  split at h
  ·rename_i e
   have := Nat.eq_of_beq_eq_true e
   subst this
   injection h with h; subst h
   exact hb.1
  ·exact xe hb.2 i f h
theorem AX : ∀ i f, jq fnL i = some f → Try.prog.funcs[i]? = some f ∧ bP Try.prog i = true := xe ⟨⟨Try.func9, by kernel_rfl⟩, ⟨Try.func15, by kernel_rfl⟩, ⟨Try.func16, by kernel_rfl⟩, ⟨Try.func17, by kernel_rfl⟩, ⟨Try.func26, by kernel_rfl⟩, ⟨Try.func27, by kernel_rfl⟩, ⟨Try.func28, by kernel_rfl⟩, ⟨Try.func29, by kernel_rfl⟩, ⟨Try.func30, by kernel_rfl⟩, ⟨Try.func31, by kernel_rfl⟩, ⟨Try.func32, by kernel_rfl⟩, ⟨Try.func33, by kernel_rfl⟩, ⟨Try.func34, by kernel_rfl⟩, ⟨Try.func48, by kernel_rfl⟩, ⟨Try.func49, by kernel_rfl⟩, ⟨Try.func50, by kernel_rfl⟩, ⟨Try.func51, by kernel_rfl⟩, ⟨Try.func52, by kernel_rfl⟩, ⟨Try.func54, by kernel_rfl⟩, ⟨Try.func55, by kernel_rfl⟩, ⟨Try.func56, by kernel_rfl⟩, ⟨Try.func57, by kernel_rfl⟩, ⟨Try.func75, by kernel_rfl⟩, ⟨Try.func76, by kernel_rfl⟩, ⟨Try.func77, by kernel_rfl⟩, ⟨Try.func78, by kernel_rfl⟩, ⟨Try.func60, by kernel_rfl⟩, ⟨Try.func80, by kernel_rfl⟩, ⟨Try.func87, by kernel_rfl⟩, ⟨Try.func88, by kernel_rfl⟩, ⟨Try.func96, by kernel_rfl⟩, ⟨Try.func97, by kernel_rfl⟩, trivial⟩
end Go.Proofs.Ytpnpdlnpikkeaaa
namespace Go.Proofs.Ytpnpdlnpikkeaaa
open Go.RowKit Lx Sx
def yk : Tab := ⟨false, jq tyL, fun _ => none, fun _ _ => none, fun _ => false⟩
theorem ab : TabOk Try.prog yk := ⟨vL, (fun _ _ h => by cases h), (fun _ _ _ h => by cases h)⟩
mutual
def treeV : Tree → V
 | .node k s ls ks => .agg [.int .i64 k, .str s, .row 1 (ls.map .str), .row 4 (kidsV ks)]
def kidsV : List Tree → List V
 | [] => []
 | t :: r => treeV t :: kidsV r
end
abbrev av (t : Tree) : List V := [.int .i64 t.kind, .str t.text, .row 1 (t.leads.map .str), .row 4 (kidsV t.kids)]
abbrev lZ (t : Tree) : V := .agg (av t)
theorem gl (t : Tree) : treeV t = lZ t := by cases t; simp [treeV, Tree.kind, Tree.text, Tree.leads, Tree.kids]
theorem jt : ∀ (ks : List Tree), (kidsV ks).length = ks.length
 | [] => rfl
 | t :: r => by simp [kidsV, jt r]
theorem aK : ∀ {ks : List Tree} {i : Nat} {u : Tree}, ks[i]? = some u → (kidsV ks)[i]? = some (lZ u)
 | [], i, u, h => by simp at h
 | t :: r, 0, u, h => by
  simp only [List.getElem?_cons_zero, Option.some.injEq] at h
  subst h
  simp [kidsV, gl]
 | t :: r, i + 1, u, h => by
  simp only [List.getElem?_cons_succ] at h
  simpa [kidsV] using aK h
theorem nf : ∀ (a b : List Tree), kidsV (a ++ b) = kidsV a ++ kidsV b
 | [], b => rfl
 | t :: r, b => by simp [kidsV, nf r b]
theorem vh (t : Tree) : (lZ t).pure = true := rfl
theorem px : ∀ (ks : List Tree), pureL (kidsV ks) = true
 | [] => rfl
 | t :: r => by simp only [kidsV, pureL, gl, vh, px r]
def mi (P : Program) (fid : FuncId) (us : List V) (v : V) : Prop := pureL us = true ∧ v.pure = true ∧ Sum P fid us ⟨0, []⟩ (fun u _ => u = v)
theorem rb (i : Nat) : (⟨0, []⟩ : Hp).get i = .free := by
 unfold Hp.get
 have : Nat.blt i 0 = false := by cases i <;> rfl
 simp only [this]
theorem uf {P : Program} {K : Ctx} {H : Hp} {fid : FuncId} {vs us : List V} {v : V} (hS : mi P fid us v) (hs : bK vs us) (L : List Nat) (hL : ca H.get L = true) : CallR P K fid vs H L (fun v' H'' => v' = v ∧ H'' = H) := fun S w ρ xs hr hi hx => by
 obtain ⟨h1, h2, h3⟩ := hS
 have hr0 : HRel S w ρ0 (⟨0, []⟩ : Hp).get := ⟨fun i => by rw [rb]; rfl, fun i b hb => by rw [rb] at hb; exact hb.elim, fun i j b hb _ => by rw [rb] at hb; exact hb.elim, hr.slt⟩
 refine (h3 S w ρ0 xs hr0 ((hs.rel hx).pure h1)).mono fun e w' hR => ?_
 obtain ⟨x, S', ρ', u, H', rfl, rfl, hr', hi', hv⟩ := hR
 have hno : ∀ b, ¬ ∃ id, own ρ0 id ((⟨0, []⟩ : Hp).get id) b := fun b ⟨id, hb⟩ => by rw [rb] at hb; exact hb
 have hc : Chg [] w w' := ⟨hi'.chg.os, hi'.chg.tape, hi'.chg.output, hi'.chg.size, fun b hb _ => hi'.chg.block b hb (hno b)⟩
 have up : Up S S' w w' ρ ρ := ⟨hi'.s0, fun b hb hlt => hc.block b hlt (by simp), fun _ _ h => h⟩
 have hs1 : ∀ b, S' b → S b ∨ w.heap.size ≤ b := fun b hb => by
  rcases hi'.s1 b hb with h | h | h
  ·exact .inl h
  ·exact absurd h (hno b)
  ·exact .inr h
 refine ⟨x, S', ρ, u, H, rfl, ⟨rfl, rfl⟩, ⟨fun i => (hr.ob i).up up (fun hf => ?_) (fun b hb => hc.block b (dv (hr.ob i) hb) (by simp)), fun i b hb => ?_, hr.dis, hr'.slt⟩, ⟨hi.chg.trans (ChgP.of hc) (fun b hb => by simp at hb), fun b hb => hi'.s0 b (hi.s0 b hb), fun b hb => ?_, hi.ow, hi.pin⟩, up, hv.pure h2, fun id hid y b hy hb => ?_⟩
 ·have := hr.ob i; rw [hf] at this; exact this
 ·intro hS
  rcases hs1 b hS with h | h
  ·exact hr.sep i b hb h
  ·have := dv (hr.ob i) hb; omega
 ·rcases hs1 b hb with h | h
  ·exact hi.s1 b h
  ·exact .inr (.inr (Nat.le_trans hi.chg.size h))
 ·exact hc.block b (dv (hr.ob id) (iv hr hL id hid y b hy hb)) (by simp)
theorem fz {α : Type} [BEq α] [LawfulBEq α] {a b : α} (h : (a != b) = false) : a = b := by simpa using h
section
variable {K : Ctx} {Q : Exit → Act → World → Prop} {p p' : EP} {s s' : List EI} {n : Nat} {F F' F1 F2 : Fm} {H H' H1 : Hp} {all : Array Oper} {rest : List Oper} {o : Oper}
theorem gR (k : Nat) (h : ds yk k p s F H = some (p', s', F', H')) (kk : Go Try.prog K Q p' s' n F' H') : Go Try.prog K Q p s n F H := cd ab k p s F H h kk
theorem gC {PL : List Nat} {fid : FuncId} {args : List Operand} {tys : Array TypeId} {vs us : List V} {H0 : Hp} {Post : V → Hp → Prop} {d : Option Tmp} {ty : TypeId} {ps : String} {af : Array Edge} {g : Option (Nat × Bool)} (hS : jB PL Try.prog fid us H0 Post) (σ : List Nat) (he : bP Try.prog fid = true) (hw : be F all g = some true) (hv : fR F args = some vs) (hs : bK vs (renL σ us)) (hH : leH σ H H0.es) (hc : (de σ && Nat.beq σ.length H0.nx && σ.all fun i => Nat.blt i H.nx) = true)
  (k : ∀ v H', Post v H' → Go Try.prog K Q (.ops all rest) s n (F.seto d (some (v.ren (sgN PL H.nx H0.get H'.nx σ 0)))) (jC PL H σ H0 H')) : Go Try.prog K Q (.ops all (⟨d, .call { callee := .value (.func fid), args := args.toArray, argTypes := tys }, ty, ps, af, g⟩ :: rest)) s n F H :=
 go_opC (o := ⟨d, .call { callee := .value (.func fid), args := args.toArray, argTypes := tys }, ty, ps, af, g⟩) he rfl hw hv (oH hS σ hs hH hc [] (by simp [ca])) fun v' H'' ⟨v, H', hP, e1, e2⟩ => by subst e1 e2; exact k v H' hP
theorem gC0 {fid : FuncId} {args : List Operand} {tys : Array TypeId} {vs us : List V} {v : V} {d : Option Tmp} {ty : TypeId} {ps : String} {af : Array Edge} {g : Option (Nat × Bool)} (hS : mi Try.prog fid us v) (he : bP Try.prog fid = true) (hw : be F all g = some true) (hv : fR F args = some vs) (hs : bK vs us) (h1 : F.puto d (some v) id = F1)
  (k : Go Try.prog K Q (.ops all rest) s n F1 H) : Go Try.prog K Q (.ops all (⟨d, .call { callee := .value (.func fid), args := args.toArray, argTypes := tys }, ty, ps, af, g⟩ :: rest)) s n F H := by
 rw [Fm.puto_eq] at h1; subst h1
 exact go_opC (o := ⟨d, .call { callee := .value (.func fid), args := args.toArray, argTypes := tys }, ty, ps, af, g⟩) he rfl hw hv (uf hS hs [] rfl) fun v' H'' ⟨e1, e2⟩ => by subst e1 e2; exact k
def slB (T : Tab) (t : TypeId) : Option (TypeId × Nat × Nat) := match T.ty t with
 |some ⟨_, _, _, .sl e⟩ => match T.ty e with
  |some ⟨sz, by_, _, _⟩ => match Nat.blt 0 sz && Nat.ble by_ 100000 with
   | true => some (e, sz, by_)
   | false => none
  | none => none
 | _ => none
theorem AD {P : Program} {T : Tab} (hT : TabOk P T) {t e : TypeId} {sz by_ : Nat} (h : slB T t = some (e, sz, by_)) : P.underlying t = some (.slice e) ∧ 0 < sz ∧ by_ ≤ 100000 ∧ ∃ z : Value, (P.info? e).map (fun i => (i.zero, i.size, i.bytes)) = some (some z, sz, by_) ∧ z.cells.size = sz := by
 unfold slB at h
 split at h
 ·rename_i ht
  split at h
  ·rename_i he
   split at h
   ·rename_i hb
    simp only [Option.some.injEq, Prod.mk.injEq] at h
    obtain ⟨rfl, rfl, rfl⟩ := h
    simp only [Bool.and_eq_true, Nat.blt_eq, Nat.ble_eq] at hb
    obtain ⟨z, h1, _, h3, _⟩ := (hT.ty _ _ he).info
    exact ⟨(hT.ty _ _ ht).sl rfl, hb.1, hb.2, z, h1, h3⟩
   ·cases h
  ·cases h
 ·cases h
theorem dAp {P : Program} {T : Tab} (hT : TabOk P T) {t e : TypeId} {x y : Operand} {sz by_ id : Nat} {els news : List V} {v : V} {ty : TypeId} (ht : slB T t = some (e, sz, by_)) (hx : aG F x = some (.sl id)) (ho : H.get id = .row e sz els) (hy : aG F y = some v) (hs : su H.get sz v = some news) (hb : els.length + news.length ≤ 1000000000) :
  ∀ S w ρ a, HRel S w ρ H.get → FRel S w ρ a n F → Does P S w ρ H.get a ty (.call { callee := .builtin .append, args := #[x, y], argTypes := #[t, t] }) (some (.sl H.nx)) ((ED.repl id (.row e sz (els ++ news))).app H.get H.nx) (ED.repl id (.row e sz (els ++ news))).tch := fun S w ρ a hr hF => by
 obtain ⟨h1, h2, h3, z, h4, h5⟩ := AD hT ht
 obtain ⟨u, g1, g2⟩ := tI hr hF hy hs
 exact se hr hF.fr H.get_free g1 g2 h1 h4 h5 h2 (aj hF hx) ho (by simp only [maxLen]; omega) (Nat.le_trans (Nat.mul_le_mul hb h3) (by decide))
variable {L : List Nat} {m fuel c : Nat} {listed : Array Bool}
theorem gDs {id : Nat} {l : List Oper} (L : List Nat) (m sz : Nat) (hsz : l.length = sz) (hm : Try.prog.follows .mixedOrders = true) (hs : Region.noSelect l.toArray = true) (k : Go Try.prog K Q (.drw l.toArray L m sz (Array.replicate sz false)) s n F H) : Go Try.prog K Q (.code (.region id l.toArray true)) s n F H := tN L m sz hsz hm hs k
theorem gDr (is : List (Nat × Nat)) (hc : uc all m is listed = true) (hl : is.length = c) (hr : jj yk all L is F H = some (F', H')) (k : Go Try.prog K Q (.drw all L m fuel (xP is listed)) s n F' H') : Go Try.prog K Q (.drw all L m (fuel + c) listed) s n F H := by
 subst hl; exact ip ab is fuel listed F H hc hr k
theorem gDe (hd : Region.ready .any all listed = []) (k : Go Try.prog K Q (.ex .normal) s n F H) : Go Try.prog K Q (.drw all L m fuel listed) s n F H := sj hd k
theorem bw {fid : FuncId} {args : List Operand} {tys : Array TypeId} {vs us : List V} {v : V} {d : Option Tmp} {ty : TypeId} {ps : String} {af : Array Edge} {g : Option (Nat × Bool)} (i : Nat) (hS : mi Try.prog fid us v) (he : bP Try.prog fid = true) (hi : all[i]? = some ⟨d, .call { callee := .value (.func fid), args := args.toArray, argTypes := tys }, ty, ps, af, g⟩) (hrd : Region.ready .any all listed = [i]) (hw : be F all g = some true) (hv : fR F args = some vs) (hs : bK vs us) (hL : ca H.get L = true) (h1 : F.puto d (some v) id = F1)
  (k : Go Try.prog K Q (.drw all L m fuel (listed.setIfInBounds i true)) s n F1 H) : Go Try.prog K Q (.drw all L m (fuel + 1) listed) s n F H := by
 rw [Fm.puto_eq] at h1; subst h1
 exact go_d1C he hrd hi rfl hw hv (uf hS hs L hL) (.inl rfl) fun v' H'' ⟨e1, e2⟩ => by subst e1 e2; exact k
theorem gDC {PL : List Nat} {fid : FuncId} {args : List Operand} {tys : Array TypeId} {vs us : List V} {H0 : Hp} {Post : V → Hp → Prop} {d : Option Tmp} {ty : TypeId} {ps : String} {af : Array Edge} {g : Option (Nat × Bool)} (i : Nat) (hS : jB PL Try.prog fid us H0 Post) (σ : List Nat) (he : bP Try.prog fid = true) (hi : all[i]? = some ⟨d, .call { callee := .value (.func fid), args := args.toArray, argTypes := tys }, ty, ps, af, g⟩) (hrd : Region.ready .any all listed = [i]) (hw : be F all g = some true) (hv : fR F args = some vs) (hs : bK vs (renL σ us)) (hH : leH σ H H0.es) (hc : (de σ && Nat.beq σ.length H0.nx && σ.all fun i => Nat.blt i H.nx) = true) (hL : (ca H.get L && L.all fun i => !σ.contains i) = true)
  (k : ∀ v H', Post v H' → Go Try.prog K Q (.drw all L m fuel (listed.setIfInBounds i true)) s n (F.seto d (some (v.ren (sgN PL H.nx H0.get H'.nx σ 0)))) (jC PL H σ H0 H')) : Go Try.prog K Q (.drw all L m (fuel + 1) listed) s n F H :=
 go_d1C he hrd hi rfl hw hv (oH hS σ hs hH hc L hL) (.inl rfl) fun v' H'' ⟨v, H', hP, e1, e2⟩ => by subst e1 e2; exact k v H' hP
end
end Go.Proofs.Ytpnpdlnpikkeaaa
namespace Go.Proofs.Ytpnpdlnpikkeaaa
open Go.RowKit Lx Sx
def lsum : List (List UInt8) → Nat
 | [] => 0
 | l :: r => l.length + 1 + lsum r
mutual
def tbulk : Tree → Nat
 | .node _ s ls ks => s.length + lsum ls + kbulk ks + 1
def kbulk : List Tree → Nat
 | [] => 0
 | t :: r => tbulk t + kbulk r
end
theorem bq (t : Tree) : 0 < tbulk t := by cases t; simp only [tbulk]; omega
theorem fg : ∀ (ks : List Tree), ks.length ≤ kbulk ks
 | [] => Nat.le_refl _
 | t :: r => by have := fg r; have := bq t; simp only [kbulk, List.length_cons]; omega
theorem li : ∀ {ks : List Tree} {i : Nat} {t : Tree}, ks[i]? = some t → tbulk t ≤ kbulk ks
 | [], i, t, h => by simp at h
 | u :: r, 0, t, h => by simp only [List.getElem?_cons_zero, Option.some.injEq] at h; subst h; simp only [kbulk]; omega
 | u :: r, i + 1, t, h => by have := li (ks := r) (i := i) (by simpa using h); simp only [kbulk]; omega
theorem nc : ∀ (a b : List Tree), kbulk (a ++ b) = kbulk a + kbulk b
 | [], b => by simp [kbulk]
 | t :: r, b => by simp only [List.cons_append, kbulk, nc r b]; omega
theorem gf : ∀ (l : List (List UInt8)), l.length ≤ lsum l
 | [] => Nat.le_refl _
 | x :: r => by have := gf r; simp only [lsum, List.length_cons]; omega
theorem mr : ∀ {l : List (List UInt8)} {i : Nat} {x : List UInt8}, l[i]? = some x → x.length + 1 ≤ lsum l
 | [], i, x, h => by simp at h
 | u :: r, 0, x, h => by simp only [List.getElem?_cons_zero, Option.some.injEq] at h; subst h; simp only [lsum]; omega
 | u :: r, i + 1, x, h => by have := mr (l := r) (i := i) (by simpa using h); simp only [lsum]; omega
theorem bx (t : Tree) : tbulk t = t.text.length + lsum t.leads + kbulk t.kids + 1 := by cases t; simp [tbulk, Tree.text, Tree.leads, Tree.kids]
theorem ej {t u : Tree} {i : Nat} (h : t.kids[i]? = some u) : tbulk u < tbulk t := by
 have := li h; rw [bx t]; omega
theorem fx (t : Tree) : t.kids.length < tbulk t := by
 have := fg t.kids; rw [bx t]; omega
theorem cx (t : Tree) : t.text.length < tbulk t := by rw [bx t]; omega
theorem mN (t : Tree) : t.leads.length < tbulk t := by
 have := gf t.leads; rw [bx t]; omega
theorem fh {C : Tree → Prop} (h : ∀ t : Tree, (∀ (i : Nat) (u : Tree), t.kids[i]? = some u → C u) → C t) : ∀ t, C t := fun t => by
 have : ∀ n t, tbulk t ≤ n → C t := fun n => by
  induction n with
  | zero => intro t ht; have := bq t; omega
  | succ n ih => intro t ht; exact h t fun i u hu => ih u (by have := ej hu; omega)
 exact this _ t (Nat.le_refl _)
theorem aX {α : Type} (l : List α) (i : Nat) : (∃ x, l[i]? = some x ∧ i < l.length) ∨ (¬ i < l.length) := by
 by_cases h : i < l.length
 ·exact .inl ⟨l[i], by simp [h], h⟩
 ·exact .inr h
theorem bv {α : Type} {l : List α} {i : Nat} {x : α} (h : l[i]? = some x) : l.drop i = x :: l.drop (i + 1) := by
 obtain ⟨hl, rfl⟩ := List.getElem?_eq_some_iff.1 h
 exact List.drop_eq_getElem_cons hl
end Go.Proofs.Ytpnpdlnpikkeaaa
namespace Go.Proofs.Ytpnpdlnpikkeaaa
open Go.RowKit Lx Sx
set_option maxRecDepth 100000
set_option maxHeartbeats 4000000
mutual
def shapedT : Tree → Bool
 | .node k s _ ks => decide (0 ≤ bm k ks.length) && jR k s && kidsT k ks.length ks 0
def kidsT (k : Int) (n : Nat) : List Tree → Nat → Bool
 | [], _ => true
 | t :: r, i => lQ k n i t.kind && shapedT t && kidsT k n r (i + 1)
end
end Go.Proofs.Ytpnpdlnpikkeaaa
namespace Go.Proofs.Ytpnpdlnpikkeaaa
open Go.RowKit Lx Sx
set_option maxRecDepth 100000
set_option maxHeartbeats 4000000
def cI (k : Int) : List (List UInt8) → Nat → Bool
 | [], _ => true
 | l :: r, i => aL false l (k == 1 && (i : Int) == 2) && cI k r (i + 1)
mutual
def leadedT : Tree → Bool
 | .node k _ ls ks => decide ((ls.length : Int) = bm k ks.length) && cI k ls 0 && leadedsT ks
def leadedsT : List Tree → Bool
 | [] => true
 | t :: r => leadedT t && leadedsT r
end
end Go.Proofs.Ytpnpdlnpikkeaaa
namespace Go.Proofs.Ytpnpdlnpikkeaaa
open Go.RowKit
set_option maxRecDepth 100000
def BdV (T Bs b : Nat) (p v : Value) (tl : List Value) (l : List UInt8) (w : World) : Prop :=
 Bs ≤ b ∧ w.heap[b]? = some (.cells (p :: v :: tl).toArray T (0, 0)) ∧ w.ownsRow Bs 5 1 v l.length (Lib.byteCells l)
def Bd (T Bs b : Nat) (tl : List Value) (l : List UInt8) (w : World) : Prop :=
 ∃ p v, (p = .pointer none ∨ p = .pointer (some ⟨b, 0, none⟩)) ∧ BdV T Bs b p v tl l w
def FrB (b : Nat) (w w' : World) : Prop :=
 w.heap.size ≤ w'.heap.size ∧ ∀ k, k < w.heap.size → k ≠ b → (∀ cs fr, w.heap[k]? ≠ some (.cells cs 5 fr)) → w'.heap[k]? = w.heap[k]?
theorem FrB.refl (b : Nat) (w : World) : FrB b w w := ⟨Nat.le_refl _, fun _ _ _ _ => rfl⟩
theorem FrB.trans {b : Nat} {w w1 w2 : World} (h : FrB b w w1) (k : FrB b w1 w2) : FrB b w w2 :=
 ⟨Nat.le_trans h.1 k.1, fun i hi hb hn => by
  have e := h.2 i hi hb hn
  rw [k.2 i (Nat.lt_of_lt_of_le hi h.1) hb (by rw [e]; exact hn), e]⟩
theorem FrB.keep {b : Nat} {w w' : World} (h : FrB b w w') {k : Nat} {cs : Array Value} {T : TypeId} {fr : Nat × Nat} (hk : w.heap[k]? = some (.cells cs T fr)) (hT : T ≠ 5) (hb : k ≠ b) : w'.heap[k]? = some (.cells cs T fr) := by
 have hlt : k < w.heap.size := by
  rcases Nat.lt_or_ge k w.heap.size with h' | h'
  ·exact h'
  ·simp [Array.getElem?_eq_none h'] at hk
 rw [h.2 k hlt hb (fun cs' fr' e => hT (by rw [hk] at e; simp at e; exact e.2.1)), hk]
theorem tH {w : World} {b : Nat} {o : Obj} (h : w.heap[b]? = some o) : b < w.heap.size := by
 rcases Nat.lt_or_ge b w.heap.size with h' | h'
 ·exact h'
 ·simp [Array.getElem?_eq_none h'] at h
theorem wT : (Try.prog.info? 67).map (·.size) = some 2 := by kernel_rfl
theorem xW : (Try.prog.info? 5).map (fun i => (i.zero, i.size, i.bytes)) = some (some (.int .u8 0), 1, 1) := by kernel_rfl
theorem wI : Try.prog.cellsOf 5 = 1 := by kernel_rfl
def qV (T : TypeId) (n : Nat) : Prop := T ≠ 5 ∧ liesAt Try.prog Try.prog.depth T ((n + 2) / Try.prog.cellsOf T) 0 67 1 = true
set_option maxHeartbeats 1000000 in
set_option maxRecDepth 100000 in
theorem pD (b : Nat) (w : World) (h0 : w.cell? ⟨b, 0, none⟩ = some (.pointer (some ⟨b, 0, none⟩))) :
  Calls Try.prog 89 #[.pointer (some ⟨b, 0, none⟩)] w fun e w' => e = .returned (.tuple #[]) ∧ w = w' := by
 obtain ⟨j, hj, _⟩ := Option.map_eq_some_iff.1 wT
 go_enter Try.func89, Try.ntmps89
 go_wp2
 rw [Lib.run_neq_ptr_same w _ Try.underlying64 hj]
 go_wp2
 go_end0
 exact ⟨rfl, rfl⟩
set_option maxHeartbeats 1000000 in
set_option maxRecDepth 100000 in
theorem pi (T n b : Nat) (w : World) (hT : qV T n) (h0 : w.cell? ⟨b, 0, none⟩ = some (.pointer none)) (hsh : w.shape? b = some (T, n + 2)) (hfz : w.frozen? ⟨b, 0, none⟩ = false) :
  Calls Try.prog 89 #[.pointer (some ⟨b, 0, none⟩)] w fun e w' => e = .returned (.tuple #[]) ∧ w' = w.setCell ⟨b, 0, none⟩ (.pointer (some ⟨b, 0, none⟩)) := by
 obtain ⟨j, hj, hjs⟩ := Option.map_eq_some_iff.1 wT
 have HT := Lib.hid hT; clear hT
 go_enter Try.func89, Try.ntmps89
 go_wp2
 rw [Lib.run_to_unsafe w ⟨b, 0, none⟩ Try.underlying64 Try.underlying98 hj (by rw [hjs]; decide) hsh (Nat.succ_pos _)]
 simp only [Result.andThen]
 rw [Oper.upon_value]
 go_wp2
 rw [run_callFunc_extern Try.func98 (by kernel_rfl) (by kernel_rfl) (by kernel_rfl) (e := Extern.AbiNoEscape.same) (by kernel_rfl)]
 rw [Lib.run_noEscape]
 simp only [Result.andThen]
 rw [Oper.upon_value]
 go_wp2
 rw [Lib.run_from_unsafe w ⟨b, 0, none⟩ Try.underlying98 Try.underlying64 hj hsh HT.out.2]
 simp only [Result.andThen]
 rw [Oper.upon_value]
 go_wp2
 go_end0
 exact ⟨rfl, rfl⟩
theorem wv (T Bs b : Nat) (tl : List Value) (l : List UInt8) (w : World) (hT : qV T tl.length) (h : Bd T Bs b tl l w) :
  Calls Try.prog 89 #[.pointer (some ⟨b, 0, none⟩)] w fun e w' => e = .returned (.tuple #[]) ∧ ((∃ v, BdV T Bs b (.pointer (some ⟨b, 0, none⟩)) v tl l w') ∧ FrB b w w' ∧ Below Bs w w') := by
 obtain ⟨p, v, hp, hB, hbk, hown⟩ := h
 have hc0 : w.cell? ⟨b, 0, none⟩ = some p := by rw [Lib.cell_of_heap hbk]; rfl
 have hne : v.ownBlock ≠ some b := Lib.ownBlock_ne hown hbk hT.1
 rcases hp with rfl | rfl
 ·refine (pi T tl.length b w hT hc0 (by simp [World.shape?, hbk]) (Lib.frozen_of_heap hbk 0)).mono ?_
  rintro e w' ⟨rfl, rfl⟩
  refine ⟨rfl, ⟨v, hB, ?_, ?_⟩, ⟨by simp [World.setCell], fun k _ hk _ => Below.heap_setCell _ _ _ _ hk⟩, (Below.refl Bs w).setCell (p := ⟨b, 0, none⟩) hB _⟩
  ·simp [World.setCell, Array.getElem?_modify, hbk]
  ·exact hown.kept (row := some b) ⟨rfl, rfl, rfl, by simp [World.setCell], fun k _ hk => Below.heap_setCell _ _ _ _ (fun e => hk (by simp [e]))⟩ (Or.inr hne)
 ·refine (pD b w hc0).mono ?_
  rintro e w' ⟨rfl, rfl⟩
  exact ⟨rfl, ⟨v, hB, hbk, hown⟩, FrB.refl _ _, Below.refl _ _⟩
set_option maxHeartbeats 2000000 in
set_option maxRecDepth 100000 in
theorem tn (T Bs b : Nat) (tl : List Value) (l s : List UInt8) (w : World) (hT : qV T tl.length) (h : Bd T Bs b tl l w) (hlen : l.length + s.length ≤ 140737488355328) (hBw : Bs ≤ w.heap.size) :
  Calls Try.prog 81 #[.pointer (some ⟨b, 0, none⟩), .string ⟨s.toArray⟩] w fun e w' => e = .returned (.tuple #[.int .i64 s.length, .nilIface]) ∧ (Bd T Bs b tl (l ++ s) w' ∧ FrB b w w' ∧ Below Bs w w') := by
 obtain ⟨i0, hi, hz0, hz1, hz2⟩ := nI xW
 have HT := Lib.hid hT; clear hT
 go_enter Try.func81, Try.ntmps81
 go_wp2_with (go_at_call 89; refine (wv T Bs b tl l _ HT.out h).mono ?_)
 rintro e w1 ⟨rfl, ⟨v, hB, hbk, hown⟩, hfr, hb1⟩
 have hne : v.ownBlock ≠ some b := Lib.ownBlock_ne hown hbk HT.out.1
 have HBk := Lib.hid hbk
 have HFr := Lib.hid hfr; clear hfr h
 have c1 : w1.cell? ⟨b, 1, none⟩ = some v := by rw [Lib.cell_of_heap hbk]; rfl
 have hs1 := hb1.size
 have HB1 := Lib.hid hb1; clear hb1 hbk
 go_wp2_with (at_builtin; refine Lib.wpList_append_own_string _ rfl _ _ 65 9 rfl Bs 5 i0 Try.underlying65 Try.underlying9 hi hz0 hz1 hz2 _ _ _ rfl hown ⟨s.toArray⟩ rfl ?c3 ?c4 ?c5 ?_)
 case c3 => unfold maxLen; simp only [List.size_toArray, ByteArray.size]; omega
 case c4 => simp only [List.size_toArray, ByteArray.size]; omega
 case c5 => omega
 intro v' w2 hown' hgrow _
 have hlt : b < w1.heap.size := tH HBk.out
 have hb2 : w2.heap[b]? = some (.cells (.pointer (some ⟨b, 0, none⟩) :: v :: tl).toArray T (0, 0)) := by
  rw [hgrow.block b hlt (fun e => hne e.symm)]
  exact HBk.out
 have d1 : w2.cell? ⟨b, 1, none⟩ = some v := by rw [Lib.cell_of_heap hb2]; rfl
 have f1 : w2.frozen? ⟨b, 1, none⟩ = false := Lib.frozen_of_heap hb2 1
 have hown2 : w2.ownsRow Bs 5 1 v' (l ++ s).length (Lib.byteCells (l ++ s)) := by
  have e1 : Lib.byteCells (l ++ s) = Lib.byteCells l ++ Lib.strCells ⟨s.toArray⟩ := by simp [Lib.byteCells, Lib.strCells]
  rw [e1, List.length_append]; exact hown'
 obtain ⟨ao, n', cap, hv'⟩ : ∃ ao n' cap, v' = .slice ao n' cap := by
  rcases hown'.2 with ⟨hv, _⟩ | ⟨g, cap, cur, hv, _⟩
  ·exact ⟨_, _, _, hv⟩
  ·exact ⟨_, _, _, hv⟩
 subst hv'
 have hne2 := Lib.ownBlock_ne hown2 hb2 HT.out.1
 have HG := Lib.hid hgrow
 have HO := Lib.hid hown
 have HO2 := Lib.hid hown2
 have HB2 := Lib.hid hb2
 clear hgrow hown hown' hown2 hb2
 go_wp2
 go_ret2
 refine ⟨by simp, ⟨_, .slice ao n' cap, .inr rfl, hB, ?_, ?_⟩, ?_, ?_⟩
 ·simp [World.setCell, Array.getElem?_modify, HB2.out]
 ·exact HO2.out.kept (row := some b) ⟨rfl, rfl, rfl, by simp [World.setCell], fun k _ hk => Below.heap_setCell _ _ _ _ (fun e => hk (by simp [e]))⟩ (Or.inr hne2)
 ·refine HFr.out.trans ⟨by simp [World.setCell]; exact HG.out.size, fun k hk hkb hn => ?_⟩
  rw [Below.heap_setCell _ _ _ _ hkb, HG.out.block k hk (fun e => ?_)]
  rcases HO.out.2 with ⟨hv, _⟩ | ⟨g, cap, cur, hv, _, hg, _⟩
  ·rw [hv] at e; simp [Value.ownBlock] at e
  ·rw [hv] at e
   simp only [Value.ownBlock, Option.some.injEq] at e
   subst e
   exact hn _ _ hg
 ·exact (HB1.out.grown HG.out (by omega) (fun k hk => (HO.out.lt k hk).1)).setCell (p := ⟨b, 1, none⟩) hB _
theorem nG (W : World) (q : Option Addr) : (Builtin.unsafeString_ #[85, 3] 9 #[.pointer q, .int .i64 0]).run Try.prog W = .ok (.string .empty) W :=
 Lib.run_unsafeString_none W _ _ _ q
set_option maxHeartbeats 2000000 in
set_option maxRecDepth 100000 in
theorem qJ (T Bs b : Nat) (tl : List Value) (l : List UInt8) (w : World) (h : Bd T Bs b tl l w) (hBw : Bs ≤ w.heap.size) :
  Calls Try.prog 41 #[.pointer (some ⟨b, 0, none⟩)] w fun e w' => e = .returned (.string ⟨l.toArray⟩) ∧ Below Bs w w' := by
 obtain ⟨p, v, hp, hB, hbk, hown⟩ := h
 have hlt : b < w.heap.size := tH hbk
 clear hp
 by_cases h0 : l = []
 ·subst h0
  have hUS := nG
  rcases hown.2 with ⟨rfl, _⟩ | ⟨g, cap, cur, rfl, hbg, hg, _⟩
  ·have c1 : w.drew.cell? ⟨b, 1, none⟩ = some (.slice none 0 0) := by
    have : w.drew.heap[b]? = some (.cells (p :: .slice none 0 0 :: tl).toArray T (0, 0)) := hbk
    rw [Lib.cell_of_heap this]; rfl
   have hSD : (Builtin.unsafeSliceData_ #[65] 85 #[.slice none 0 0]).run Try.prog w.drew = .ok (.pointer none) w.drew := rfl
   clear hbk hown
   go_enter Try.func41, Try.ntmps41
   go_wp2
   go_region
   all_goals (go_wp2; go_ret; exact ⟨rfl, Below.drew (Below.refl Bs w)⟩)
  ·by_cases hc0 : cap = 0
   ·subst hc0
    have c1 : w.drew.cell? ⟨b, 1, none⟩ = some (.slice (some ⟨g, 0, none⟩) 0 0) := by
     have : w.drew.heap[b]? = some (.cells (p :: .slice (some ⟨g, 0, none⟩) 0 0 :: tl).toArray T (0, 0)) := hbk
     rw [Lib.cell_of_heap this]; rfl
    have hSD : (Builtin.unsafeSliceData_ #[65] 85 #[.slice (some ⟨g, 0, none⟩) 0 0]).run Try.prog w.drew = .ok (.pointer (some ⟨w.drew.heap.size, 0, none⟩)) (w.drew.alloc (.view ⟨g, 0, none⟩ 5)) :=
     Lib.run_unsafeSliceData_zero w.drew _ _ 5 Try.underlying85 ⟨g, 0, none⟩ 0 (5, cur.size) (by have hg' : w.drew.heap[g]? = some (.cells cur 5 (0, 0)) := hg; simp [World.shape?, hg'])
    have c2 : (w.drew.alloc (.view ⟨g, 0, none⟩ 5)).cell? ⟨b, 1, none⟩ = some (.slice (some ⟨g, 0, none⟩) 0 0) := by
     have : (w.drew.alloc (.view ⟨g, 0, none⟩ 5)).heap[b]? = _ := (Below.heap_alloc w.drew _ b hlt).trans hbk
     rw [Lib.cell_of_heap this]; rfl
    have c3 : (w.alloc (.view ⟨g, 0, none⟩ 5)).drew.cell? ⟨b, 1, none⟩ = some (.slice (some ⟨g, 0, none⟩) 0 0) := c2
    have c0 : w.cell? ⟨b, 1, none⟩ = some (.slice (some ⟨g, 0, none⟩) 0 0) := c1
    clear hbk hown hg
    go_enter Try.func41, Try.ntmps41
    go_wp2
    go_region
    all_goals (go_wp2; go_ret; exact ⟨rfl, (Below.drew (Below.refl Bs w)).alloc hBw _⟩)
   ·have c1 : w.drew.cell? ⟨b, 1, none⟩ = some (.slice (some ⟨g, 0, none⟩) 0 cap) := by
     have : w.drew.heap[b]? = some (.cells (p :: .slice (some ⟨g, 0, none⟩) 0 cap :: tl).toArray T (0, 0)) := hbk
     rw [Lib.cell_of_heap this]; rfl
    have hSD : (Builtin.unsafeSliceData_ #[65] 85 #[.slice (some ⟨g, 0, none⟩) 0 cap]).run Try.prog w.drew = .ok (.pointer (some ⟨g, 0, none⟩)) w.drew :=
     Lib.run_unsafeSliceData_row _ _ _ _ _ _ hc0
    clear hbk hown hg hc0
    go_enter Try.func41, Try.ntmps41
    go_wp2
    go_region
    all_goals (go_wp2; go_ret; exact ⟨rfl, Below.drew (Below.refl Bs w)⟩)
 ·have hl0 : l.length ≠ 0 := by simpa using h0
  obtain ⟨g, cap, cur, rfl, hbg, hg, hnc, hcm, hcs, htake⟩ : ∃ g cap cur, v = .slice (some ⟨g, 0, none⟩) l.length cap ∧ Bs ≤ g ∧ w.heap[g]? = some (.cells cur 5 (0, 0)) ∧ l.length ≤ cap ∧ cap ≤ maxLen ∧ cur.size = cap * 1 ∧ cur.toList.take (l.length * 1) = Lib.byteCells l := by
   rcases hown.2 with ⟨_, hz⟩ | ⟨g, cap, cur, hv, r⟩
   ·exact absurd hz hl0
   ·exact ⟨g, cap, cur, hv, r⟩
  have c1 : w.drew.cell? ⟨b, 1, none⟩ = some (.slice (some ⟨g, 0, none⟩) l.length cap) := by
   have : w.drew.heap[b]? = some (.cells (p :: .slice (some ⟨g, 0, none⟩) l.length cap :: tl).toArray T (0, 0)) := hbk
   rw [Lib.cell_of_heap this]; rfl
  have hSD : (Builtin.unsafeSliceData_ #[65] 85 #[.slice (some ⟨g, 0, none⟩) l.length cap]).run Try.prog w.drew = .ok (.pointer (some ⟨g, 0, none⟩)) w.drew :=
   Lib.run_unsafeSliceData_row _ _ _ _ _ _ (by omega)
  have hUS : (Builtin.unsafeString_ #[85, 3] 9 #[.pointer (some ⟨g, 0, none⟩), .int .i64 l.length]).run Try.prog w.drew = .ok (.string ⟨l.toArray⟩) (w.drew.freeze ⟨g, 0, none⟩ l.length) := by
   refine Lib.run_unsafeString_row w.drew 85 3 9 5 Try.underlying85 wI g cur.size (by have hg' : w.drew.heap[g]? = some (.cells cur 5 (0, 0)) := hg; simp [World.shape?, hg']) l h0 (by omega) (by unfold maxLen at hcm; omega) ?_
   intro j x hx
   have := hown.cells (g := g) rfl j (.int .u8 x.toNat) (by simp [Lib.byteCells, hx])
   exact this
  clear hbk hown hg htake hcs
  go_enter Try.func41, Try.ntmps41
  go_wp2
  go_region
  all_goals (go_wp2; go_ret; exact ⟨rfl, Lib.below_freeze (Below.drew (Below.refl Bs w)) (p := ⟨g, 0, none⟩) hbg _⟩)
end Go.Proofs.Ytpnpdlnpikkeaaa
namespace Go.Proofs.Ytpnpdlnpikkeaaa
open Go.RowKit Lx Sx
set_option maxRecDepth 100000
set_option maxHeartbeats 4000000
def gv (w : World) (k : Nat) : Bool := match w.heap[k]? with | some (.cells _ t _) => t == 5 | _ => false
def prX (Bs b : Nat) (w : World) : List Nat := (List.range w.heap.size).filter fun k => decide (Bs ≤ k) && (k == b || gv w k)
structure Prn (Bs b : Nat) (w w' : World) : Prop where
 base : Bs ≤ w.heap.size
 below : Below Bs w w'
 fr : FrB b w w'
theorem uL {w : World} {k : Nat} (h : gv w k = false) (cs : Array Value) (fr : Nat × Nat) : w.heap[k]? ≠ some (.cells cs 5 fr) := by
 intro e; simp [gv, e] at h
theorem uz {w : World} {k : Nat} (h : ∀ cs fr, w.heap[k]? ≠ some (.cells cs 5 fr)) : gv w k = false := by
 unfold gv
 split
 ·rename_i cs t fr e
  rw [beq_eq_false_iff_ne]; rintro rfl; exact h _ _ e
 ·rfl
theorem dl {Bs b : Nat} {w : World} {k : Nat} : k ∈ prX Bs b w ↔ k < w.heap.size ∧ Bs ≤ k ∧ (k = b ∨ gv w k = true) := by
 simp [prX]
theorem Prn.chg {Bs b : Nat} {w w' : World} (h : Prn Bs b w w') : Chg (prX Bs b w) w w' :=
 ⟨h.below.os, h.below.tape, h.below.output, h.below.size, fun k hk hX => by
  rcases Nat.lt_or_ge k Bs with hB | hB
  ·exact h.below.block k hB
  ·have hn : ¬ (k = b ∨ gv w k = true) := fun hc => hX (dl.2 ⟨hk, hB, hc⟩)
   refine h.fr.2 k hk (fun e => hn (.inl e)) (uL ?_)
   cases hb : gv w k
   ·rfl
   ·exact absurd (.inr hb) hn⟩
theorem Prn.refl {Bs b : Nat} {w : World} (h : Bs ≤ w.heap.size) : Prn Bs b w w := ⟨h, Below.refl _ _, FrB.refl _ _⟩
theorem Prn.trans {Bs b : Nat} {w w1 w2 : World} {X : List Nat} (h : Prn Bs b w w1) (k : Chg X w1 w2) (hX : ∀ x, x ∈ X → x ∈ prX Bs b w1 ∨ w.heap.size ≤ x) : Prn Bs b w w2 :=
 ⟨h.base, ⟨k.os.trans h.below.os, k.tape.trans h.below.tape, k.output.trans h.below.output, Nat.le_trans h.below.size k.size, fun i hi => by
  have hlt : i < w.heap.size := Nat.lt_of_lt_of_le hi h.base
  rw [k.block i (Nat.lt_of_lt_of_le hlt h.below.size) (fun hc => ?_), h.below.block i hi]
  rcases hX i hc with h1 | h1
  ·have := (dl.1 h1).2.1; omega
  ·omega⟩, ⟨Nat.le_trans h.fr.1 k.size, fun i hi hb hn => by
  have e := h.fr.2 i hi hb hn
  rw [k.block i (Nat.lt_of_lt_of_le hi h.fr.1) (fun hc => ?_), e]
  rcases hX i hc with h1 | h1
  ·rcases (dl.1 h1).2.2 with h2 | h2
   ·exact hb h2
   ·rw [uz (by rw [e]; exact hn)] at h2; cases h2
  ·omega⟩⟩
theorem Prn.t0 {Bs b : Nat} {w w1 w2 : World} (h : Prn Bs b w w1) (k : Chg [] w1 w2) : Prn Bs b w w2 := h.trans k ll
theorem Prn.n1 {Bs b : Nat} {w w1 w2 : World} {c : Nat} (h : Prn Bs b w w1) (k : Chg [c] w1 w2) (g : w.heap.size ≤ c) : Prn Bs b w w2 := h.trans k (allc (.inr g) ll)
theorem Prn.ge_new {Bs b : Nat} {w w1 : World} {c : Nat} (h : Prn Bs b w w1) (e : c = w1.heap.size) : w.heap.size ≤ c := e ▸ h.below.size
theorem kn {Bs b : Nat} {w : World} {k : Nat} (h : k < Bs) : k ∉ prX Bs b w := fun hc => by have := (dl.1 hc).2.1; omega
theorem ax {Bs b : Nat} {w : World} {k : Nat} {t : TypeId} {cs : List Value} (h : Blk w k t cs) (ht : (t == 5) = false) (hk : k ≠ b) : k ∉ prX Bs b w := fun hc => by
 rcases (dl.1 hc).2.2 with h2 | h2
 ·exact hk h2
 ·unfold Blk at h; rw [gv, h] at h2; simp only [ht] at h2; cases h2
end Go.Proofs.Ytpnpdlnpikkeaaa
namespace Go.Proofs.Ytpnpdlnpikkeaaa
open Go.RowKit Lx Sx
set_option maxRecDepth 100000
set_option maxHeartbeats 4000000
theorem yG : qV 69 1 := ⟨by decide, by kernel_rfl⟩
abbrev Pr (Bs b : Nat) (x l : List UInt8) (w : World) : Prop := Bd 69 Bs b [aF x] l w
theorem Pr.chg0 {Bs b : Nat} {x l : List UInt8} {w w' : World} (h : Pr Bs b x l w) (hx : Chg [] w w') : Pr Bs b x l w' := by
 obtain ⟨p, v, hp, hB, hbk, hown⟩ := h
 exact ⟨p, v, hp, hB, (show Blk w b _ [p, v, aF x] from hbk).chg hx nm0, own_chg hown hx (fun _ _ => nm0)⟩
theorem Pr.open_ {Bs b : Nat} {x l : List UInt8} {w : World} (h : Pr Bs b x l w) : ∃ p v, Blk w b 69 [p, v, aF x] ∧ Bs ≤ b ∧ ∀ y w', Blk w' b 69 [p, v, aF y] → Chg [b] w w' → Pr Bs b y l w' := by
 obtain ⟨p, v, hp, hB, hbk, hown⟩ := h
 have hne : v.ownBlock ≠ some b := Lib.ownBlock_ne hown hbk yG.1
 exact ⟨p, v, hbk, hB, fun y w' hb hx => ⟨p, v, hp, hB, hb, own_chg hown hx (fun g hg => nmc (fun e => hne (e ▸ hg)) nm0)⟩⟩
theorem wsL {Bs b : Nat} {x l s : List UInt8} {w : World} (h : Pr Bs b x l w) (hlen : l.length + s.length ≤ 140737488355328) (hBw : Bs ≤ w.heap.size) :
  Calls Try.prog 81 [.pointer (some ⟨b, 0, none⟩), aF s].toArray w fun e w' => e = .returned (.tuple #[.int .i64 s.length, .nilIface]) ∧ Pr Bs b x (l ++ s) w' ∧ Chg (prX Bs b w) w w' ∧ Bs ≤ w'.heap.size :=
 (tn _ Bs b [aF x] l s w yG h hlen hBw).mono fun _ _ ⟨e, h1, h2, h3⟩ => ⟨e, h1, (Prn.mk hBw h3 h2).chg, nlt hBw h3.size⟩
def fI (last lead tok : List UInt8) : List UInt8 := if lead = [] ∧ last ≠ [] ∧ fusesT last tok = true then [32] else lead
theorem cq {Bs b : Nat} {last l lead tok : List UInt8} {w : World} (hP : Pr Bs b last l w) (hl : l.length + lead.length + tok.length + 1 ≤ 1000000000000) (hl2 : last.length ≤ 1000000000000) (hBw : Bs ≤ w.heap.size) :
    Calls Try.prog 65 [.pointer (some ⟨b, 0, none⟩), aF lead, aF tok].toArray w fun e w' => e = .returned (.tuple #[]) ∧ Pr Bs b tok (l ++ fI last lead tok ++ tok) w' ∧ Prn Bs b w w' := by
  obtain ⟨p, v, hB, hBs, hcl⟩ := hP.open_
  have hE := Prn.refl (b := b) hBw
  refine rE 37 Try.func65 rfl rfl rfl ?_
  intro a hf
  refine rR 4 hf rfl fun a hf => rB hf rfl (fun c hc => wA hf rfl rfl hc) ?_ ?_
  clear hf a; intro h7 a hf
  refine rR 4 hf rfl fun a hf => rV hf rfl (am hf rfl (by kernel_rfl) hB rfl) fun a hf => rB hf rfl (fun c hc => wd hf rfl rfl hc) ?_ ?_
  clear hf a; intro h13 a hf
  refine rR 5 hf rfl fun a hf => rV hf rfl (am hf rfl (by kernel_rfl) hB rfl) fun a hf => rR 1 hf rfl fun a hf => ?_
  rcases Bool.eq_false_or_eq_true (fusesT last tok) with hbf | hbf
  refine rC hf rfl rfl (by kernel_rfl) (tX (qi (wD last tok _ (by omega) (by omega))) hbf) ?_
  rintro _ w2 ⟨rfl, hx1⟩
  refine ⟨_, rfl, fun a hf => ?_⟩
  replace hB := hB.c0 hx1
  replace hP := hP.chg0 hx1
  replace hBw := nlt hBw hx1.size
  replace hE := hE.t0 hx1
  refine rR 14 hf rfl fun a hf => rC hf rfl rfl (by kernel_rfl) (wsL (s := [32]) hP (by (try simp only [List.length_append, List.length_cons, List.length_nil]); omega) hBw) ?_
  rintro _ w4 ⟨rfl, hPn, hx3, _⟩
  refine ⟨_, rfl, fun a hf => ?_⟩
  replace hE := hE.trans hx3 (fun _ h => .inl h)
  clear hP hB hBw hcl p v; rename_i hBw; have hP := hPn; clear hPn
  obtain ⟨p, v, hB, _, hcl⟩ := hP.open_
  have hPm : b ∈ prX Bs b w4 := dl.2 ⟨hB.lt, hBs, .inl rfl⟩
  refine rR 8 hf rfl fun a hf => rC hf rfl rfl (by kernel_rfl) (wsL (s := tok) hP (by (try simp only [List.length_append, List.length_cons, List.length_nil]); omega) hBw) ?_
  rintro _ w6 ⟨rfl, hPn, hx5, _⟩
  refine ⟨_, rfl, fun a hf => ?_⟩
  replace hE := hE.trans hx5 (fun _ h => .inl h)
  clear hP hB hBw hcl p v; rename_i hBw; have hP := hPn; clear hPn
  obtain ⟨p, v, hB, _, hcl⟩ := hP.open_
  have hPm : b ∈ prX Bs b w6 := dl.2 ⟨hB.lt, hBs, .inl rfl⟩
  refine rR 7 hf rfl fun a hf => ?_
  obtain ⟨w7, he, hB8, hx9⟩ := eS 9 (.tmp 36) (.tmp 34) hf rfl rfl (by kernel_rfl) rfl hB rfl 0
  refine rS hf rfl he fun a hf => ?_
  replace hE := hE.trans hx9 (allc (.inl hPm) ll)
  clear hB
  refine rR 1 hf rfl fun a hf => ?_
  have eg : fI last lead tok = [32] := by simp at h7 h13 hbf; simp [fI, h7, h13, hbf]
  rw [eg]
  exact rF (rs := []) hf rfl rfl ⟨rfl, hcl _ _ hB8 hx9, hE⟩
  refine rC hf rfl rfl (by kernel_rfl) (tX (qi (wD last tok _ (by omega) (by omega))) hbf) ?_
  rintro _ w10 ⟨rfl, hx1⟩
  refine ⟨_, rfl, fun a hf => ?_⟩
  replace hB := hB.c0 hx1
  replace hP := hP.chg0 hx1
  replace hBw := nlt hBw hx1.size
  replace hE := hE.t0 hx1
  refine rR 12 hf rfl fun a hf => rC hf rfl rfl (by kernel_rfl) (wsL (s := lead) hP (by (try simp only [List.length_append, List.length_cons, List.length_nil]); omega) hBw) ?_
  rintro _ w12 ⟨rfl, hPn, hx11, _⟩
  refine ⟨_, rfl, fun a hf => ?_⟩
  replace hE := hE.trans hx11 (fun _ h => .inl h)
  clear hP hB hBw hcl p v; rename_i hBw; have hP := hPn; clear hPn
  obtain ⟨p, v, hB, _, hcl⟩ := hP.open_
  have hPm : b ∈ prX Bs b w12 := dl.2 ⟨hB.lt, hBs, .inl rfl⟩
  refine rR 8 hf rfl fun a hf => rC hf rfl rfl (by kernel_rfl) (wsL (s := tok) hP (by (try simp only [List.length_append, List.length_cons, List.length_nil]); omega) hBw) ?_
  rintro _ w14 ⟨rfl, hPn, hx13, _⟩
  refine ⟨_, rfl, fun a hf => ?_⟩
  replace hE := hE.trans hx13 (fun _ h => .inl h)
  clear hP hB hBw hcl p v; rename_i hBw; have hP := hPn; clear hPn
  obtain ⟨p, v, hB, _, hcl⟩ := hP.open_
  have hPm : b ∈ prX Bs b w14 := dl.2 ⟨hB.lt, hBs, .inl rfl⟩
  refine rR 7 hf rfl fun a hf => ?_
  obtain ⟨w15, he, hB16, hx17⟩ := eS 9 (.tmp 36) (.tmp 34) hf rfl rfl (by kernel_rfl) rfl hB rfl 0
  refine rS hf rfl he fun a hf => ?_
  replace hE := hE.trans hx17 (allc (.inl hPm) ll)
  clear hB
  refine rR 1 hf rfl fun a hf => ?_
  have eg : fI last lead tok = lead := by simp at h7 h13 hbf; simp [fI, h7, h13, hbf]
  rw [eg]
  exact rF (rs := []) hf rfl rfl ⟨rfl, hcl _ _ hB16 hx17, hE⟩
  clear hf a; intro h13 a hf
  refine rR 20 hf rfl fun a hf => rC hf rfl rfl (by kernel_rfl) (wsL (s := lead) hP (by (try simp only [List.length_append, List.length_cons, List.length_nil]); omega) hBw) ?_
  rintro _ w19 ⟨rfl, hPn, hx18, _⟩
  refine ⟨_, rfl, fun a hf => ?_⟩
  replace hE := hE.trans hx18 (fun _ h => .inl h)
  clear hP hB hBw hcl p v; rename_i hBw; have hP := hPn; clear hPn
  obtain ⟨p, v, hB, _, hcl⟩ := hP.open_
  have hPm : b ∈ prX Bs b w19 := dl.2 ⟨hB.lt, hBs, .inl rfl⟩
  refine rR 8 hf rfl fun a hf => rC hf rfl rfl (by kernel_rfl) (wsL (s := tok) hP (by (try simp only [List.length_append, List.length_cons, List.length_nil]); omega) hBw) ?_
  rintro _ w21 ⟨rfl, hPn, hx20, _⟩
  refine ⟨_, rfl, fun a hf => ?_⟩
  replace hE := hE.trans hx20 (fun _ h => .inl h)
  clear hP hB hBw hcl p v; rename_i hBw; have hP := hPn; clear hPn
  obtain ⟨p, v, hB, _, hcl⟩ := hP.open_
  have hPm : b ∈ prX Bs b w21 := dl.2 ⟨hB.lt, hBs, .inl rfl⟩
  refine rR 7 hf rfl fun a hf => ?_
  obtain ⟨w22, he, hB23, hx24⟩ := eS 9 (.tmp 36) (.tmp 34) hf rfl rfl (by kernel_rfl) rfl hB rfl 0
  refine rS hf rfl he fun a hf => ?_
  replace hE := hE.trans hx24 (allc (.inl hPm) ll)
  clear hB
  refine rR 1 hf rfl fun a hf => ?_
  have eg : fI last lead tok = lead := by simp at h7 h13; simp [fI, h7, h13]
  rw [eg]
  exact rF (rs := []) hf rfl rfl ⟨rfl, hcl _ _ hB23 hx24, hE⟩
  clear hf a; intro h7 a hf
  refine rR 26 hf rfl fun a hf => rC hf rfl rfl (by kernel_rfl) (wsL (s := lead) hP (by (try simp only [List.length_append, List.length_cons, List.length_nil]); omega) hBw) ?_
  rintro _ w26 ⟨rfl, hPn, hx25, _⟩
  refine ⟨_, rfl, fun a hf => ?_⟩
  replace hE := hE.trans hx25 (fun _ h => .inl h)
  clear hP hB hBw hcl p v; rename_i hBw; have hP := hPn; clear hPn
  obtain ⟨p, v, hB, _, hcl⟩ := hP.open_
  have hPm : b ∈ prX Bs b w26 := dl.2 ⟨hB.lt, hBs, .inl rfl⟩
  refine rR 8 hf rfl fun a hf => rC hf rfl rfl (by kernel_rfl) (wsL (s := tok) hP (by (try simp only [List.length_append, List.length_cons, List.length_nil]); omega) hBw) ?_
  rintro _ w28 ⟨rfl, hPn, hx27, _⟩
  refine ⟨_, rfl, fun a hf => ?_⟩
  replace hE := hE.trans hx27 (fun _ h => .inl h)
  clear hP hB hBw hcl p v; rename_i hBw; have hP := hPn; clear hPn
  obtain ⟨p, v, hB, _, hcl⟩ := hP.open_
  have hPm : b ∈ prX Bs b w28 := dl.2 ⟨hB.lt, hBs, .inl rfl⟩
  refine rR 7 hf rfl fun a hf => ?_
  obtain ⟨w29, he, hB30, hx31⟩ := eS 9 (.tmp 36) (.tmp 34) hf rfl rfl (by kernel_rfl) rfl hB rfl 0
  refine rS hf rfl he fun a hf => ?_
  replace hE := hE.trans hx31 (allc (.inl hPm) ll)
  clear hB
  refine rR 1 hf rfl fun a hf => ?_
  have eg : fI last lead tok = lead := by simp at h7; simp [fI, h7]
  rw [eg]
  exact rF (rs := []) hf rfl rfl ⟨rfl, hcl _ _ hB30 hx31, hE⟩
end Go.Proofs.Ytpnpdlnpikkeaaa
namespace Go.Proofs.Ytpnpdlnpikkeaaa
open Go.RowKit Lx Sx
set_option maxRecDepth 100000
set_option maxHeartbeats 4000000
def cf (k : Int) (s : List UInt8) : List UInt8 :=
 if k = 5 then [73, 110, 116] else if k = 6 then [84, 101, 120, 116] else if k = 7 then [66, 111, 111, 108] else if k = 13 then [116, 114, 117, 101] else if k = 14 then [102, 97, 108, 115, 101] else if k = 15 then [63] else s
theorem mm {x y : List UInt8} (h : x = y) : (Ending.returned (aF y)) = .returned (aF x) := by rw [h]
theorem zp {k : Int} {tx : List UInt8} {A B : Option Addr} {n1 m1 n2 m2 : Nat} {w : World} : Calls Try.prog 67 [.agg #[.int .i64 k, aF tx, .slice A n1 m1, .slice B n2 m2]].toArray w fun e w' => e = .returned (aF (cf k tx)) ∧ Chg [] w w' := by
  refine rE 19 Try.func67 rfl rfl rfl ?_
  intro a hf
  have hE := Chg.refl [] w
  refine rR 2 hf rfl fun a hf => ?_
  obtain ⟨w1, b2, he, hB3, hx4, eb5, lb6⟩ := cp (P := Try.prog) (t := 25) (x := (.tmp 0)) hf rfl rfl w 0
  refine rV hf rfl he fun a hf => ?_
  have ge_b2 := rx hE eb5
  replace hE := hE.t0 hx4
  clear eb5 lb6
  refine rR 7 hf rfl fun a hf => rV hf rfl (am hf rfl (by kernel_rfl) hB3 rfl) fun a hf => rR 5 hf rfl fun a hf => rB hf rfl (fun c hc => cH hf rfl rfl hc) ?_ ?_
  clear hf a; intro h6 a hf
  refine rR 12 hf rfl fun a hf => ?_
  exact rT (rs := [.tmp 2]) hf rfl ⟨_, _, rfl, rfl, rfl⟩ ⟨mm (by simp only [qA, qB, qC, qD, qE, qF, ne_eq, Int.not_lt, Int.not_le, Decidable.not_not] at h6; simp [cf, h6]), hE⟩
  clear hf a; intro h6 a hf
  refine rR 6 hf rfl fun a hf => rB hf rfl (fun c hc => cH hf rfl rfl hc) ?_ ?_
  clear hf a; intro h8 a hf
  refine rR 12 hf rfl fun a hf => ?_
  exact rT (rs := [.tmp 2]) hf rfl ⟨_, _, rfl, rfl, rfl⟩ ⟨mm (by simp only [qA, qB, qC, qD, qE, qF, ne_eq, Int.not_lt, Int.not_le, Decidable.not_not] at h6 h8; simp [cf, h6, h8]), hE⟩
  clear hf a; intro h8 a hf
  refine rR 6 hf rfl fun a hf => rB hf rfl (fun c hc => cH hf rfl rfl hc) ?_ ?_
  clear hf a; intro h10 a hf
  refine rR 12 hf rfl fun a hf => ?_
  exact rT (rs := [.tmp 2]) hf rfl ⟨_, _, rfl, rfl, rfl⟩ ⟨mm (by simp only [qA, qB, qC, qD, qE, qF, ne_eq, Int.not_lt, Int.not_le, Decidable.not_not] at h6 h8 h10; simp [cf, h6, h8, h10]), hE⟩
  clear hf a; intro h10 a hf
  refine rR 6 hf rfl fun a hf => rB hf rfl (fun c hc => cH hf rfl rfl hc) ?_ ?_
  clear hf a; intro h12 a hf
  refine rR 12 hf rfl fun a hf => ?_
  exact rT (rs := [.tmp 2]) hf rfl ⟨_, _, rfl, rfl, rfl⟩ ⟨mm (by simp only [qA, qB, qC, qD, qE, qF, ne_eq, Int.not_lt, Int.not_le, Decidable.not_not] at h6 h8 h10 h12; simp [cf, h6, h8, h10, h12]), hE⟩
  clear hf a; intro h12 a hf
  refine rR 6 hf rfl fun a hf => rB hf rfl (fun c hc => cH hf rfl rfl hc) ?_ ?_
  clear hf a; intro h14 a hf
  refine rR 12 hf rfl fun a hf => ?_
  exact rT (rs := [.tmp 2]) hf rfl ⟨_, _, rfl, rfl, rfl⟩ ⟨mm (by simp only [qA, qB, qC, qD, qE, qF, ne_eq, Int.not_lt, Int.not_le, Decidable.not_not] at h6 h8 h10 h12 h14; simp [cf, h6, h8, h10, h12, h14]), hE⟩
  clear hf a; intro h14 a hf
  refine rR 6 hf rfl fun a hf => rB hf rfl (fun c hc => cH hf rfl rfl hc) ?_ ?_
  clear hf a; intro h16 a hf
  refine rR 12 hf rfl fun a hf => ?_
  exact rT (rs := [.tmp 2]) hf rfl ⟨_, _, rfl, rfl, rfl⟩ ⟨mm (by simp only [qA, qB, qC, qD, qE, qF, ne_eq, Int.not_lt, Int.not_le, Decidable.not_not] at h6 h8 h10 h12 h14 h16; simp [cf, h6, h8, h10, h12, h14, h16]), hE⟩
  clear hf a; intro h16 a hf
  refine rR 10 hf rfl fun a hf => rV hf rfl (am hf rfl (by kernel_rfl) hB3 rfl) fun a hf => rR 4 hf rfl fun a hf => ?_
  exact rT (rs := [.tmp 2]) hf rfl ⟨_, _, rfl, rfl, rfl⟩ ⟨mm (by simp only [qA, qB, qC, qD, qE, qF, ne_eq, Int.not_lt, Int.not_le, Decidable.not_not] at h6 h8 h10 h12 h14 h16; simp [cf, h6, h8, h10, h12, h14, h16]), hE⟩
end Go.Proofs.Ytpnpdlnpikkeaaa
namespace Go.Proofs.Ytpnpdlnpikkeaaa
open Go.RowKit Lx Sx
abbrev WS := List UInt8 × List UInt8
def ac (lead tok : List UInt8) (s : WS) : WS := (tok, s.2 ++ fI s.1 lead tok ++ tok)
def aR (ls : List (List UInt8)) (c : Nat) : List (WS → WS) → Nat → WS → WS
 | [], _, s => s
 | f :: r, i, s => aR ls c r (i + 1) (f (if 0 < i then ac (ls.getD (c + i - 1) []) [44] s else s))
def rc (k : Int) (x : List UInt8) (ls : List (List UInt8)) (fs : List (WS → WS)) (s : WS) : WS :=
 let L := fun i => ls.getD i []
 let F := fun (i : Nat) => fs.getD i id
 if k = 1 then
  let s := fs.foldl (fun s f => f s) (ac (L 1) x (ac (L 0) [109, 111, 100, 117, 108, 101] s)); (s.1, s.2 ++ L 2)
 else if k = 2 then
  let n := fs.length
  F (n - 1) (ac (L 5) [61] (F (n - 2) (ac (L 4) [58] (ac (L 3) [41] (aR ls 6 (fs.take (n - 2)) 0 (ac (L 2) [40] (ac (L 1) x (ac (L 0) [100, 101, 102] s))))))))
 else if k = 3 then F 0 (ac (L 2) [61] (ac (L 1) x (ac (L 0) [116, 121, 112, 101] s)))
 else F 0 (ac (L 1) [58] (ac (L 0) x s))
def dh (k : Int) (x : List UInt8) (ls : List (List UInt8)) (fs : List (WS → WS)) (s : WS) : WS :=
 let L := fun i => ls.getD i []
 let F := fun (i : Nat) => fs.getD i id
 if k = 1 ∨ k = 2 ∨ k = 3 ∨ k = 4 then rc k x ls fs s
 else if k = 17 then F 0 s
 else if k = 8 then ac (L 1) [93] (F 0 (ac (L 0) [91] s))
 else if k = 16 then ac (L 2) [41] (aR ls 3 fs 0 (ac (L 1) [40] (ac (L 0) x s)))
 else if k = 18 then ac (L 1) [93] (aR ls 2 fs 0 (ac (L 0) [91] s))
 else if k = 19 then F 2 (ac (L 2) [101, 108, 115, 101] (F 1 (ac (L 1) [116, 104, 101, 110] (F 0 (ac (L 0) [105, 102] s)))))
 else if k = 20 then F 1 (ac (L 3) [105, 110] (F 0 (ac (L 2) [61] (ac (L 1) x (ac (L 0) [108, 101, 116] s)))))
 else if k = 21 then F 1 (ac (L 0) x (F 0 s))
 else if k = 22 then ac (L 1) [41] (F 0 (ac (L 0) [40] s))
 else ac (L 0) (cf k x) s
mutual
def treeP : Tree → WS → WS
 | .node k x ls ks => dh k x ls (treesP ks)
def treesP : List Tree → List (WS → WS)
 | [] => []
 | t :: r => treeP t :: treesP r
end
def fM (t : Tree) : List UInt8 := (treeP t ([], [])).2
theorem dr : ∀ ks : List Tree, (treesP ks).length = ks.length
 | [] => rfl
 | t :: r => by simp [treesP, dr r]
theorem mS : ∀ {ks : List Tree} {i : Nat} (h : i < ks.length), (treesP ks).getD i id = treeP ks[i]
 | t :: r, 0, _ => rfl
 | t :: r, i + 1, h => by have := mS (ks := r) (i := i) (by simpa using h); simpa [treesP] using this
end Go.Proofs.Ytpnpdlnpikkeaaa
namespace Go.Proofs.Ytpnpdlnpikkeaaa
open Go.RowKit Lx Sx
def ah (f : Func) : Code := match f.body with
 | some c => c
 | none => .skip
def cA : Code → Code
 | .seq x _ => x
 | c => c
def cB : Code → Code
 | .seq _ y => y
 | c => c
def cK : Code → Code
 | .block _ c => c
 | c => c
def cL : Code → Code
 | .loop c => c
 | c => c
def cT : Code → Code
 | .cond _ x _ => x
 | c => c
def cE : Code → Code
 | .cond _ _ y => y
 | c => c
theorem apM {α : Type} (f : α → V) (l : List α) (x : α) : List.map f l ++ [f x] = List.map f (l ++ [x]) := by simp
theorem zY (x : Tree) : [lZ x] = kidsV [x] := by simp [kidsV, gl]
theorem fX : ∀ (l : List Tree), kidsV l = l.map lZ
 | [] => rfl
 | t :: r => by simp [kidsV, gl, fX r]
theorem mapget {α : Type} {f : α → V} {l : List α} {i : Nat} {x : α} (h : l[i]? = some x) : (List.map f l)[i]? = some (f x) := by simp [h]
theorem bH (l : List Tree) : (kidsV l).length = l.length := jt l
theorem aY {α : Type} (f : α → V) (l : List α) : (List.map f l).length = l.length := List.length_map ..
theorem cg {n : Nat} {m : Nat} (h : n = m) : V.int .i64 (n : Int) = .int .i64 (m : Int) := by rw [h]
theorem jX {α : Type} (f : α → V) (l : List α) (i : Nat) (x : α) : (List.map f l).set i (f x) = List.map f (l.set i x) := by simp
theorem yl (σ : List Nat) : ∀ (l : List Tree), renL σ (kidsV l) = kidsV l
 | [] => rfl
 | t :: r => by simp only [kidsV, renL, yl σ r]; rw [gl]; rfl
theorem ak {α : Type} (σ : List Nat) (f : α → V) (hf : ∀ x, (f x).ren σ = f x) : ∀ (l : List α), renL σ (List.map f l) = List.map f l
 | [] => rfl
 | x :: r => by simp only [List.map_cons, renL, hf, ak σ f hf r]
theorem Bn (l : List Tree) : pureL (kidsV l) = true := px l
theorem ph {α : Type} (f : α → V) (hf : ∀ x, (f x).pure = true) : ∀ (l : List α), pureL (List.map f l) = true
 | [] => rfl
 | x :: r => by simp only [List.map_cons, pureL, hf, ph f hf r]
theorem dH {e : Bool} (h : (!e) = true) : e = false := by simpa using h
theorem dD {e : Bool} (h : (!e) = false) : e = true := by simpa using h
theorem io {α : Type} [BEq α] [LawfulBEq α] {a b : α} (h : (a != b) = true) : a ≠ b := by simpa using h
theorem fS {a b : Nat} (h : decide ((a : Int) < (b : Int)) = true) : a < b := by have := of_decide_eq_true h; omega
theorem gd {a b : Nat} (h : decide ((a : Int) < (b : Int)) = false) : ¬ a < b := by have := of_decide_eq_false h; omega
theorem xK {a b : Nat} (h : ((a : Int) != (b : Int)) = true) : a ≠ b := by have := io h; omega
theorem yc {a b : Nat} (h : ((a : Int) != (b : Int)) = false) : a = b := by have := fz h; omega
theorem jl {n m : Int} (h : n = m) : V.int .i64 n = .int .i64 m := by rw [h]
abbrev InI (x : Int) : Prop := -9223372036854775808 ≤ x ∧ x ≤ 9223372036854775807
section
variable {P : Program} {T : Tab} {K : Ctx} {Q : Exit → Act → World → Prop} {p p' : EP} {s s' : List EI} {n : Nat} {F F' F1 F2 : Fm} {H H' H1 : Hp} {all : Array Oper} {rest : List Oper} {o : Oper} {L : List Nat} {m fuel : Nat} {listed : Array Bool}
theorem yp {h : Nat → Ob} {id : Nat} {o : Ob} (ho : h id = o) : bY h id o = h := by
 funext i
 by_cases hi : i = id
 ·subst hi; rw [bz, ho]
 ·rw [bZ _ _ hi]
theorem gHR {e : TypeId} {sz : Nat} {els : List V} (id : Nat) (els' : List V) (ho : H.get id = .row e sz els) (he : els = els') (h2 : H.ap (.set id (.row e sz els')) _root_.id = H1) (k : Go P K Q p s n F H1) : Go P K Q p s n F H := by
 subst he
 rw [Hp.ap_eq] at h2; subst h2
 have hg : (H.app (.set id (.row e sz els))).get = H.get := by
  rw [Hp.get_app (by exact ⟨by rw [ho]; simp, by rw [ho]; simp⟩)]
  exact yp ho
 intro S w ρ a hr hi hF
 exact k S w ρ a (by rw [id_eq, hg]; exact hr) (by rw [id_eq, hg]; exact hi) hF
theorem CRel.sub {S : Nat → Prop} {w : World} {ρ : Nat → Option Value} {sz : Nat} : ∀ {vs us : List V} {xs : List Value}, bK vs us → CRel S w ρ sz vs xs → CRel S w ρ sz us xs
 | [], us, xs, h, hl => by simp only [bK] at h; subst h; exact hl
 | v :: r, us, xs, h, hl => by
  simp only [bK] at h
  obtain ⟨u, q, rfl, h1, h2⟩ := h
  simp only [CRel] at hl ⊢
  obtain ⟨x, ys, rfl, h3, h4, h5⟩ := hl
  exact ⟨x, ys, rfl, h3, h1 _ _ _ _ h4, h5.sub h2⟩
theorem bK.len : ∀ {vs us : List V}, bK vs us → us.length = vs.length
 | [], us, h => by simp only [bK] at h; subst h; rfl
 | v :: r, us, h => by
  simp only [bK] at h
  obtain ⟨u, q, rfl, _, h2⟩ := h
  simp [h2.len]
def qQ (PL : List Nat) : List (Nat × Ob) → List Nat → Bool
 | [], _ => true
 | (i, o) :: r, pv => (!fP PL i o || pv.contains i) && qQ PL r pv
theorem sR {PL : List Nat} : ∀ {es : List (Nat × Ob)} {pv : List Nat}, qQ PL es pv = true → ∀ i, fP PL i (al es i) = true → i ∈ pv
 | [], pv, h, i, hi => by simp [al, fP] at hi
 | (j, o) :: r, pv, h, i, hi => by
  simp only [qQ, Bool.and_eq_true, Bool.or_eq_true, Bool.not_eq_true'] at h
  simp only [al] at hi
  split at hi
  ·rename_i e
   have := Nat.eq_of_beq_eq_true e
   subst this
   rcases h.1 with h1 | h1
   ·rw [h1] at hi; cases hi
   ·simpa using h1
  ·exact sR h.2 i hi
theorem bp {PL : List Nat} {nx : Nat} {es : List (Nat × Ob)} {pv : List Nat} (h : qQ PL es pv = true) : ∀ i, fP PL i ((⟨nx, es⟩ : Hp).get i) = true → i ∈ pv := fun i hi => by
 unfold Hp.get at hi
 split at hi
 ·exact sR h i hi
 ·simp [fP] at hi
def jn (ids : List Nat) : List (Nat × Ob) → List (Nat × Ob)
 | [] => []
 |(j, o) :: r => match ids.contains j with
  | true => jn ids r
  | false => (j, o) :: jn ids r
theorem oL {ids : List Nat} {i : Nat} : ∀ {l : List (Nat × Ob)}, al (jn ids l) i = al l i ∨ al (jn ids l) i = .gone
 | [] => .inl rfl
 | (j, o) :: r => by
  have ih := oL (ids := ids) (i := i) (l := r)
  simp only [jn]
  split
  ·rename_i hc
   by_cases hj : j = i
   ·subst hj
    refine .inr ?_
    have : ∀ l : List (Nat × Ob), al (jn ids l) j = .gone := fun l => by
     induction l with
     | nil => rfl
     | cons p q ihq =>
      obtain ⟨k, o'⟩ := p
      simp only [jn]
      split
      ·exact ihq
      ·rename_i hk
       have hne : k ≠ j := fun e => by subst e; rw [hc] at hk; cases hk
       simp only [al, nbF hne]
       exact ihq
    exact this r
   ·simp only [al, nbF hj]; exact ih
  ·simp only [al]
   split
   ·exact .inl rfl
   ·exact ih
theorem go_endD {fn : Func} {Post : V → Hp → Prop} {rs : List ResultVar} {vs : List V} {e : Exit} (ids : List Nat) (hT : TabOk P T) (hrs : fn.results = rs.toArray) (hv : mb T H.get F rs = some vs) (hP : Post (iX vs) ⟨H.nx, jn ids H.es⟩) (he : e = .ret ∨ e = .normal := by first | exact .inl rfl | exact .inr rfl) : Go P K (bodyPost P fn (SP K Post)) (.ex e) [] n F H := fun S w ρ a hr hi hF => by
 have hh : ∀ i, (⟨H.nx, jn ids H.es⟩ : Hp).get i = H.get i ∨ (⟨H.nx, jn ids H.es⟩ : Hp).get i = .gone := fun i => by
  unfold Hp.get
  cases hb : Nat.blt i H.nx
  ·exact .inl rfl
  ·exact oL
 exact ret_go hT he hrs hr hF hv fun x hx => ⟨x, S, ρ, _, _, rfl, hP, hr.drop hh, hi.drop hh, hx⟩
theorem gJ (k : Go P K Q p s n F' H') (σ pv : List Nat) (hp : p.still = true) (hpin : aJ K pv) (hF : leF σ F F') (hH : leH σ H H'.es) (hc : (de σ && Nat.ble σ.length H'.nx && vk σ pv && Nat.ble F'.length n) = true) : Go P K Q p s n F H := go_sub σ pv hp hpin hF hH hc k
theorem pN {S : Nat → Prop} {w : World} {ρ : Nat → Option Value} {h : Nat → Ob} {nid : Nat} (e : TypeId) (sz : Nat) (hr : HRel S w ρ h) (hf : h nid = .free) : Eff S w w ρ (cV ρ nid (.slice none 0 0)) h (bY h nid (.row e sz [])) (fun _ => False) :=
 eff_new hr hf (Chg.refl _ _) ⟨_, [], aS _ _ _, ⟨by simp, .inl ⟨rfl, rfl⟩⟩, by simp [CRel]⟩ (fun b hb => by
  obtain ⟨v, h1, h2⟩ := hb
  rw [aS] at h1
  cases h1; cases h2)
theorem gNS (d : Nat) (e : TypeId) (sz : Nat) (hp : p.still = true) (hd : F.get d = some .nils) (h1 : F.put d (some (.sl H.nx)) id = F1) (h2 : H.ap (.new (.row e sz [])) id = H1) (k : Go P K Q p s n F1 H1) : Go P K Q p s n F H := by
 rw [Fm.put_eq] at h1; rw [Hp.ap_eq] at h2; subst h1 h2
 intro S w ρ a hr hi hF
 have he := pN e sz hr H.get_free
 have hg : (H.app (.new (.row e sz []))).get = bY H.get H.nx (.row e sz []) := Hp.get_app trivial
 have := k S w (cV ρ H.nx (.slice none 0 0)) a (by rw [id_eq, hg]; exact he.hr) (by rw [id_eq, hg]; exact hi.eff he) (by
  have hu := hF.up he.up
  refine ⟨hu.size, hu.defers, by simpa using hu.len, fun i u hiu => ?_⟩
  rw [id_eq, Fm.get_eq, List.getElem?_set] at hiu
  split at hiu
  ·rename_i e1; subst e1
   split at hiu
   ·simp only [Option.bind_some, id_eq, Option.some.injEq] at hiu
    subst hiu
    obtain ⟨x, h3, h4⟩ := hF.get d _ hd
    simp only [VRel] at h4; subst h4
    exact ⟨_, h3, by simp only [VRel]; exact ⟨aS _ _ _, rfl⟩⟩
   ·cases hiu
  ·exact hu.get i u (by rw [Fm.get_eq]; exact hiu))
 cases p with
 | drw all L m left listed => cases hp
 | code c => exact this
 | ops all rest => exact this
 | ex e => exact this
theorem gNC {t : TypeId} {cs : List V} (id o : Nat) (e : TypeId) (sz : Nat) (hp : p.still = true) (ho : H.get id = .var t cs) (hc : cs[o]? = some .nils) (h2 : (H.ap (.new (.row e sz [])) fun H1 => H1.ap (.set id (.var t (cs.set o (.sl H.nx)))) _root_.id) = H1) (k : Go P K Q p s n F H1) : Go P K Q p s n F H := by
 rw [Hp.ap_eq, Hp.ap_eq] at h2; subst h2
 intro S w ρ a hr hi hF
 have he := pN e sz hr H.get_free
 have hg : (H.app (.new (.row e sz []))).get = bY H.get H.nx (.row e sz []) := Hp.get_app trivial
 have hne : id ≠ H.nx := fun e1 => by subst e1; rw [H.get_free] at ho; cases ho
 have hg1 : (H.app (.new (.row e sz []))).get id = .var t cs := by rw [hg, bZ _ _ hne, ho]
 have hg2 : ((H.app (.new (.row e sz []))).app (.set id (.var t (cs.set o (.sl H.nx))))).get = bY (H.app (.new (.row e sz []))).get id (.var t (cs.set o (.sl H.nx))) := Hp.get_app (by exact ⟨by rw [hg1]; simp, by rw [hg1]; simp⟩)
 have h1 : HRel S w (cV ρ H.nx (.slice none 0 0)) (H.app (.new (.row e sz []))).get := by rw [hg]; exact he.hr
 have h2 : Inv K S w (cV ρ H.nx (.slice none 0 0)) (H.app (.new (.row e sz []))).get := by rw [hg]; exact hi.eff he
 have how : ∀ i b, own (cV ρ H.nx (.slice none 0 0)) i (bY (H.app (.new (.row e sz []))).get id (.var t (cs.set o (.sl H.nx))) i) b ↔ own (cV ρ H.nx (.slice none 0 0)) i ((H.app (.new (.row e sz []))).get i) b := fun i b => by
  by_cases hi : i = id
  ·subst hi; rw [bz, hg1]; rfl
  ·rw [bZ _ _ hi]
 have := k S w (cV ρ H.nx (.slice none 0 0)) a (by
  rw [id_eq, hg2]
  refine ⟨fun i => ?_, fun i b hb => h1.sep i b ((how i b).1 hb), fun i j b q1 q2 => h1.dis i j b ((how i b).1 q1) ((how j b).1 q2), h1.slt⟩
  by_cases hii : i = id
  ·subst hii
   rw [bz]
   obtain ⟨b, xs, q1, q2, q3⟩ := kw h1 hg1
   obtain ⟨x, q4, q5⟩ := q3.get hc
   simp only [VRel] at q5; subst q5
   refine ⟨b, xs, q1, q2, ?_⟩
   have := q3.set (i := o) (v := .sl H.nx) (x := .slice none 0 0) (by simp only [VRel]; exact ⟨aS _ _ _, rfl⟩)
   have e2 : xs.set o (.slice none 0 0) = xs := by
    obtain ⟨hl, q6⟩ := List.getElem?_eq_some_iff.1 q4
    rw [← q6]; exact List.set_getElem_self ..
   rw [e2] at this; exact this
  ·rw [bZ _ _ hii]; exact h1.ob i) (by
  rw [id_eq, hg2]
  exact ⟨h2.chg, h2.s0, h2.s1, fun i b hb => h2.ow i b ((how i b).1 hb), h2.pin⟩) (hF.up he.up)
 cases p with
 | drw all L m left listed => cases hp
 | code c => exact this
 | ops all rest => exact this
 | ex e => exact this
theorem gLB {sz : Nat} {els : List V} {N : Nat} (d : Nat) (hd : F.get d = some (.row sz els)) (hn : els.length = N) (k : N ≤ 9223372036854775807 → Go P K Q p s n F H) : Go P K Q p s n F H := fun S w ρ a hr hi hF => by
 obtain ⟨x, h1, h2⟩ := hF.get d _ hd
 simp only [VRel] at h2
 obtain ⟨A, c, xs, rfl, h3, h4, _⟩ := h2
 exact k (by simp only [maxLen] at h4; omega) S w ρ a hr hi hF
theorem AV (hT : TabOk P T) {t : TypeId} (ht : (match T.ty t with | some ⟨_, _, _, .str⟩ => true | _ => false) = true) : P.underlying t = some .string := by
 split at ht
 ·rename_i h; exact (hT.ty _ _ h).str rfl
 ·cases ht
theorem yIS (hT : TabOk P T) {t : TypeId} {x y : Operand} {l : List UInt8} {i : Nat} {c : UInt8} {ty : TypeId} (ht : (match T.ty t with | some ⟨_, _, _, .str⟩ => true | _ => false) = true) (hx : aG F x = some (.str l)) (hy : aG F y = some (.int .i64 (i : Int))) (hi : l[i]? = some c) : ∀ S w ρ a, HRel S w ρ H.get → FRel S w ρ a n F → Yld P S w ρ a ty (.index t x y) (.int .u8 (c.toNat : Int)) := fun S w ρ a hr hF =>
 p_idxS hF.fr (AV hT ht) (aj hF hx) (aj hF hy) hi
def sG (F : Fm) (y : Option Operand) (i : Nat) (dflt : Nat) : Prop := (y = none ∧ i = dflt) ∨ ∃ z, y = some z ∧ aG F z = some (.int .i64 (i : Int))
theorem Ch {i : Nat} : sG F none i i := .inl ⟨rfl, rfl⟩
theorem ol {z : Operand} {i d : Nat} (h : aG F z = some (.int .i64 (i : Int))) : sG F (some z) i d := .inr ⟨z, rfl, h⟩
theorem vH {S : Nat → Prop} {w : World} {ρ : Nat → Option Value} {a : Act} (hF : FRel S w ρ a n F) {y : Option Operand} {i d : Nat} (h : sG F y i d) : (y = none ∧ i = d) ∨ ∃ z, y = some z ∧ Opd S w ρ a z (.int .i64 (i : Int)) := h.imp _root_.id fun ⟨z, e, h⟩ => ⟨z, e, aj hF h⟩
theorem ySS (hT : TabOk P T) {t : TypeId} {x : Operand} {lo hi : Option Operand} {l r : List UInt8} {i j : Nat} {ty : TypeId} (ht : (match T.ty t with | some ⟨_, _, _, .str⟩ => true | _ => false) = true) (hx : aG F x = some (.str l)) (hlo : sG F lo i 0) (hhi : sG F hi j l.length) (hij : i ≤ j) (hj : j ≤ l.length) (he : (l.drop i).take (j - i) = r) : ∀ S w ρ a, HRel S w ρ H.get → FRel S w ρ a n F → Yld P S w ρ a ty (.slice t x lo hi none) (.str r) := fun S w ρ a hr hF => by
 subst he
 exact yB hF.fr (AV hT ht) (aj hF hx) (vH hF hlo) (vH hF hhi) hij hj
theorem yv {α : Type} (l : List α) (i : Nat) : (l.drop i).take (l.length - i) = l.drop i := by
 rw [List.take_of_length_le (by simp)]
theorem bO {t e : TypeId} {x y : Operand} {sz i : Nat} {els cs : List V} {v : V} {ty : TypeId} (hi : els[i]? = some v) (hT : TabOk P T) (ht : slT T t = some (e, sz)) (hx : aG F x = some (.row sz els)) (hy : aG F y = some (.int .i64 (i : Int))) (hc : v.cells = cs) : ∀ S w ρ a, HRel S w ρ H.get → FRel S w ρ a n F → Yld P S w ρ a ty (.indexAddr t x y) (.box cs 0) := by
 subst hc; exact yIR hT ht hx hy hi
theorem vJ {o : Oper} {L : List Nat} {ok : Bool} {v : Option V} (ed : ED) (hd : ∀ S w ρ a, HRel S w ρ H.get → FRel S w ρ a n F → Does P S w ρ H.get a o.type o.op v (ed.app H.get H.nx) ed.tch) (hl : ed.ok H.get) (hc : ((ca H.get L && ed.clear L) || ok) = true) : jM P K o L ok n F H (v.getD (.tup [])) (H.app ed) := fun S w ρ a hr hi hF Q' K2 k => by
 obtain ⟨nx, w', ρ', h1, h2, h3⟩ := hd S w ρ a hr hF
 have hr' := h2.hr
 have hi' := hi.eff h2
 rw [← Hp.get_app hl] at hr' hi'
 have hLs : Ls ρ L w w' ∨ ok = true := (nq hc).imp (fun h => by
  simp only [Bool.and_eq_true] at h
  exact sy hr h2 h.1 h.2) _root_.id
 have kk := fun x hx => k x S w' ρ' hr' hi' h2.up (km hr h2) hLs hx
 obtain ⟨d, op, ty, ps, af, g⟩ := o
 unfold Oper.wp
 rw [h1 d ps af g]
 cases v with
 | none =>
  subst h3
  exact kk undef mq
 | some v =>
  obtain ⟨x, rfl, h4⟩ := h3
  exact kk x h4
theorem LRel.sub {S : Nat → Prop} {w : World} {ρ : Nat → Option Value} {vs : List V} {xs : List Value} (h : LRel S w ρ vs xs) (i j : Nat) : LRel S w ρ ((vs.drop i).take j) ((xs.drop i).take j) := (h.drop i).take j
theorem vD {fid : FuncId} {vs : List V} {L : List Nat} {Post : V → Hp → Prop} (i : Nat) (e : TypeId) (sz : Nat) (hv : vs[i]? = some .nils) (k : CallR P K fid (vs.set i (.sl H.nx)) (H.app (.new (.row e sz []))) L Post) : CallR P K fid vs H L Post := fun S w ρ xs hr hi hx => by
 have he := pN e sz hr H.get_free
 have hg : (H.app (.new (.row e sz []))).get = bY H.get H.nx (.row e sz []) := Hp.get_app trivial
 have hx' : LRel S w (cV ρ H.nx (.slice none 0 0)) (vs.set i (.sl H.nx)) xs := by
  obtain ⟨x, h1, h2⟩ := hx.get hv
  simp only [VRel] at h2; subst h2
  have := (hx.up he.up).set (i := i) (v := .sl H.nx) (x := .slice none 0 0) (by simp only [VRel]; exact ⟨aS _ _ _, rfl⟩)
  have e2 : xs.set i (.slice none 0 0) = xs := by
   obtain ⟨hl, q6⟩ := List.getElem?_eq_some_iff.1 h1
   rw [← q6]; exact List.set_getElem_self ..
  rw [e2] at this; exact this
 refine (k S w (cV ρ H.nx (.slice none 0 0)) xs (by rw [hg]; exact he.hr) (by rw [hg]; exact hi.eff he) hx').mono fun e w' hh => ?_
 obtain ⟨x, S', ρ', v, H', h1, h2, h3, h4, h5, h6, h7⟩ := hh
 exact ⟨x, S', ρ', v, H', h1, h2, h3, h4, ⟨h5.s, h5.blk, fun i y h => h5.r i y (he.up.r i y h)⟩, h6, fun id hid y b hy hb => h7 id hid y b (he.up.r _ _ hy) hb⟩
theorem gYd {v : V} (i : Nat) (hi : all[i]? = some o) (hc : (!Nat.beq i m && Region.free .any all listed i && (Region.ready .any all listed).contains i) = true) (hy : ∀ S w ρ a, HRel S w ρ H.get → FRel S w ρ a n F → Yld P S w ρ a o.type o.op v) (hw : be F all o.guard = some true) (h1 : F.puto o.dst (some v) id = F1) (k : Go P K Q (.drw all L m fuel (listed.setIfInBounds i true)) s n F1 H) : Go P K Q (.drw all L m (fuel + 1) listed) s n F H := by
 rw [Fm.puto_eq] at h1; subst h1
 simp only [Bool.and_eq_true, Bool.not_eq_true'] at hc
 exact yD hc.1.1 hi hc.1.2 hc.2 hw hy k
theorem iA {v : V} (i : Nat) (hi : all[i]? = some o) (hrd : Region.ready .any all listed = [i]) (hy : ∀ S w ρ a, HRel S w ρ H.get → FRel S w ρ a n F → Yld P S w ρ a o.type o.op v) (hw : be F all o.guard = some true) (h1 : F.puto o.dst (some v) id = F1) (k : Go P K Q (.drw all L m fuel (listed.setIfInBounds i true)) s n F1 H) : Go P K Q (.drw all L m (fuel + 1) listed) s n F H := by
 rw [Fm.puto_eq] at h1; subst h1
 exact vG hrd hi hw hy k
theorem gDo {v : Option V} (ed : ED) (hd : ∀ S w ρ a, HRel S w ρ H.get → FRel S w ρ a n F → Does P S w ρ H.get a o.type o.op v (ed.app H.get H.nx) ed.tch) (hl : ed.ok H.get) (hw : be F all o.guard = some true) (h1 : F.puto o.dst (rA v) id = F1) (h2 : H.ap ed id = H1) (k : Go P K Q (.ops all rest) s n F1 H1) : Go P K Q (.ops all (o :: rest)) s n F H := by
 rw [Fm.puto_eq] at h1; rw [Hp.ap_eq] at h2; subst h1 h2
 exact go_opD hw hd hl k
theorem cz {v : Option V} (i : Nat) (ed : ED) (hi : all[i]? = some o) (hrd : Region.ready .any all listed = [i]) (hd : ∀ S w ρ a, HRel S w ρ H.get → FRel S w ρ a n F → Does P S w ρ H.get a o.type o.op v (ed.app H.get H.nx) ed.tch) (hl : ed.ok H.get) (hw : be F all o.guard = some true) (hc : ((ca H.get L && ed.clear L) || (listed.setIfInBounds i true).getD m false) = true) (h1 : F.puto o.dst (rA v) id = F1) (h2 : H.ap ed id = H1) (k : Go P K Q (.drw all L m fuel (listed.setIfInBounds i true)) s n F1 H1) : Go P K Q (.drw all L m (fuel + 1) listed) s n F H := by
 rw [Fm.puto_eq] at h1; rw [Hp.ap_eq] at h2; subst h1 h2
 exact sL hrd hi hw hd hl hc k
theorem bT {t e : TypeId} {x y : Operand} {sz by_ id : Nat} {els news els' : List V} {v : V} {ty : TypeId} (hT : TabOk P T) (ht : slB T t = some (e, sz, by_)) (hx : aG F x = some (.sl id)) (ho : H.get id = .row e sz els) (hy : aG F y = some v) (hs : su H.get sz v = some news) (he : els ++ news = els') (hb : els'.length ≤ 1000000000) :
  ∀ S w ρ a, HRel S w ρ H.get → FRel S w ρ a n F → Does P S w ρ H.get a ty (.call { callee := .builtin .append, args := #[x, y], argTypes := #[t, t] }) (some (.sl H.nx)) ((ED.repl id (.row e sz els')).app H.get H.nx) (ED.repl id (.row e sz els')).tch := by
 subst he
 exact dAp hT ht hx ho hy hs (by simpa using hb)
theorem okR {e : TypeId} {sz : Nat} {els : List V} {id : Nat} {o' : Ob} (ho : H.get id = .row e sz els) : (ED.repl id o').ok H.get := by exact ⟨by rw [ho]; simp, by rw [ho]; simp⟩
theorem okS {e : TypeId} {sz : Nat} {els : List V} {id : Nat} {o' : Ob} (ho : H.get id = .row e sz els) : (ED.set id o').ok H.get := by exact ⟨by rw [ho]; simp, by rw [ho]; simp⟩
theorem dSe (hT : TabOk P T) {t e : TypeId} {x y : Operand} {id sz i o : Nat} {els els' : List V} {v0 v : V} {td : TD} {ty : TypeId} (ht : T.ty t = some td) (hx : aG F x = some (.el id sz i o)) (hy : aG F y = some v) (ho : H.get id = .row e sz els) (hi : els[i]? = some v0) (hc : (Nat.beq v.cells.length td.size && v.cells.all V.one && Nat.ble (o + td.size) v0.cells.length && (match v0 with | .agg _ => true | v0 => v0.one && v.one)) = true) (he : els.set i (v0.over o v.cells) = els') :
  ∀ S w ρ a, HRel S w ρ H.get → FRel S w ρ a n F → Does P S w ρ H.get a ty (.store t x y) none ((ED.set id (.row e sz els')).app H.get H.nx) (ED.set id (.row e sz els')).tch := fun S w ρ a hr hF => by
 subst he
 simp only [Bool.and_eq_true] at hc
 obtain ⟨⟨⟨h1, h2⟩, h3⟩, h4⟩ := hc
 exact oF hr hF.fr (aj hF hx) (aj hF hy) ho (hT.ty _ _ ht).size hi (Nat.eq_of_beq_eq_true h1) h2 (Nat.le_of_ble_eq_true h3) (by
  cases v0 with
  | agg cs => exact .inl ⟨cs, rfl⟩
  | _ => simp only [Bool.and_eq_true] at h4; exact .inr ⟨mc h4.1, mc h4.2⟩)
theorem dMk (hT : TabOk P T) {t e : TypeId} {x y : Operand} {m sz : Nat} {z0 : V} {td : TD} {tz : TD} {ty : TypeId} (ht : T.ty t = some tz) (hk : (match tz.kind with | .sl e' => Nat.beq e e' | _ => false) = true) (hte : T.ty e = some td) (hx : aG F x = some (.int .i64 (m : Int))) (hy : aG F y = some (.int .i64 (m : Int))) (hsz : td.size = sz) (hz0 : td.zero = z0) (hc : (Nat.blt 0 td.size && Nat.ble td.bytes 1000) = true) (hm : m ≤ 1000000000) :
  ∀ S w ρ a, HRel S w ρ H.get → FRel S w ρ a n F → Does P S w ρ H.get a ty (.makeSlice t x y) (some (.sl H.nx)) ((ED.new (.row e sz (List.replicate m z0))).app H.get H.nx) (ED.new (.row e sz (List.replicate m z0))).tch := fun S w ρ a hr hF => by
 subst hsz hz0
 simp only [Bool.and_eq_true, Nat.blt_eq] at hc
 obtain ⟨z, h1, h2, h3, h4⟩ := (hT.ty _ _ hte).info
 have hsl : P.underlying t = some (.slice e) := by
  split at hk
  ·rename_i e' he'
   have := Nat.eq_of_beq_eq_true hk
   subst this
   exact (hT.ty _ _ ht).sl he'
  ·cases hk
 have hb : td.bytes ≤ 1000 := Nat.le_of_ble_eq_true hc.2
 exact wk hr hF.fr H.get_free (aj hF hx) (aj hF hy) hsl h1 h3 hc.1 h4 h2 (Nat.le_trans (Nat.mul_le_mul hb hm) (by decide)) (by simp only [maxLen]; omega)
theorem gCn {PL : List Nat} {fid : FuncId} {args : List Operand} {tys : Array TypeId} {vs us : List V} {H0 : Hp} {Post : V → Hp → Prop} {d : Option Tmp} {ty : TypeId} {ps : String} {af : Array Edge} {g : Option (Nat × Bool)} (i : Nat) (e : TypeId) (sz : Nat) (hS : jB PL P fid us H0 Post) (σ : List Nat) (he : bP P fid = true) (hw : be F all g = some true) (hv : fR F args = some vs) (hvi : vs[i]? = some .nils) (h2 : H.ap (.new (.row e sz [])) id = H1) (hs : bK (vs.set i (.sl H.nx)) (renL σ us)) (hH : leH σ H1 H0.es) (hc : (de σ && Nat.beq σ.length H0.nx && σ.all fun i => Nat.blt i H1.nx) = true)
  (k : ∀ v H', Post v H' → Go P K Q (.ops all rest) s n (F.seto d (some (v.ren (sgN PL H1.nx H0.get H'.nx σ 0)))) (jC PL H1 σ H0 H')) : Go P K Q (.ops all (⟨d, .call { callee := .value (.func fid), args := args.toArray, argTypes := tys }, ty, ps, af, g⟩ :: rest)) s n F H := by
 rw [Hp.ap_eq] at h2; subst h2
 exact go_opC (o := ⟨d, .call { callee := .value (.func fid), args := args.toArray, argTypes := tys }, ty, ps, af, g⟩) he rfl hw hv (vD i e sz hvi (oH hS σ hs hH hc [] (by simp [ca]))) fun v' H'' ⟨v, H', hP, e1, e2⟩ => by subst e1 e2; exact k v H' hP
end
abbrev qS (f : FuncId) (a : List V) (r : V) : Prop := mi Try.prog f a r
abbrev qLG (K : Ctx) (fn : Func) (Q : V → Hp → Prop) (c : Code) (s : List EI) (n : Nat) (F : Fm) (H : Hp) : Prop := Go Try.prog K (bodyPost Try.prog fn (SP K Q)) (.code c) s n F H
section
variable {P : Program} {K : Ctx} {Q : Exit → Act → World → Prop} {p : EP} {s : List EI} {n : Nat} {F F1 F2 F3 F4 : Fm} {H : Hp}
theorem qBh {e : Bool} {A B C D : Prop} (d : Nat) (hd : F.get d = some (.bool e)) (h1 : F.put d (some (.bool true)) id = F1) (h2 : F.put d (some (.bool false)) id = F2) (h : (A → C) ∧ (B → D)) (a : e = true → A) (b : e = false → B) (kT : C → Go P K Q p s n F1 H) (kF : D → Go P K Q p s n F2 H) : Go P K Q p s n F H := gB d hd h1 h2 (fun z => kT (h.1 (a z))) (fun z => kF (h.2 (b z)))
theorem qBi {e : Bool} {C D : Prop} (d : Nat) (hd : F.get d = some (.bool e)) (h1 : F.put d (some (.bool true)) id = F1) (h2 : F.put d (some (.bool false)) id = F2) (h : (e = true → C) ∧ (e = false → D)) (kT : C → Go P K Q p s n F1 H) (kF : D → Go P K Q p s n F2 H) : Go P K Q p s n F H := qBh d hd h1 h2 h id id kT kF
theorem qBe {α : Type} [BEq α] [LawfulBEq α] {x y : α} {C D : Prop} (d : Nat) (hd : F.get d = some (.bool (x == y))) (h1 : F.put d (some (.bool true)) id = F1) (h2 : F.put d (some (.bool false)) id = F2) (h : (x = y → C) ∧ (x ≠ y → D)) (kT : C → Go P K Q p s n F1 H) (kF : D → Go P K Q p s n F2 H) : Go P K Q p s n F H := qBh d hd h1 h2 h eq_of_beq ne_of_beq_false kT kF
theorem qBd {x : Prop} [Decidable x] {C D : Prop} (d : Nat) (hd : F.get d = some (.bool (decide x))) (h1 : F.put d (some (.bool true)) id = F1) (h2 : F.put d (some (.bool false)) id = F2) (h : (x → C) ∧ (¬ x → D)) (kT : C → Go P K Q p s n F1 H) (kF : D → Go P K Q p s n F2 H) : Go P K Q p s n F H := qBh d hd h1 h2 h of_decide_eq_true of_decide_eq_false kT kF
theorem qBhZ {e : Bool} {A B C D : Prop} (d i : Nat) (hd : F.get d = some (.bool e)) (hi : Fm.get (F.set d none) i = some (.bool e)) (h1 : F.put d (some (.bool true)) (fun F => F.put i (some (.bool true)) id) = F3) (h2 : F.put d (some (.bool false)) (fun F => F.put i (some (.bool false)) id) = F4) (h : (A → C) ∧ (B → D)) (a : e = true → A) (b : e = false → B) (kT : C → Go P K Q p s n F3 H) (kF : D → Go P K Q p s n F4 H) : Go P K Q p s n F H := by
 rw [Fm.put_eq, Fm.put_eq] at h1 h2
 have w (v : V) : Fm.get (F.set d (some v)) i = some (.bool e) := by
  rw [Fm.get_eq, List.getElem?_set] at hi ⊢
  split at hi
  · split at hi <;> simp at hi
  · rename_i e; rw [if_neg e]; exact hi
 exact gB d hd (Fm.put_eq ..) (Fm.put_eq ..) (fun z => gT i (w _) z ((Fm.put_eq ..).trans h1) (kT (h.1 (a z)))) (fun z => gF i (w _) z ((Fm.put_eq ..).trans h2) (kF (h.2 (b z))))
theorem qBiZ {e : Bool} {C D : Prop} (d i : Nat) (hd : F.get d = some (.bool e)) (hi : Fm.get (F.set d none) i = some (.bool e)) (h1 : F.put d (some (.bool true)) (fun F => F.put i (some (.bool true)) id) = F3) (h2 : F.put d (some (.bool false)) (fun F => F.put i (some (.bool false)) id) = F4) (h : (e = true → C) ∧ (e = false → D)) (kT : C → Go P K Q p s n F3 H) (kF : D → Go P K Q p s n F4 H) : Go P K Q p s n F H := qBhZ d i hd hi h1 h2 h id id kT kF
theorem qBeZ {α : Type} [BEq α] [LawfulBEq α] {x y : α} {C D : Prop} (d i : Nat) (hd : F.get d = some (.bool (x == y))) (hi : Fm.get (F.set d none) i = some (.bool (x == y))) (h1 : F.put d (some (.bool true)) (fun F => F.put i (some (.bool true)) id) = F3) (h2 : F.put d (some (.bool false)) (fun F => F.put i (some (.bool false)) id) = F4) (h : (x = y → C) ∧ (x ≠ y → D)) (kT : C → Go P K Q p s n F3 H) (kF : D → Go P K Q p s n F4 H) : Go P K Q p s n F H := qBhZ d i hd hi h1 h2 h eq_of_beq ne_of_beq_false kT kF
theorem qBdZ {x : Prop} [Decidable x] {C D : Prop} (d i : Nat) (hd : F.get d = some (.bool (decide x))) (hi : Fm.get (F.set d none) i = some (.bool (decide x))) (h1 : F.put d (some (.bool true)) (fun F => F.put i (some (.bool true)) id) = F3) (h2 : F.put d (some (.bool false)) (fun F => F.put i (some (.bool false)) id) = F4) (h : (x → C) ∧ (¬ x → D)) (kT : C → Go P K Q p s n F3 H) (kF : D → Go P K Q p s n F4 H) : Go P K Q p s n F H := qBhZ d i hd hi h1 h2 h of_decide_eq_true of_decide_eq_false kT kF
end
theorem pqq {v : V} : ∃ u, some v = some u ∧ au u v := ⟨v, rfl, au.rfl⟩
theorem pq1 {a0 : V} : (∃ u, some a0 = some u ∧ au u a0) ∧ True := ⟨pqq, trivial⟩
theorem pq2 {a0 a1 : V} : (∃ u, some a0 = some u ∧ au u a0) ∧ (∃ u, some a1 = some u ∧ au u a1) ∧ True := ⟨pqq, pqq, trivial⟩
theorem pq3 {a0 a1 a2 : V} : (∃ u, some a0 = some u ∧ au u a0) ∧ (∃ u, some a1 = some u ∧ au u a1) ∧ (∃ u, some a2 = some u ∧ au u a2) ∧ True := ⟨pqq, pqq, pqq, trivial⟩
theorem pq4 {a0 a1 a2 a3 : V} : (∃ u, some a0 = some u ∧ au u a0) ∧ (∃ u, some a1 = some u ∧ au u a1) ∧ (∃ u, some a2 = some u ∧ au u a2) ∧ (∃ u, some a3 = some u ∧ au u a3) ∧ True := ⟨pqq, pqq, pqq, pqq, trivial⟩
theorem pq5 {a0 a1 a2 a3 a4 : V} : (∃ u, some a0 = some u ∧ au u a0) ∧ (∃ u, some a1 = some u ∧ au u a1) ∧ (∃ u, some a2 = some u ∧ au u a2) ∧ (∃ u, some a3 = some u ∧ au u a3) ∧ (∃ u, some a4 = some u ∧ au u a4) ∧ True := ⟨pqq, pqq, pqq, pqq, pqq, trivial⟩
theorem pq6 {a0 a1 a2 a3 a4 a5 : V} : (∃ u, some a0 = some u ∧ au u a0) ∧ (∃ u, some a1 = some u ∧ au u a1) ∧ (∃ u, some a2 = some u ∧ au u a2) ∧ (∃ u, some a3 = some u ∧ au u a3) ∧ (∃ u, some a4 = some u ∧ au u a4) ∧ (∃ u, some a5 = some u ∧ au u a5) ∧ True := ⟨pqq, pqq, pqq, pqq, pqq, pqq, trivial⟩
theorem pq7 {a0 a1 a2 a3 a4 a5 a6 : V} : (∃ u, some a0 = some u ∧ au u a0) ∧ (∃ u, some a1 = some u ∧ au u a1) ∧ (∃ u, some a2 = some u ∧ au u a2) ∧ (∃ u, some a3 = some u ∧ au u a3) ∧ (∃ u, some a4 = some u ∧ au u a4) ∧ (∃ u, some a5 = some u ∧ au u a5) ∧ (∃ u, some a6 = some u ∧ au u a6) ∧ True := ⟨pqq, pqq, pqq, pqq, pqq, pqq, pqq, trivial⟩
theorem pq8 {a0 a1 a2 a3 a4 a5 a6 a7 : V} : (∃ u, some a0 = some u ∧ au u a0) ∧ (∃ u, some a1 = some u ∧ au u a1) ∧ (∃ u, some a2 = some u ∧ au u a2) ∧ (∃ u, some a3 = some u ∧ au u a3) ∧ (∃ u, some a4 = some u ∧ au u a4) ∧ (∃ u, some a5 = some u ∧ au u a5) ∧ (∃ u, some a6 = some u ∧ au u a6) ∧ (∃ u, some a7 = some u ∧ au u a7) ∧ True := ⟨pqq, pqq, pqq, pqq, pqq, pqq, pqq, pqq, trivial⟩
theorem pq9 {a0 a1 a2 a3 a4 a5 a6 a7 a8 : V} : (∃ u, some a0 = some u ∧ au u a0) ∧ (∃ u, some a1 = some u ∧ au u a1) ∧ (∃ u, some a2 = some u ∧ au u a2) ∧ (∃ u, some a3 = some u ∧ au u a3) ∧ (∃ u, some a4 = some u ∧ au u a4) ∧ (∃ u, some a5 = some u ∧ au u a5) ∧ (∃ u, some a6 = some u ∧ au u a6) ∧ (∃ u, some a7 = some u ∧ au u a7) ∧ (∃ u, some a8 = some u ∧ au u a8) ∧ True := ⟨pqq, pqq, pqq, pqq, pqq, pqq, pqq, pqq, pqq, trivial⟩
theorem pq10 {a0 a1 a2 a3 a4 a5 a6 a7 a8 a9 : V} : (∃ u, some a0 = some u ∧ au u a0) ∧ (∃ u, some a1 = some u ∧ au u a1) ∧ (∃ u, some a2 = some u ∧ au u a2) ∧ (∃ u, some a3 = some u ∧ au u a3) ∧ (∃ u, some a4 = some u ∧ au u a4) ∧ (∃ u, some a5 = some u ∧ au u a5) ∧ (∃ u, some a6 = some u ∧ au u a6) ∧ (∃ u, some a7 = some u ∧ au u a7) ∧ (∃ u, some a8 = some u ∧ au u a8) ∧ (∃ u, some a9 = some u ∧ au u a9) ∧ True := ⟨pqq, pqq, pqq, pqq, pqq, pqq, pqq, pqq, pqq, pqq, trivial⟩
theorem pq11 {a0 a1 a2 a3 a4 a5 a6 a7 a8 a9 a10 : V} : (∃ u, some a0 = some u ∧ au u a0) ∧ (∃ u, some a1 = some u ∧ au u a1) ∧ (∃ u, some a2 = some u ∧ au u a2) ∧ (∃ u, some a3 = some u ∧ au u a3) ∧ (∃ u, some a4 = some u ∧ au u a4) ∧ (∃ u, some a5 = some u ∧ au u a5) ∧ (∃ u, some a6 = some u ∧ au u a6) ∧ (∃ u, some a7 = some u ∧ au u a7) ∧ (∃ u, some a8 = some u ∧ au u a8) ∧ (∃ u, some a9 = some u ∧ au u a9) ∧ (∃ u, some a10 = some u ∧ au u a10) ∧ True := ⟨pqq, pqq, pqq, pqq, pqq, pqq, pqq, pqq, pqq, pqq, pqq, trivial⟩
theorem pq12 {a0 a1 a2 a3 a4 a5 a6 a7 a8 a9 a10 a11 : V} : (∃ u, some a0 = some u ∧ au u a0) ∧ (∃ u, some a1 = some u ∧ au u a1) ∧ (∃ u, some a2 = some u ∧ au u a2) ∧ (∃ u, some a3 = some u ∧ au u a3) ∧ (∃ u, some a4 = some u ∧ au u a4) ∧ (∃ u, some a5 = some u ∧ au u a5) ∧ (∃ u, some a6 = some u ∧ au u a6) ∧ (∃ u, some a7 = some u ∧ au u a7) ∧ (∃ u, some a8 = some u ∧ au u a8) ∧ (∃ u, some a9 = some u ∧ au u a9) ∧ (∃ u, some a10 = some u ∧ au u a10) ∧ (∃ u, some a11 = some u ∧ au u a11) ∧ True := ⟨pqq, pqq, pqq, pqq, pqq, pqq, pqq, pqq, pqq, pqq, pqq, pqq, trivial⟩
theorem pqo {H : Hp} {x : Option Nat} {i : Nat} {t : TypeId} {cs : List V} (h1 : x = some i) (h2 : H.get i = .var t cs) : ∃ i, x = some i ∧ eb (H.get i) (.var t cs) := ⟨i, h1, by rw [h2]; exact ⟨rfl, bK.rfl⟩⟩
theorem pqo1 {H : Hp} {x0 : Option Nat} {i0 : Nat} {t0 : TypeId} {c0 : List V} (h0 : x0 = some i0) (k0 : H.get i0 = .var t0 c0) : (∃ i, x0 = some i ∧ eb (H.get i) (.var t0 c0)) ∧ True := ⟨pqo h0 k0, trivial⟩
theorem pqo2 {H : Hp} {x0 : Option Nat} {i0 : Nat} {t0 : TypeId} {c0 : List V} (h0 : x0 = some i0) (k0 : H.get i0 = .var t0 c0) {x1 : Option Nat} {i1 : Nat} {t1 : TypeId} {c1 : List V} (h1 : x1 = some i1) (k1 : H.get i1 = .var t1 c1) : (∃ i, x0 = some i ∧ eb (H.get i) (.var t0 c0)) ∧ (∃ i, x1 = some i ∧ eb (H.get i) (.var t1 c1)) ∧ True := ⟨pqo h0 k0, pqo h1 k1, trivial⟩
theorem pqo3 {H : Hp} {x0 : Option Nat} {i0 : Nat} {t0 : TypeId} {c0 : List V} (h0 : x0 = some i0) (k0 : H.get i0 = .var t0 c0) {x1 : Option Nat} {i1 : Nat} {t1 : TypeId} {c1 : List V} (h1 : x1 = some i1) (k1 : H.get i1 = .var t1 c1) {x2 : Option Nat} {i2 : Nat} {t2 : TypeId} {c2 : List V} (h2 : x2 = some i2) (k2 : H.get i2 = .var t2 c2) : (∃ i, x0 = some i ∧ eb (H.get i) (.var t0 c0)) ∧ (∃ i, x1 = some i ∧ eb (H.get i) (.var t1 c1)) ∧ (∃ i, x2 = some i ∧ eb (H.get i) (.var t2 c2)) ∧ True := ⟨pqo h0 k0, pqo h1 k1, pqo h2 k2, trivial⟩
theorem pqo4 {H : Hp} {x0 : Option Nat} {i0 : Nat} {t0 : TypeId} {c0 : List V} (h0 : x0 = some i0) (k0 : H.get i0 = .var t0 c0) {x1 : Option Nat} {i1 : Nat} {t1 : TypeId} {c1 : List V} (h1 : x1 = some i1) (k1 : H.get i1 = .var t1 c1) {x2 : Option Nat} {i2 : Nat} {t2 : TypeId} {c2 : List V} (h2 : x2 = some i2) (k2 : H.get i2 = .var t2 c2) {x3 : Option Nat} {i3 : Nat} {t3 : TypeId} {c3 : List V} (h3 : x3 = some i3) (k3 : H.get i3 = .var t3 c3) : (∃ i, x0 = some i ∧ eb (H.get i) (.var t0 c0)) ∧ (∃ i, x1 = some i ∧ eb (H.get i) (.var t1 c1)) ∧ (∃ i, x2 = some i ∧ eb (H.get i) (.var t2 c2)) ∧ (∃ i, x3 = some i ∧ eb (H.get i) (.var t3 c3)) ∧ True := ⟨pqo h0 k0, pqo h1 k1, pqo h2 k2, pqo h3 k3, trivial⟩
abbrev xA (c : Code) : Code := cB (cB c)
abbrev xB (c : Code) : Code := cE (cB c)
abbrev xC (c : Code) : Code := xB (xB c)
abbrev xD (c : Code) : Code := cK (cB c)
abbrev xE (c : Code) : Code := xC (xC c)
abbrev xF (c : Code) : Code := xD (cA c)
abbrev xG (c : Code) : Code := xF (xA c)
abbrev xH (c : Code) : Code := xA (cB c)
abbrev xI (c : Code) : Code := cL (xG c)
abbrev xJ (c : Code) : Code := xE (xE c)
end Go.Proofs.Ytpnpdlnpikkeaaa
namespace Go.Proofs.Ytpnpdlnpikkeaaa
open Go.RowKit Lx Sx
set_option maxRecDepth 100000
set_option maxHeartbeats 4000000
def sX (p0 : List UInt8) (r0 : Int) : Prop := qS 59 [.str p0] (.int .i64 r0)
def mG (p0 : List UInt8) (r0 : Int) : Prop := qS 69 [.str p0] (.int .i64 r0)
def eY (p0 p1 r0 : Int) : Prop := qS 35 [.int .i64 p0, .int .i64 p1] (.int .i64 r0)
def df (p0 p1 p2 r0 : Int) : Prop := qS 58 [.int .i64 p0, .int .i64 p1, .int .i64 p2] (.int .i64 r0)
def fK (p0 : Int) (r0 : Bool) : Prop := qS 62 [.int .i64 p0] (.bool r0)
def cJ (p0 : Int) (r0 : Bool) : Prop := qS 61 [.int .i64 p0] (.bool r0)
def iI (p0 : Int) (r0 : Bool) : Prop := qS 63 [.int .i64 p0] (.bool r0)
def gO (p0 : List UInt8) (r0 : Bool) : Prop := qS 60 [.str p0] (.bool r0)
def iL (p0 : Int) (p1 : List UInt8) (r0 : Bool) : Prop := qS 36 [.int .i64 p0, .str p1] (.bool r0)
def je (p0 : Tree) (p1 : Int) (r0 : Bool) : Prop := qS 37 [.agg (av p0), .int .i64 p1] (.bool r0)
def dm (p0 : Tree) (r0 : Bool) : Prop := qS 18 [.agg (av p0)] (.bool r0)
def dU (p0 p1 r0 : Int) : Prop := qS 42 [.int .i64 p0, .int .i64 p1] (.int .i64 r0)
def bE (p0 p1 p2 r0 : Int) : Prop := qS 68 [.int .i64 p0, .int .i64 p1, .int .i64 p2] (.int .i64 r0)
def dC (p0 : Int) (r0 : Bool) : Prop := qS 72 [.int .i64 p0] (.bool r0)
def cQ (p0 : Int) (r0 : Bool) : Prop := qS 71 [.int .i64 p0] (.bool r0)
def fv (p0 : Int) (r0 : Bool) : Prop := qS 73 [.int .i64 p0] (.bool r0)
def dS (p0 : List UInt8) (r0 : Bool) : Prop := qS 70 [.str p0] (.bool r0)
def eO (p0 : Int) (p1 : List UInt8) (r0 : Bool) : Prop := qS 43 [.int .i64 p0, .str p1] (.bool r0)
def gQ (p0 : Tree) (p1 p2 : Int) (r0 : Bool) : Prop := qS 44 [.agg (av p0), .int .i64 p1, .int .i64 p2] (.bool r0)
def dE (p0 : Tree) (r0 : Bool) : Prop := qS 23 [.agg (av p0)] (.bool r0)
def az (m : Nat) (p1 : Int) (a b c : Nat) (d r0 : Int) : Prop := ∀ (K : Ctx), aJ K [] → qLG K Try.f35 (fun u _ => u = .int .i64 r0) (xA (xA (ah Try.f35))) [] 69 (mkF 69 0 [(1, .int .i64 p1), (5, .int .i64 (a : Int)), (6, .int .i64 d), (7, .int .i64 (b : Int)), (8, .int .i64 (c : Int))]) ⟨0, []⟩
def fQ (m : Nat) (p0 p1 : Int) (a : Bool) (r0 : Int) : Prop := ∀ (K : Ctx), aJ K [] → qLG K Try.f35 (fun u _ => u = .int .i64 r0) (cB (xE (xB (xG (cB (ah Try.f35)))))) [.blk 0, .seq (xA (xA (ah Try.f35)))] 69 (mkF 69 0 [(1, .int .i64 p1), (5, .int .i64 0), (6, .int .i64 0), (7, .int .i64 1), (8, .int .i64 0), (9, .int .i64 p0), (22, .bool a)]) ⟨0, []⟩
def fO (m : Nat) (p1 : Int) (a b c : Nat) (d r0 : Int) : Prop := ∀ (K : Ctx), aJ K [] → qLG K Try.f35 (fun u _ => u = .int .i64 r0) (xA (xH (ah Try.f35))) [] 69 (mkF 69 0 [(1, .int .i64 p1), (5, .int .i64 (a : Int)), (6, .int .i64 d), (7, .int .i64 (b : Int)), (8, .int .i64 (c : Int))]) ⟨0, []⟩
theorem oY (m : Nat) (p0 p1 r0 : Int) (h : ((p0 = 1) → ∃ a, df p1 0 3 a ∧ a = r0) ∧ ((p0 ≠ 1) → ((p0 = 2) → az m p1 2 6 2 (-1) r0) ∧ ((p0 ≠ 2) → ((p0 = 16) → az m p1 0 3 0 (-1) r0) ∧ ((p0 ≠ 16) → ((p0 = 18) → az m p1 1 2 0 (-1) r0) ∧ ((p0 ≠ 18) → ((p0 = 3) → az m p1 1 3 0 1 r0) ∧ ((p0 ≠ 3) → ((p0 = 4) → fQ m p0 p1 true r0) ∧ ((p0 ≠ 4) → ((p0 = 8) → fQ m p0 p1 true r0) ∧ ((p0 ≠ 8) → fQ m p0 p1 (p0 == 22) r0)))))))) : eY p0 p1 r0 := by
 refine ⟨rfl, rfl, ?_⟩
 refine aA 69 [] Try.func35 rfl rfl rfl (bp rfl) fun K hK => ?_
 refine gR 30 rfl <| qBeZ 10 11 rfl rfl rfl rfl h (fun h => ?_) fun h => ?_
 refine gR 4 rfl ?_
 obtain ⟨a, hs17, h⟩ := h
 refine gC0 hs17 (by kernel_rfl) rfl rfl .rfl rfl <| gR 6 rfl ?_
 subst h
 exact go_end ab (rs := [.tmp 4]) rfl rfl rfl
 refine gR 7 rfl <| qBeZ 14 15 rfl rfl rfl rfl h (fun h => ?_) fun h => ?_
 exact gR 9 rfl <| gJ (h K hK) [] [] rfl hK pq5 trivial rfl
 refine gR 7 rfl <| qBeZ 16 17 rfl rfl rfl rfl h (fun h => ?_) fun h => ?_
 exact gR 9 rfl <| gJ (h K hK) [] [] rfl hK pq5 trivial rfl
 refine gR 7 rfl <| qBeZ 18 19 rfl rfl rfl rfl h (fun h => ?_) fun h => ?_
 exact gR 9 rfl <| gJ (h K hK) [] [] rfl hK pq5 trivial rfl
 refine gR 7 rfl <| qBeZ 20 21 rfl rfl rfl rfl h (fun h => ?_) fun h => ?_
 exact gR 8 rfl <| gJ (h K hK) [] [] rfl hK pq5 trivial rfl
 refine gR 8 rfl <| qBeZ 22 23 rfl rfl rfl rfl h (fun h => ?_) fun h => ?_
 exact gR 3 rfl <| gJ (h K hK) [] [] rfl hK pq7 trivial rfl
 refine gR 7 rfl <| qBeZ 22 24 rfl rfl rfl rfl h (fun h => ?_) fun h => ?_
 exact gR 3 rfl <| gJ (h K hK) [] [] rfl hK pq7 trivial rfl
 exact gR 6 rfl <| gJ (h K hK) [] [] rfl hK pq7 trivial rfl
theorem oe (m : Nat) (p1 : Int) (b c d : Nat) (a r0 : Int) (h : ((0 ≤ a) → ((a < p1) → (-1) = r0) ∧ ((¬ a < p1) → fO m p1 b c d a r0)) ∧ ((¬ 0 ≤ a) → fO m p1 b c d a r0)) : az (m + 1) p1 b c d a r0 := by
 intro K hK
 refine gR 6 rfl <| qBdZ 47 46 rfl rfl rfl rfl h (fun h => ?_) fun h => ?_
 refine gR 6 rfl <| qBd 51 rfl rfl rfl h (fun h => ?_) fun h => ?_
 refine gR 8 rfl ?_
 subst h
 exact go_end ab (rs := [.tmp 4]) rfl rfl rfl
 exact gR 3 rfl <| gJ (h K hK) [] [] rfl hK pq5 trivial rfl
 exact gR 9 rfl <| gJ (h K hK) [] [] rfl hK pq5 trivial rfl
theorem nT (m : Nat) (p0 p1 : Int) (a : Bool) (r0 : Int) (h : ((a = true) → az m p1 1 2 0 1 r0) ∧ ((a = false) → ((p0 = 17) → az m p1 1 0 0 1 r0) ∧ ((p0 ≠ 17) → ((p0 = 19) → az m p1 3 3 0 3 r0) ∧ ((p0 ≠ 19) → ((p0 = 20) → az m p1 2 4 0 2 r0) ∧ ((p0 ≠ 20) → ((p0 = 21) → az m p1 2 1 0 2 r0) ∧ ((p0 ≠ 21) → ((p0 = 5) → az m p1 0 1 0 0 r0) ∧ ((p0 ≠ 5) → ((p0 = 6) → az m p1 0 1 0 0 r0) ∧ ((p0 ≠ 6) → ((p0 = 7) → az m p1 0 1 0 0 r0) ∧ ((p0 ≠ 7) → ((p0 = 9) → az m p1 0 1 0 0 r0) ∧ ((p0 ≠ 9) → ((p0 = 10) → az m p1 0 1 0 0 r0) ∧ ((p0 ≠ 10) → ((p0 = 11) → az m p1 0 1 0 0 r0) ∧ ((p0 ≠ 11) → ((p0 = 12) → az m p1 0 1 0 0 r0) ∧ ((p0 ≠ 12) → ((p0 = 13) → az m p1 0 1 0 0 r0) ∧ ((p0 ≠ 13) → ((p0 = 14) → az m p1 0 1 0 0 r0) ∧ ((p0 ≠ 14) → ((p0 = 15) → az m p1 0 1 0 0 r0) ∧ ((p0 ≠ 15) → (-1) = r0)))))))))))))))) : fQ (m + 1) p0 p1 a r0 := by
 intro K hK
 refine qBi 22 rfl rfl rfl h (fun h => ?_) fun h => ?_
 exact gR 8 rfl <| gJ (h K hK) [] [] rfl hK pq5 trivial rfl
 refine gR 7 rfl <| qBeZ 26 27 rfl rfl rfl rfl h (fun h => ?_) fun h => ?_
 exact gR 8 rfl <| gJ (h K hK) [] [] rfl hK pq5 trivial rfl
 refine gR 7 rfl <| qBeZ 28 29 rfl rfl rfl rfl h (fun h => ?_) fun h => ?_
 exact gR 8 rfl <| gJ (h K hK) [] [] rfl hK pq5 trivial rfl
 refine gR 7 rfl <| qBeZ 30 31 rfl rfl rfl rfl h (fun h => ?_) fun h => ?_
 exact gR 8 rfl <| gJ (h K hK) [] [] rfl hK pq5 trivial rfl
 refine gR 7 rfl <| qBeZ 32 33 rfl rfl rfl rfl h (fun h => ?_) fun h => ?_
 exact gR 8 rfl <| gJ (h K hK) [] [] rfl hK pq5 trivial rfl
 refine gR 8 rfl <| qBeZ 34 35 rfl rfl rfl rfl h (fun h => ?_) fun h => ?_
 exact gR 7 rfl <| gJ (h K hK) [] [] rfl hK pq5 trivial rfl
 refine gR 7 rfl <| qBeZ 34 36 rfl rfl rfl rfl h (fun h => ?_) fun h => ?_
 exact gR 7 rfl <| gJ (h K hK) [] [] rfl hK pq5 trivial rfl
 refine gR 7 rfl <| qBeZ 34 37 rfl rfl rfl rfl h (fun h => ?_) fun h => ?_
 exact gR 7 rfl <| gJ (h K hK) [] [] rfl hK pq5 trivial rfl
 refine gR 7 rfl <| qBeZ 34 38 rfl rfl rfl rfl h (fun h => ?_) fun h => ?_
 exact gR 7 rfl <| gJ (h K hK) [] [] rfl hK pq5 trivial rfl
 refine gR 7 rfl <| qBeZ 34 39 rfl rfl rfl rfl h (fun h => ?_) fun h => ?_
 exact gR 7 rfl <| gJ (h K hK) [] [] rfl hK pq5 trivial rfl
 refine gR 7 rfl <| qBeZ 34 40 rfl rfl rfl rfl h (fun h => ?_) fun h => ?_
 exact gR 7 rfl <| gJ (h K hK) [] [] rfl hK pq5 trivial rfl
 refine gR 7 rfl <| qBeZ 34 41 rfl rfl rfl rfl h (fun h => ?_) fun h => ?_
 exact gR 7 rfl <| gJ (h K hK) [] [] rfl hK pq5 trivial rfl
 refine gR 7 rfl <| qBeZ 34 42 rfl rfl rfl rfl h (fun h => ?_) fun h => ?_
 exact gR 7 rfl <| gJ (h K hK) [] [] rfl hK pq5 trivial rfl
 refine gR 7 rfl <| qBeZ 34 43 rfl rfl rfl rfl h (fun h => ?_) fun h => ?_
 exact gR 7 rfl <| gJ (h K hK) [] [] rfl hK pq5 trivial rfl
 refine gR 6 rfl <| qBeZ 34 44 rfl rfl rfl rfl h (fun h => ?_) fun h => ?_
 exact gR 4 rfl <| gJ (h K hK) [] [] rfl hK pq5 trivial rfl
 refine gR 9 rfl ?_
 subst h
 exact go_end ab (rs := [.tmp 4]) rfl rfl rfl
theorem nY (m : Nat) (p1 : Int) (c b a : Nat) (d r0 : Int) (h : ((d < 0) → (((a : Int) < p1) → InI (p1 - (a : Int)) ∧ InI ((p1 - (a : Int)) - 1) ∧ InI ((b : Int) + ((p1 - (a : Int)) - 1)) ∧ ∃ e, df p1 (c : Int) ((b : Int) + ((p1 - (a : Int)) - 1)) e ∧ e = r0) ∧ ((¬ (a : Int) < p1) → ∃ f, df p1 (c : Int) (b : Int) f ∧ f = r0)) ∧ ((¬ d < 0) → ∃ g, df p1 (c : Int) (b : Int) g ∧ g = r0)) : fO (m + 1) p1 c b a d r0 := by
 intro K hK
 refine gR 6 rfl <| qBdZ 54 53 rfl rfl rfl rfl h (fun h => ?_) fun h => ?_
 refine gR 6 rfl <| qBd 58 rfl rfl rfl h (fun h => ?_) fun h => ?_
 refine gR 5 rfl ?_
 obtain ⟨hb, h⟩ := h
 refine gR 1 rfl <| gV 62 (.int .i64 (p1 - (a : Int))) rfl (aN hb rfl) rfl ?_
 obtain ⟨hb, h⟩ := h
 refine gR 1 rfl <| gV 63 (.int .i64 ((p1 - (a : Int)) - 1)) rfl (aN hb rfl) rfl ?_
 obtain ⟨hb, h⟩ := h
 refine gR 1 rfl <| gV 64 (.int .i64 ((b : Int) + ((p1 - (a : Int)) - 1))) rfl (aN hb rfl) rfl <| gR 8 rfl ?_
 obtain ⟨e, hs18, h⟩ := h
 refine gC0 hs18 (by kernel_rfl) rfl rfl .rfl rfl <| gR 4 rfl ?_
 subst h
 exact go_end ab (rs := [.tmp 4]) rfl rfl rfl
 refine gR 8 rfl ?_
 obtain ⟨f, hs19, h⟩ := h
 refine gC0 hs19 (by kernel_rfl) rfl rfl .rfl rfl <| gR 4 rfl ?_
 subst h
 exact go_end ab (rs := [.tmp 4]) rfl rfl rfl
 refine gR 14 rfl ?_
 obtain ⟨g, hs20, h⟩ := h
 refine gC0 hs20 (by kernel_rfl) rfl rfl .rfl rfl <| gR 4 rfl ?_
 subst h
 exact go_end ab (rs := [.tmp 4]) rfl rfl rfl
theorem nC (m : Nat) (p0 p1 p2 r0 : Int) (h : ((p0 < p1) → (-1) = r0) ∧ ((¬ p0 < p1) → p2 = r0)) : df p0 p1 p2 r0 := by
 refine ⟨rfl, rfl, ?_⟩
 refine aA 11 [] Try.func58 rfl rfl rfl (bp rfl) fun K hK => ?_
 refine gR 13 rfl <| qBd 9 rfl rfl rfl h (fun h => ?_) fun h => ?_
 refine gR 8 rfl ?_
 subst h
 exact go_end ab (rs := [.tmp 6]) rfl rfl rfl
 refine gR 10 rfl ?_
 subst h
 exact go_end ab (rs := [.tmp 6]) rfl rfl rfl
theorem nZ (m : Nat) (p0 : Int) (r0 : Bool) (h : ((5 ≤ p0) → decide (p0 ≤ 9) = r0) ∧ ((¬ 5 ≤ p0) → false = r0)) : fK p0 r0 := by
 refine ⟨rfl, rfl, ?_⟩
 refine aA 9 [] Try.func62 rfl rfl rfl (bp rfl) fun K hK => ?_
 refine gR 10 rfl <| qBdZ 5 4 rfl rfl rfl rfl h (fun h => ?_) fun h => ?_
 refine gR 7 rfl ?_
 subst h
 exact go_end ab (rs := [.tmp 2]) rfl rfl rfl
 refine gR 7 rfl ?_
 subst h
 exact go_end ab (rs := [.tmp 2]) rfl rfl rfl
theorem lw (m : Nat) (p0 : Int) (r0 : Bool) (h : ((10 ≤ p0) → ((p0 ≤ 22) → (p0 != 17) = r0) ∧ ((¬ p0 ≤ 22) → false = r0)) ∧ ((¬ 10 ≤ p0) → false = r0)) : cJ p0 r0 := by
 refine ⟨rfl, rfl, ?_⟩
 refine aA 13 [] Try.func61 rfl rfl rfl (bp rfl) fun K hK => ?_
 refine gR 10 rfl <| qBdZ 5 4 rfl rfl rfl rfl h (fun h => ?_) fun h => ?_
 refine gR 4 rfl <| qBdZ 9 8 rfl rfl rfl rfl h (fun h => ?_) fun h => ?_
 refine gR 7 rfl ?_
 subst h
 exact go_end ab (rs := [.tmp 2]) rfl rfl rfl
 refine gR 7 rfl ?_
 subst h
 exact go_end ab (rs := [.tmp 2]) rfl rfl rfl
 refine gR 11 rfl ?_
 subst h
 exact go_end ab (rs := [.tmp 2]) rfl rfl rfl
theorem ou (m : Nat) (p0 : Int) (r0 : Bool) (h : ∃ a, cJ p0 a ∧ ((a = true) → ((p0 ≠ 19) → ((p0 ≠ 20) → (p0 != 21) = r0) ∧ ((p0 = 20) → false = r0)) ∧ ((p0 = 19) → false = r0)) ∧ ((a = false) → false = r0)) : iI p0 r0 := by
 refine ⟨rfl, rfl, ?_⟩
 refine aA 17 [] Try.func63 rfl rfl rfl (bp rfl) fun K hK => ?_
 refine gR 8 rfl ?_
 obtain ⟨a, hs2, h⟩ := h
 refine gC0 hs2 (by kernel_rfl) rfl rfl .rfl rfl <| gR 1 rfl <| qBiZ 5 4 rfl rfl rfl rfl h (fun h => ?_) fun h => ?_
 refine gR 4 rfl <| qBhZ 9 8 rfl rfl rfl rfl h io fz (fun h => ?_) fun h => ?_
 refine gR 4 rfl <| qBhZ 13 12 rfl rfl rfl rfl h io fz (fun h => ?_) fun h => ?_
 refine gR 7 rfl ?_
 subst h
 exact go_end ab (rs := [.tmp 2]) rfl rfl rfl
 refine gR 7 rfl ?_
 subst h
 exact go_end ab (rs := [.tmp 2]) rfl rfl rfl
 refine gR 11 rfl ?_
 subst h
 exact go_end ab (rs := [.tmp 2]) rfl rfl rfl
 refine gR 15 rfl ?_
 subst h
 exact go_end ab (rs := [.tmp 2]) rfl rfl rfl
theorem mJ (m : Nat) (p0 : List UInt8) (r0 : Bool) (h : ((p0 = [43]) → true = r0) ∧ ((p0 ≠ [43]) → ((p0 = [45]) → true = r0) ∧ ((p0 ≠ [45]) → ((p0 = [42]) → true = r0) ∧ ((p0 ≠ [42]) → ((p0 = [60]) → true = r0) ∧ ((p0 ≠ [60]) → ((p0 = [61, 61]) → true = r0) ∧ ((p0 ≠ [61, 61]) → false = r0)))))) : gO p0 r0 := by
 refine ⟨rfl, rfl, ?_⟩
 refine aA 10 [] Try.func60 rfl rfl rfl (bp rfl) fun K hK => ?_
 refine gR 19 rfl <| qBeZ 4 5 rfl rfl rfl rfl h (fun h => ?_) fun h => ?_
 refine gR 12 rfl ?_
 subst h
 exact go_end ab (rs := [.tmp 2]) rfl rfl rfl
 refine gR 7 rfl <| qBeZ 4 6 rfl rfl rfl rfl h (fun h => ?_) fun h => ?_
 refine gR 12 rfl ?_
 subst h
 exact go_end ab (rs := [.tmp 2]) rfl rfl rfl
 refine gR 7 rfl <| qBeZ 4 7 rfl rfl rfl rfl h (fun h => ?_) fun h => ?_
 refine gR 12 rfl ?_
 subst h
 exact go_end ab (rs := [.tmp 2]) rfl rfl rfl
 refine gR 7 rfl <| qBeZ 4 8 rfl rfl rfl rfl h (fun h => ?_) fun h => ?_
 refine gR 12 rfl ?_
 subst h
 exact go_end ab (rs := [.tmp 2]) rfl rfl rfl
 refine gR 6 rfl <| qBeZ 4 9 rfl rfl rfl rfl h (fun h => ?_) fun h => ?_
 refine gR 9 rfl ?_
 subst h
 exact go_end ab (rs := [.tmp 2]) rfl rfl rfl
 refine gR 10 rfl ?_
 subst h
 exact go_end ab (rs := [.tmp 2]) rfl rfl rfl
def ik (m : Nat) (p0 : Int) (p1 : List UInt8) (a : Int) (b r0 : Bool) : Prop := ∀ (K : Ctx), aJ K [] → qLG K Try.f36 (fun u _ => u = .bool r0) (cB (xG (ah Try.f36))) [.blk 0, .seq (xH (ah Try.f36))] 51 (mkF 51 0 [(1, .str p1), (5, .int .i64 a), (8, .int .i64 p0), (9, .bool b)]) ⟨0, []⟩
def dT (m : Nat) (p0 : Int) (p1 : List UInt8) (a : Int) (b r0 : Bool) : Prop := ∀ (K : Ctx), aJ K [] → qLG K Try.f36 (fun u _ => u = .bool r0) (cB (xB (xG (ah Try.f36)))) [.blk 0, .seq (xH (ah Try.f36))] 51 (mkF 51 0 [(1, .str p1), (5, .int .i64 a), (8, .int .i64 p0), (14, .bool b)]) ⟨0, []⟩
theorem nU (m : Nat) (p0 : Int) (p1 : List UInt8) (r0 : Bool) (h : ∃ a, sX p1 a ∧ ((p0 = 1) → ik m p0 p1 a true r0) ∧ ((p0 ≠ 1) → ik m p0 p1 a (p0 == 3) r0)) : iL p0 p1 r0 := by
 refine ⟨rfl, rfl, ?_⟩
 refine aA 51 [] Try.func36 rfl rfl rfl (bp rfl) fun K hK => ?_
 refine gR 8 rfl ?_
 obtain ⟨a, hs7, h⟩ := h
 refine gC0 hs7 (by kernel_rfl) rfl rfl .rfl rfl <| gR 17 rfl <| qBeZ 9 10 rfl rfl rfl rfl h (fun h => ?_) fun h => ?_
 exact gR 3 rfl <| gJ (h K hK) [] [] rfl hK pq4 trivial rfl
 exact gR 6 rfl <| gJ (h K hK) [] [] rfl hK pq4 trivial rfl
theorem nE (m : Nat) (p0 : Int) (p1 : List UInt8) (a : Int) (b r0 : Bool) (h : ((b = true) → (a == 2) = r0) ∧ ((b = false) → ((p0 = 2) → dT m p0 p1 a true r0) ∧ ((p0 ≠ 2) → ((p0 = 4) → dT m p0 p1 a true r0) ∧ ((p0 ≠ 4) → ((p0 = 12) → dT m p0 p1 a true r0) ∧ ((p0 ≠ 12) → dT m p0 p1 a (p0 == 20) r0))))) : ik (m + 1) p0 p1 a b r0 := by
 intro K hK
 refine qBi 9 rfl rfl rfl h (fun h => ?_) fun h => ?_
 refine gR 11 rfl ?_
 subst h
 exact go_end ab (rs := [.tmp 4]) rfl rfl rfl
 refine gR 8 rfl <| qBeZ 14 15 rfl rfl rfl rfl h (fun h => ?_) fun h => ?_
 exact gR 3 rfl <| gJ (h K hK) [] [] rfl hK pq4 trivial rfl
 refine gR 7 rfl <| qBeZ 14 16 rfl rfl rfl rfl h (fun h => ?_) fun h => ?_
 exact gR 3 rfl <| gJ (h K hK) [] [] rfl hK pq4 trivial rfl
 refine gR 7 rfl <| qBeZ 14 17 rfl rfl rfl rfl h (fun h => ?_) fun h => ?_
 exact gR 3 rfl <| gJ (h K hK) [] [] rfl hK pq4 trivial rfl
 exact gR 6 rfl <| gJ (h K hK) [] [] rfl hK pq4 trivial rfl
theorem nD (m : Nat) (p0 : Int) (p1 : List UInt8) (a : Int) (b r0 : Bool) (h : ((b = true) → (a == 1) = r0) ∧ ((b = false) → ((p0 = 9) → ((a = 2) → true = r0) ∧ ((a ≠ 2) → (a == 4) = r0)) ∧ ((p0 ≠ 9) → ((p0 = 16) → ((a = 1) → true = r0) ∧ ((a ≠ 1) → (a == 3) = r0)) ∧ ((p0 ≠ 16) → ((p0 = 10) → (a == 5) = r0) ∧ ((p0 ≠ 10) → ((p0 = 11) → (a == 6) = r0) ∧ ((p0 ≠ 11) → ((p0 = 21) → ∃ c, gO p1 c ∧ c = r0) ∧ ((p0 ≠ 21) → (p1 == []) = r0))))))) : dT (m + 1) p0 p1 a b r0 := by
 intro K hK
 refine qBi 14 rfl rfl rfl h (fun h => ?_) fun h => ?_
 refine gR 11 rfl ?_
 subst h
 exact go_end ab (rs := [.tmp 4]) rfl rfl rfl
 refine gR 7 rfl <| qBeZ 21 22 rfl rfl rfl rfl h (fun h => ?_) fun h => ?_
 refine gR 6 rfl <| qBeZ 25 24 rfl rfl rfl rfl h (fun h => ?_) fun h => ?_
 refine gR 9 rfl ?_
 subst h
 exact go_end ab (rs := [.tmp 4]) rfl rfl rfl
 refine gR 9 rfl ?_
 subst h
 exact go_end ab (rs := [.tmp 4]) rfl rfl rfl
 refine gR 7 rfl <| qBeZ 29 30 rfl rfl rfl rfl h (fun h => ?_) fun h => ?_
 refine gR 6 rfl <| qBeZ 33 32 rfl rfl rfl rfl h (fun h => ?_) fun h => ?_
 refine gR 9 rfl ?_
 subst h
 exact go_end ab (rs := [.tmp 4]) rfl rfl rfl
 refine gR 9 rfl ?_
 subst h
 exact go_end ab (rs := [.tmp 4]) rfl rfl rfl
 refine gR 7 rfl <| qBeZ 37 38 rfl rfl rfl rfl h (fun h => ?_) fun h => ?_
 refine gR 11 rfl ?_
 subst h
 exact go_end ab (rs := [.tmp 4]) rfl rfl rfl
 refine gR 7 rfl <| qBeZ 41 42 rfl rfl rfl rfl h (fun h => ?_) fun h => ?_
 refine gR 11 rfl ?_
 subst h
 exact go_end ab (rs := [.tmp 4]) rfl rfl rfl
 refine gR 7 rfl <| qBeZ 45 46 rfl rfl rfl rfl h (fun h => ?_) fun h => ?_
 refine gR 4 rfl ?_
 obtain ⟨c, hs8, h⟩ := h
 refine gC0 hs8 (by kernel_rfl) rfl rfl .rfl rfl <| gR 6 rfl ?_
 subst h
 exact go_end ab (rs := [.tmp 4]) rfl rfl rfl
 refine gR 12 rfl ?_
 subst h
 exact go_end ab (rs := [.tmp 4]) rfl rfl rfl
def fJ (m : Nat) (p0 : Tree) (p1 : Int) (a : Tree) (b r0 : Bool) : Prop := ∀ (K : Ctx), aJ K [] → qLG K Try.f37 (fun u _ => u = .bool r0) (cB (xC (xG (ah Try.f37)))) [.blk 0, .seq (xH (ah Try.f37))] 67 (mkF 67 0 [(1, .int .i64 p1), (5, .int .i64 a.kind), (13, .int .i64 p0.kind), (43, .bool b)]) ⟨0, []⟩
theorem pz (m : Nat) (p0 : Tree) (p1 : Int) (r0 : Bool) (h : ∃ b, p1 = ((b : Nat) : Int) ∧ ∃ a, p0.kids[b]? = some a ∧ ((p0.kind = 1) → ((a.kind = 2) → true = r0) ∧ ((a.kind ≠ 2) → (a.kind == 3) = r0)) ∧ ((p0.kind ≠ 1) → ((p0.kind = 2) → ((p1 = ((p0.kids.length : Int) - 1)) → ∃ c, cJ a.kind c ∧ c = r0) ∧ ((p1 ≠ ((p0.kids.length : Int) - 1)) → ((p1 = ((p0.kids.length : Int) - 2)) → ∃ d, fK a.kind d ∧ d = r0) ∧ ((p1 ≠ ((p0.kids.length : Int) - 2)) → (a.kind == 4) = r0))) ∧ ((p0.kind ≠ 2) → ((p0.kind = 3) → fJ m p0 p1 a true r0) ∧ ((p0.kind ≠ 3) → ((p0.kind = 4) → fJ m p0 p1 a true r0) ∧ ((p0.kind ≠ 4) → fJ m p0 p1 a (p0.kind == 8) r0))))) : je p0 p1 r0 := by
 refine ⟨rfl, rfl, ?_⟩
 refine aA 67 [] Try.func37 rfl rfl rfl (bp rfl) fun K hK => ?_
 refine gR 3 rfl <| gFP 0 rfl rfl rfl rfl <| gR 8 rfl ?_
 obtain ⟨b, e, h⟩ := h
 refine gV 8 (.int .i64 ((b : Nat) : Int)) rfl (jl e) rfl ?_
 obtain ⟨a, hxt0_2, h⟩ := h
 refine gY (bO (aK hxt0_2) ab rfl rfl rfl rfl) rfl rfl <| gR 19 rfl <| gB 14 rfl rfl rfl ?_ ?_ <;> intro hd
 refine gT 15 rfl hd rfl ?_
 replace hd := (eq_of_beq hd)
 replace h := h.1 hd
 refine gR 6 rfl <| gB 18 rfl rfl rfl ?_ ?_ <;> intro hd
 refine gT 17 rfl hd rfl ?_
 replace hd := (eq_of_beq hd)
 replace h := h.1 hd
 refine gR 9 rfl ?_
 subst h
 exact go_end ab (rs := [.tmp 4]) rfl rfl rfl
 refine gF 17 rfl hd rfl ?_
 replace hd := (ne_of_beq_false hd)
 replace h := h.2 hd
 refine gR 9 rfl ?_
 subst h
 exact go_end ab (rs := [.tmp 4]) rfl rfl rfl
 refine gF 15 rfl hd rfl ?_
 replace hd := (ne_of_beq_false hd)
 replace h := h.2 hd
 refine gR 7 rfl <| gB 22 rfl rfl rfl ?_ ?_ <;> intro hd
 refine gT 23 rfl hd rfl ?_
 replace hd := (eq_of_beq hd)
 replace h := h.1 hd
 refine gR 13 rfl <| gV 28 (.int .i64 (p0.kids.length : Int)) rfl (cg (bH _)) rfl <| gLB 27 rfl (bH _) fun hl17 => gR 1 rfl <| gV 29 (.int .i64 ((p0.kids.length : Int) - 1)) rfl (aN (by have := hl17; omega) rfl) rfl <| gR 4 rfl <| gB 25 rfl rfl rfl ?_ ?_ <;> intro hd
 refine gT 30 rfl hd rfl ?_
 replace hd := (eq_of_beq hd)
 replace h := h.1 hd
 refine gR 4 rfl ?_
 obtain ⟨c, hs18, h⟩ := h
 refine gC0 hs18 (by kernel_rfl) rfl rfl .rfl rfl <| gR 8 rfl ?_
 subst h
 exact go_end ab (rs := [.tmp 4]) rfl rfl rfl
 refine gF 30 rfl hd rfl ?_
 replace hd := (ne_of_beq_false hd)
 replace h := h.2 hd
 refine gR 6 rfl <| gV 36 (.int .i64 (p0.kids.length : Int)) rfl (cg (bH _)) rfl <| gR 1 rfl <| gV 37 (.int .i64 ((p0.kids.length : Int) - 2)) rfl (aN (by have := hl17; omega) rfl) rfl <| gR 4 rfl <| gB 33 rfl rfl rfl ?_ ?_ <;> intro hd
 refine gT 38 rfl hd rfl ?_
 replace hd := (eq_of_beq hd)
 replace h := h.1 hd
 refine gR 4 rfl ?_
 obtain ⟨d, hs19, h⟩ := h
 refine gC0 hs19 (by kernel_rfl) rfl rfl .rfl rfl <| gR 8 rfl ?_
 subst h
 exact go_end ab (rs := [.tmp 4]) rfl rfl rfl
 refine gF 38 rfl hd rfl ?_
 replace hd := (ne_of_beq_false hd)
 replace h := h.2 hd
 refine gR 14 rfl ?_
 subst h
 exact go_end ab (rs := [.tmp 4]) rfl rfl rfl
 refine gF 23 rfl hd rfl ?_
 replace hd := (ne_of_beq_false hd)
 replace h := h.2 hd
 refine gR 8 rfl <| gB 43 rfl rfl rfl ?_ ?_ <;> intro hd
 refine gT 44 rfl hd rfl ?_
 replace hd := (eq_of_beq hd)
 replace h := h.1 hd
 exact gR 3 rfl <| gJ (h K hK) [] [] rfl hK pq4 trivial rfl
 refine gF 44 rfl hd rfl ?_
 replace hd := (ne_of_beq_false hd)
 replace h := h.2 hd
 refine gR 7 rfl <| gB 43 rfl rfl rfl ?_ ?_ <;> intro hd
 refine gT 45 rfl hd rfl ?_
 replace hd := (eq_of_beq hd)
 replace h := h.1 hd
 exact gR 3 rfl <| gJ (h K hK) [] [] rfl hK pq4 trivial rfl
 refine gF 45 rfl hd rfl ?_
 replace hd := (ne_of_beq_false hd)
 replace h := h.2 hd
 exact gR 6 rfl <| gJ (h K hK) [] [] rfl hK pq4 trivial rfl
theorem nX (m : Nat) (p0 : Tree) (p1 : Int) (a : Tree) (c r0 : Bool) (h : ((c = true) → ∃ d, fK a.kind d ∧ d = r0) ∧ ((c = false) → ((p0.kind = 16) → (a.kind == 17) = r0) ∧ ((p0.kind ≠ 16) → ((p0.kind = 21) → ∃ b, iI a.kind b ∧ ((b = true) → true = r0) ∧ ((b = false) → ((p1 = 0) → (a.kind == 21) = r0) ∧ ((p1 ≠ 0) → false = r0))) ∧ ((p0.kind ≠ 21) → ∃ e, cJ a.kind e ∧ e = r0)))) : fJ (m + 1) p0 p1 a c r0 := by
 intro K hK
 refine qBi 43 rfl rfl rfl h (fun h => ?_) fun h => ?_
 refine gR 4 rfl ?_
 obtain ⟨d, hs20, h⟩ := h
 refine gC0 hs20 (by kernel_rfl) rfl rfl .rfl rfl <| gR 6 rfl ?_
 subst h
 exact go_end ab (rs := [.tmp 4]) rfl rfl rfl
 refine gR 7 rfl <| qBeZ 49 50 rfl rfl rfl rfl h (fun h => ?_) fun h => ?_
 refine gR 11 rfl ?_
 subst h
 exact go_end ab (rs := [.tmp 4]) rfl rfl rfl
 refine gR 7 rfl <| qBeZ 53 54 rfl rfl rfl rfl h (fun h => ?_) fun h => ?_
 refine gR 4 rfl ?_
 obtain ⟨b, hs21, h⟩ := h
 refine gC0 hs21 (by kernel_rfl) rfl rfl .rfl rfl <| gR 1 rfl <| qBiZ 57 56 rfl rfl rfl rfl h (fun h => ?_) fun h => ?_
 refine gR 13 rfl ?_
 subst h
 exact go_end ab (rs := [.tmp 4]) rfl rfl rfl
 refine gR 3 rfl <| qBeZ 60 59 rfl rfl rfl rfl h (fun h => ?_) fun h => ?_
 refine gR 10 rfl ?_
 subst h
 exact go_end ab (rs := [.tmp 4]) rfl rfl rfl
 refine gR 10 rfl ?_
 subst h
 exact go_end ab (rs := [.tmp 4]) rfl rfl rfl
 refine gR 7 rfl ?_
 obtain ⟨e, hs22, h⟩ := h
 refine gC0 hs22 (by kernel_rfl) rfl rfl .rfl rfl <| gR 4 rfl ?_
 subst h
 exact go_end ab (rs := [.tmp 4]) rfl rfl rfl
def fw (m : Nat) (p0 : Tree) (a : Nat) (r0 : Bool) : Prop := ∀ (K : Ctx) (j1 : Nat), aJ K [] → m ≤ j1 → qLG K Try.f18 (fun u _ => u = .bool r0) (xI (ah Try.f18)) [.loop (xI (ah Try.f18)) j1, .blk 0, .seq (xH (ah Try.f18))] 38 (mkF 38 0 [(1, .box (av p0) 0), (21, .row 4 (kidsV p0.kids)), (22, .int .i64 (p0.kids.length : Int)), (23, .int .i64 (a : Int))]) ⟨0, []⟩
theorem nV (m : Nat) (p0 : Tree) (r0 : Bool) (h : ∃ a, eY p0.kind (p0.kids.length : Int) a ∧ ((a < 0) → false = r0) ∧ ((¬ a < 0) → ∃ b, iL p0.kind p0.text b ∧ ((b = false) → false = r0) ∧ ((b = true) → fw m p0 0 r0))) : dm p0 r0 := by
 refine ⟨rfl, rfl, ?_⟩
 refine aA 38 [] Try.func18 rfl rfl rfl (bp rfl) fun K hK => ?_
 refine gR 3 rfl <| gFP 0 rfl rfl rfl rfl <| gR 11 rfl <| gV 9 (.int .i64 (p0.kids.length : Int)) rfl (cg (bH _)) rfl <| gLB 8 rfl (bH _) fun hl11 => ?_
 obtain ⟨a, hs12, h⟩ := h
 refine gC0 hs12 (by kernel_rfl) rfl rfl .rfl rfl <| gR 2 rfl <| gB 12 rfl rfl rfl ?_ ?_ <;> intro hd
 refine gT 11 rfl hd rfl ?_
 replace hd := (of_decide_eq_true hd)
 replace h := h.1 hd
 refine gR 17 rfl ?_
 subst h
 exact go_end ab (rs := [.tmp 2]) rfl rfl rfl
 refine gF 11 rfl hd rfl ?_
 replace hd := (of_decide_eq_false hd)
 replace h := h.2 hd
 refine gR 4 rfl ?_
 obtain ⟨b, hs13, h⟩ := h
 refine gC0 hs13 (by kernel_rfl) rfl rfl .rfl rfl <| gR 4 rfl <| gB 19 rfl rfl rfl ?_ ?_ <;> intro hd
 replace hd := (dH hd)
 replace h := h.1 hd
 refine gR 8 rfl ?_
 subst h
 exact go_end ab (rs := [.tmp 2]) rfl rfl rfl
 replace hd := (dD hd)
 replace h := h.2 hd
 exact gR 9 rfl <| gV 22 (.int .i64 (p0.kids.length : Int)) rfl (cg (bH _)) rfl <| gR 4 rfl <| go_loop m <| gJ (h K _ hK (by omega)) [] [] rfl hK pq4 trivial rfl
theorem jE (m : Nat) (p0 : Tree) (a : Nat) (r0 : Bool) (h : ((a < p0.kids.length) → ∃ d, p0.kids[a]? = some d ∧ ∃ b, je p0 (a : Int) b ∧ ((b = false) → false = r0) ∧ ((b = true) → ∃ c, dm d c ∧ ((c = false) → false = r0) ∧ ((c = true) → a + 1 ≤ 9223372036854775807 ∧ fw m p0 (a + 1) r0))) ∧ ((¬ a < p0.kids.length) → true = r0)) : fw (m + 1) p0 a r0 := by
 intro K j1 hK hj1
 obtain ⟨j1, rfl⟩ : ∃ j, j1 = j + 1 := ⟨j1 - 1, by omega⟩
 refine gR 6 rfl <| gB 24 rfl rfl rfl ?_ ?_ <;> intro hd
 replace hd := (fS hd)
 replace h := h.1 hd
 refine gR 8 rfl ?_
 obtain ⟨d, hxt1_1, h⟩ := h
 refine gY (bO (aK hxt1_1) ab rfl rfl rfl rfl) rfl rfl <| gR 10 rfl ?_
 obtain ⟨b, hs14, h⟩ := h
 refine gC0 hs14 (by kernel_rfl) rfl rfl .rfl rfl <| gR 2 rfl <| gB 32 rfl rfl rfl ?_ ?_ <;> intro hd
 refine gT 31 rfl hd rfl ?_
 replace hd := (dH hd)
 replace h := h.1 hd
 refine gR 15 rfl <| go_xloopR <| gR 2 rfl ?_
 subst h
 exact go_end ab (rs := [.tmp 2]) rfl rfl rfl
 refine gF 31 rfl hd rfl ?_
 replace hd := (dD hd)
 replace h := h.2 hd
 refine gR 1 rfl ?_
 obtain ⟨c, hs15, h⟩ := h
 refine gC0 hs15 (by kernel_rfl) rfl rfl .rfl rfl <| gR 4 rfl <| gB 36 rfl rfl rfl ?_ ?_ <;> intro hd
 replace hd := (dH hd)
 replace h := h.1 hd
 refine gR 9 rfl <| go_xloopR <| gR 2 rfl ?_
 subst h
 exact go_end ab (rs := [.tmp 2]) rfl rfl rfl
 replace hd := (dD hd)
 replace h := h.2 hd
 refine gR 5 rfl ?_
 obtain ⟨hb, h⟩ := h
 exact gR 1 rfl <| gV 37 (.int .i64 ((a + 1 : Nat) : Int)) rfl (aN (by omega) (by omega)) rfl <| gR 2 rfl <| go_xloop <| gJ (h K _ hK (by omega)) [] [] rfl hK pq4 trivial rfl
 replace hd := (gd hd)
 replace h := h.2 hd
 refine gR 3 rfl <| go_xloopE <| gR 8 rfl ?_
 subst h
 exact go_end ab (rs := [.tmp 2]) rfl rfl rfl
def dA (m : Nat) (p0 p1 : Int) (a : Bool) (r0 : Int) : Prop := ∀ (K : Ctx), aJ K [] → qLG K Try.f42 (fun u _ => u = .int .i64 r0) (cB (xC (xB (xF (cB (ah Try.f42)))))) [.blk 0, .seq (xA (ah Try.f42))] 71 (mkF 71 0 [(1, .int .i64 p1), (5, .int .i64 p0), (22, .bool a)]) ⟨0, []⟩
def aV (m : Nat) (p0 p1 : Int) (a : Bool) (r0 : Int) : Prop := ∀ (K : Ctx), aJ K [] → qLG K Try.f42 (fun u _ => u = .int .i64 r0) (cB (xE (xF (cB (ah Try.f42))))) [.blk 0, .seq (xA (ah Try.f42))] 71 (mkF 71 0 [(1, .int .i64 p1), (5, .int .i64 p0), (28, .bool a)]) ⟨0, []⟩
theorem ml (m : Nat) (p0 p1 r0 : Int) (h : ((p0 = 1) → ((0 ≤ p1) → 3 = r0) ∧ ((¬ 0 ≤ p1) → (-1) = r0)) ∧ ((p0 ≠ 1) → ((p0 = 2) → ((2 ≤ p1) → InI (p1 - 3) ∧ InI (6 + (max 0 (p1 - 3))) ∧ (6 + (max 0 (p1 - 3))) = r0) ∧ ((¬ 2 ≤ p1) → (-1) = r0)) ∧ ((p0 ≠ 2) → ((p0 = 3) → ∃ a, bE p1 1 3 a ∧ a = r0) ∧ ((p0 ≠ 3) → ((p0 = 4) → dA m p0 p1 true r0) ∧ ((p0 ≠ 4) → ((p0 = 8) → dA m p0 p1 true r0) ∧ ((p0 ≠ 8) → dA m p0 p1 (p0 == 22) r0)))))) : dU p0 p1 r0 := by
 refine ⟨rfl, rfl, ?_⟩
 refine aA 71 [] Try.func42 rfl rfl rfl (bp rfl) fun K hK => ?_
 refine gR 18 rfl <| qBeZ 6 7 rfl rfl rfl rfl h (fun h => ?_) fun h => ?_
 refine gR 7 rfl <| qBd 9 rfl rfl rfl h (fun h => ?_) fun h => ?_
 refine gR 9 rfl ?_
 subst h
 exact go_end ab (rs := [.tmp 4]) rfl rfl rfl
 refine gR 10 rfl ?_
 subst h
 exact go_end ab (rs := [.tmp 4]) rfl rfl rfl
 refine gR 7 rfl <| qBeZ 10 11 rfl rfl rfl rfl h (fun h => ?_) fun h => ?_
 refine gR 7 rfl <| qBd 13 rfl rfl rfl h (fun h => ?_) fun h => ?_
 refine gR 4 rfl ?_
 obtain ⟨hb, h⟩ := h
 refine gR 1 rfl <| gV 15 (.int .i64 (p1 - 3)) rfl (aN hb rfl) rfl <| gR 1 rfl ?_
 obtain ⟨hb, h⟩ := h
 refine gR 1 rfl <| gV 17 (.int .i64 (6 + (max 0 (p1 - 3)))) rfl (aN hb rfl) rfl <| gR 6 rfl ?_
 subst h
 exact go_end ab (rs := [.tmp 4]) rfl rfl rfl
 refine gR 10 rfl ?_
 subst h
 exact go_end ab (rs := [.tmp 4]) rfl rfl rfl
 refine gR 7 rfl <| qBeZ 18 19 rfl rfl rfl rfl h (fun h => ?_) fun h => ?_
 refine gR 4 rfl ?_
 obtain ⟨a, hs20, h⟩ := h
 refine gC0 hs20 (by kernel_rfl) rfl rfl .rfl rfl <| gR 6 rfl ?_
 subst h
 exact go_end ab (rs := [.tmp 4]) rfl rfl rfl
 refine gR 8 rfl <| qBeZ 22 23 rfl rfl rfl rfl h (fun h => ?_) fun h => ?_
 exact gR 3 rfl <| gJ (h K hK) [] [] rfl hK pq3 trivial rfl
 refine gR 7 rfl <| qBeZ 22 24 rfl rfl rfl rfl h (fun h => ?_) fun h => ?_
 exact gR 3 rfl <| gJ (h K hK) [] [] rfl hK pq3 trivial rfl
 exact gR 6 rfl <| gJ (h K hK) [] [] rfl hK pq3 trivial rfl
theorem lI (m : Nat) (p0 p1 : Int) (a : Bool) (r0 : Int) (h : ((a = true) → ∃ b, bE p1 1 2 b ∧ b = r0) ∧ ((a = false) → ((p0 = 5) → aV m p0 p1 true r0) ∧ ((p0 ≠ 5) → ((p0 = 6) → aV m p0 p1 true r0) ∧ ((p0 ≠ 6) → ((p0 = 7) → aV m p0 p1 true r0) ∧ ((p0 ≠ 7) → ((p0 = 9) → aV m p0 p1 true r0) ∧ ((p0 ≠ 9) → ((p0 = 10) → aV m p0 p1 true r0) ∧ ((p0 ≠ 10) → ((p0 = 11) → aV m p0 p1 true r0) ∧ ((p0 ≠ 11) → ((p0 = 12) → aV m p0 p1 true r0) ∧ ((p0 ≠ 12) → ((p0 = 13) → aV m p0 p1 true r0) ∧ ((p0 ≠ 13) → ((p0 = 14) → aV m p0 p1 true r0) ∧ ((p0 ≠ 14) → aV m p0 p1 (p0 == 15) r0))))))))))) : dA (m + 1) p0 p1 a r0 := by
 intro K hK
 refine qBi 22 rfl rfl rfl h (fun h => ?_) fun h => ?_
 refine gR 4 rfl ?_
 obtain ⟨b, hs21, h⟩ := h
 refine gC0 hs21 (by kernel_rfl) rfl rfl .rfl rfl <| gR 6 rfl ?_
 subst h
 exact go_end ab (rs := [.tmp 4]) rfl rfl rfl
 refine gR 8 rfl <| qBeZ 28 29 rfl rfl rfl rfl h (fun h => ?_) fun h => ?_
 exact gR 3 rfl <| gJ (h K hK) [] [] rfl hK pq3 trivial rfl
 refine gR 7 rfl <| qBeZ 28 30 rfl rfl rfl rfl h (fun h => ?_) fun h => ?_
 exact gR 3 rfl <| gJ (h K hK) [] [] rfl hK pq3 trivial rfl
 refine gR 7 rfl <| qBeZ 28 31 rfl rfl rfl rfl h (fun h => ?_) fun h => ?_
 exact gR 3 rfl <| gJ (h K hK) [] [] rfl hK pq3 trivial rfl
 refine gR 7 rfl <| qBeZ 28 32 rfl rfl rfl rfl h (fun h => ?_) fun h => ?_
 exact gR 3 rfl <| gJ (h K hK) [] [] rfl hK pq3 trivial rfl
 refine gR 7 rfl <| qBeZ 28 33 rfl rfl rfl rfl h (fun h => ?_) fun h => ?_
 exact gR 3 rfl <| gJ (h K hK) [] [] rfl hK pq3 trivial rfl
 refine gR 7 rfl <| qBeZ 28 34 rfl rfl rfl rfl h (fun h => ?_) fun h => ?_
 exact gR 3 rfl <| gJ (h K hK) [] [] rfl hK pq3 trivial rfl
 refine gR 7 rfl <| qBeZ 28 35 rfl rfl rfl rfl h (fun h => ?_) fun h => ?_
 exact gR 3 rfl <| gJ (h K hK) [] [] rfl hK pq3 trivial rfl
 refine gR 7 rfl <| qBeZ 28 36 rfl rfl rfl rfl h (fun h => ?_) fun h => ?_
 exact gR 3 rfl <| gJ (h K hK) [] [] rfl hK pq3 trivial rfl
 refine gR 7 rfl <| qBeZ 28 37 rfl rfl rfl rfl h (fun h => ?_) fun h => ?_
 exact gR 3 rfl <| gJ (h K hK) [] [] rfl hK pq3 trivial rfl
 exact gR 6 rfl <| gJ (h K hK) [] [] rfl hK pq3 trivial rfl
theorem lH (m : Nat) (p0 p1 : Int) (a : Bool) (r0 : Int) (h : ((a = true) → ∃ b, bE p1 0 1 b ∧ b = r0) ∧ ((a = false) → ((p0 = 16) → ((0 ≤ p1) → InI (p1 - 1) ∧ InI (3 + (max 0 (p1 - 1))) ∧ (3 + (max 0 (p1 - 1))) = r0) ∧ ((¬ 0 ≤ p1) → (-1) = r0)) ∧ ((p0 ≠ 16) → ((p0 = 17) → ∃ c, bE p1 1 0 c ∧ c = r0) ∧ ((p0 ≠ 17) → ((p0 = 18) → ((1 ≤ p1) → InI (1 + p1) ∧ (1 + p1) = r0) ∧ ((¬ 1 ≤ p1) → (-1) = r0)) ∧ ((p0 ≠ 18) → ((p0 = 19) → ∃ d, bE p1 3 3 d ∧ d = r0) ∧ ((p0 ≠ 19) → ((p0 = 20) → ∃ e, bE p1 2 4 e ∧ e = r0) ∧ ((p0 ≠ 20) → ((p0 = 21) → ∃ f, bE p1 2 1 f ∧ f = r0) ∧ ((p0 ≠ 21) → (-1) = r0)))))))) : aV (m + 1) p0 p1 a r0 := by
 intro K hK
 refine qBi 28 rfl rfl rfl h (fun h => ?_) fun h => ?_
 refine gR 4 rfl ?_
 obtain ⟨b, hs22, h⟩ := h
 refine gC0 hs22 (by kernel_rfl) rfl rfl .rfl rfl <| gR 6 rfl ?_
 subst h
 exact go_end ab (rs := [.tmp 4]) rfl rfl rfl
 refine gR 7 rfl <| qBeZ 41 42 rfl rfl rfl rfl h (fun h => ?_) fun h => ?_
 refine gR 7 rfl <| qBd 44 rfl rfl rfl h (fun h => ?_) fun h => ?_
 refine gR 4 rfl ?_
 obtain ⟨hb, h⟩ := h
 refine gR 1 rfl <| gV 46 (.int .i64 (p1 - 1)) rfl (aN hb rfl) rfl <| gR 1 rfl ?_
 obtain ⟨hb, h⟩ := h
 refine gR 1 rfl <| gV 48 (.int .i64 (3 + (max 0 (p1 - 1)))) rfl (aN hb rfl) rfl <| gR 6 rfl ?_
 subst h
 exact go_end ab (rs := [.tmp 4]) rfl rfl rfl
 refine gR 10 rfl ?_
 subst h
 exact go_end ab (rs := [.tmp 4]) rfl rfl rfl
 refine gR 7 rfl <| qBeZ 49 50 rfl rfl rfl rfl h (fun h => ?_) fun h => ?_
 refine gR 4 rfl ?_
 obtain ⟨c, hs23, h⟩ := h
 refine gC0 hs23 (by kernel_rfl) rfl rfl .rfl rfl <| gR 6 rfl ?_
 subst h
 exact go_end ab (rs := [.tmp 4]) rfl rfl rfl
 refine gR 7 rfl <| qBeZ 53 54 rfl rfl rfl rfl h (fun h => ?_) fun h => ?_
 refine gR 7 rfl <| qBd 56 rfl rfl rfl h (fun h => ?_) fun h => ?_
 refine gR 4 rfl ?_
 obtain ⟨hb, h⟩ := h
 refine gR 1 rfl <| gV 58 (.int .i64 (1 + p1)) rfl (aN hb rfl) rfl <| gR 6 rfl ?_
 subst h
 exact go_end ab (rs := [.tmp 4]) rfl rfl rfl
 refine gR 10 rfl ?_
 subst h
 exact go_end ab (rs := [.tmp 4]) rfl rfl rfl
 refine gR 7 rfl <| qBeZ 59 60 rfl rfl rfl rfl h (fun h => ?_) fun h => ?_
 refine gR 4 rfl ?_
 obtain ⟨d, hs24, h⟩ := h
 refine gC0 hs24 (by kernel_rfl) rfl rfl .rfl rfl <| gR 6 rfl ?_
 subst h
 exact go_end ab (rs := [.tmp 4]) rfl rfl rfl
 refine gR 7 rfl <| qBeZ 63 64 rfl rfl rfl rfl h (fun h => ?_) fun h => ?_
 refine gR 4 rfl ?_
 obtain ⟨e, hs25, h⟩ := h
 refine gC0 hs25 (by kernel_rfl) rfl rfl .rfl rfl <| gR 6 rfl ?_
 subst h
 exact go_end ab (rs := [.tmp 4]) rfl rfl rfl
 refine gR 7 rfl <| qBeZ 67 68 rfl rfl rfl rfl h (fun h => ?_) fun h => ?_
 refine gR 4 rfl ?_
 obtain ⟨f, hs26, h⟩ := h
 refine gC0 hs26 (by kernel_rfl) rfl rfl .rfl rfl <| gR 6 rfl ?_
 subst h
 exact go_end ab (rs := [.tmp 4]) rfl rfl rfl
 refine gR 10 rfl ?_
 subst h
 exact go_end ab (rs := [.tmp 4]) rfl rfl rfl
theorem mI (m : Nat) (p0 p1 p2 r0 : Int) (h : ((p0 = p1) → p2 = r0) ∧ ((p0 ≠ p1) → (-1) = r0)) : bE p0 p1 p2 r0 := by
 refine ⟨rfl, rfl, ?_⟩
 refine aA 11 [] Try.func68 rfl rfl rfl (bp rfl) fun K hK => ?_
 refine gR 13 rfl <| qBe 9 rfl rfl rfl h (fun h => ?_) fun h => ?_
 refine gR 9 rfl ?_
 subst h
 exact go_end ab (rs := [.tmp 6]) rfl rfl rfl
 refine gR 9 rfl ?_
 subst h
 exact go_end ab (rs := [.tmp 6]) rfl rfl rfl
theorem lJ (m : Nat) (p0 : Int) (r0 : Bool) (h : ((5 ≤ p0) → decide (p0 ≤ 9) = r0) ∧ ((¬ 5 ≤ p0) → false = r0)) : dC p0 r0 := by
 refine ⟨rfl, rfl, ?_⟩
 refine aA 9 [] Try.func72 rfl rfl rfl (bp rfl) fun K hK => ?_
 refine gR 10 rfl <| qBdZ 5 4 rfl rfl rfl rfl h (fun h => ?_) fun h => ?_
 refine gR 7 rfl ?_
 subst h
 exact go_end ab (rs := [.tmp 2]) rfl rfl rfl
 refine gR 7 rfl ?_
 subst h
 exact go_end ab (rs := [.tmp 2]) rfl rfl rfl
theorem lO (m : Nat) (p0 : Int) (r0 : Bool) (h : ((10 ≤ p0) → ((p0 ≤ 22) → (p0 != 17) = r0) ∧ ((¬ p0 ≤ 22) → false = r0)) ∧ ((¬ 10 ≤ p0) → false = r0)) : cQ p0 r0 := by
 refine ⟨rfl, rfl, ?_⟩
 refine aA 13 [] Try.func71 rfl rfl rfl (bp rfl) fun K hK => ?_
 refine gR 10 rfl <| qBdZ 5 4 rfl rfl rfl rfl h (fun h => ?_) fun h => ?_
 refine gR 4 rfl <| qBdZ 9 8 rfl rfl rfl rfl h (fun h => ?_) fun h => ?_
 refine gR 7 rfl ?_
 subst h
 exact go_end ab (rs := [.tmp 2]) rfl rfl rfl
 refine gR 7 rfl ?_
 subst h
 exact go_end ab (rs := [.tmp 2]) rfl rfl rfl
 refine gR 11 rfl ?_
 subst h
 exact go_end ab (rs := [.tmp 2]) rfl rfl rfl
theorem lD (m : Nat) (p0 : Int) (r0 : Bool) (h : ∃ a, cQ p0 a ∧ ((a = true) → ((p0 ≠ 19) → ((p0 ≠ 20) → (p0 != 21) = r0) ∧ ((p0 = 20) → false = r0)) ∧ ((p0 = 19) → false = r0)) ∧ ((a = false) → false = r0)) : fv p0 r0 := by
 refine ⟨rfl, rfl, ?_⟩
 refine aA 17 [] Try.func73 rfl rfl rfl (bp rfl) fun K hK => ?_
 refine gR 8 rfl ?_
 obtain ⟨a, hs2, h⟩ := h
 refine gC0 hs2 (by kernel_rfl) rfl rfl .rfl rfl <| gR 1 rfl <| qBiZ 5 4 rfl rfl rfl rfl h (fun h => ?_) fun h => ?_
 refine gR 4 rfl <| qBhZ 9 8 rfl rfl rfl rfl h io fz (fun h => ?_) fun h => ?_
 refine gR 4 rfl <| qBhZ 13 12 rfl rfl rfl rfl h io fz (fun h => ?_) fun h => ?_
 refine gR 7 rfl ?_
 subst h
 exact go_end ab (rs := [.tmp 2]) rfl rfl rfl
 refine gR 7 rfl ?_
 subst h
 exact go_end ab (rs := [.tmp 2]) rfl rfl rfl
 refine gR 11 rfl ?_
 subst h
 exact go_end ab (rs := [.tmp 2]) rfl rfl rfl
 refine gR 15 rfl ?_
 subst h
 exact go_end ab (rs := [.tmp 2]) rfl rfl rfl
theorem jL (m : Nat) (p0 : List UInt8) (r0 : Bool) (h : ((p0 = [43]) → true = r0) ∧ ((p0 ≠ [43]) → ((p0 = [45]) → true = r0) ∧ ((p0 ≠ [45]) → ((p0 = [42]) → true = r0) ∧ ((p0 ≠ [42]) → ((p0 = [60]) → true = r0) ∧ ((p0 ≠ [60]) → ((p0 = [61, 61]) → true = r0) ∧ ((p0 ≠ [61, 61]) → false = r0)))))) : dS p0 r0 := by
 refine ⟨rfl, rfl, ?_⟩
 refine aA 10 [] Try.func70 rfl rfl rfl (bp rfl) fun K hK => ?_
 refine gR 19 rfl <| qBeZ 4 5 rfl rfl rfl rfl h (fun h => ?_) fun h => ?_
 refine gR 12 rfl ?_
 subst h
 exact go_end ab (rs := [.tmp 2]) rfl rfl rfl
 refine gR 7 rfl <| qBeZ 4 6 rfl rfl rfl rfl h (fun h => ?_) fun h => ?_
 refine gR 12 rfl ?_
 subst h
 exact go_end ab (rs := [.tmp 2]) rfl rfl rfl
 refine gR 7 rfl <| qBeZ 4 7 rfl rfl rfl rfl h (fun h => ?_) fun h => ?_
 refine gR 12 rfl ?_
 subst h
 exact go_end ab (rs := [.tmp 2]) rfl rfl rfl
 refine gR 7 rfl <| qBeZ 4 8 rfl rfl rfl rfl h (fun h => ?_) fun h => ?_
 refine gR 12 rfl ?_
 subst h
 exact go_end ab (rs := [.tmp 2]) rfl rfl rfl
 refine gR 6 rfl <| qBeZ 4 9 rfl rfl rfl rfl h (fun h => ?_) fun h => ?_
 refine gR 9 rfl ?_
 subst h
 exact go_end ab (rs := [.tmp 2]) rfl rfl rfl
 refine gR 10 rfl ?_
 subst h
 exact go_end ab (rs := [.tmp 2]) rfl rfl rfl
def ec (m : Nat) (p0 : Int) (p1 : List UInt8) (a : Int) (b r0 : Bool) : Prop := ∀ (K : Ctx), aJ K [] → qLG K Try.f43 (fun u _ => u = .bool r0) (cB (xG (ah Try.f43))) [.blk 0, .seq (xH (ah Try.f43))] 51 (mkF 51 0 [(1, .str p1), (5, .int .i64 a), (8, .int .i64 p0), (9, .bool b)]) ⟨0, []⟩
def ch (m : Nat) (p0 : Int) (p1 : List UInt8) (a : Int) (b r0 : Bool) : Prop := ∀ (K : Ctx), aJ K [] → qLG K Try.f43 (fun u _ => u = .bool r0) (cB (xB (xG (ah Try.f43)))) [.blk 0, .seq (xH (ah Try.f43))] 51 (mkF 51 0 [(1, .str p1), (5, .int .i64 a), (8, .int .i64 p0), (14, .bool b)]) ⟨0, []⟩
theorem kA (m : Nat) (p0 : Int) (p1 : List UInt8) (r0 : Bool) (h : ∃ a, mG p1 a ∧ ((p0 = 1) → ec m p0 p1 a true r0) ∧ ((p0 ≠ 1) → ec m p0 p1 a (p0 == 3) r0)) : eO p0 p1 r0 := by
 refine ⟨rfl, rfl, ?_⟩
 refine aA 51 [] Try.func43 rfl rfl rfl (bp rfl) fun K hK => ?_
 refine gR 8 rfl ?_
 obtain ⟨a, hs7, h⟩ := h
 refine gC0 hs7 (by kernel_rfl) rfl rfl .rfl rfl <| gR 17 rfl <| qBeZ 9 10 rfl rfl rfl rfl h (fun h => ?_) fun h => ?_
 exact gR 3 rfl <| gJ (h K hK) [] [] rfl hK pq4 trivial rfl
 exact gR 6 rfl <| gJ (h K hK) [] [] rfl hK pq4 trivial rfl
theorem kf (m : Nat) (p0 : Int) (p1 : List UInt8) (a : Int) (b r0 : Bool) (h : ((b = true) → (a == 2) = r0) ∧ ((b = false) → ((p0 = 2) → ch m p0 p1 a true r0) ∧ ((p0 ≠ 2) → ((p0 = 4) → ch m p0 p1 a true r0) ∧ ((p0 ≠ 4) → ((p0 = 12) → ch m p0 p1 a true r0) ∧ ((p0 ≠ 12) → ch m p0 p1 a (p0 == 20) r0))))) : ec (m + 1) p0 p1 a b r0 := by
 intro K hK
 refine qBi 9 rfl rfl rfl h (fun h => ?_) fun h => ?_
 refine gR 11 rfl ?_
 subst h
 exact go_end ab (rs := [.tmp 4]) rfl rfl rfl
 refine gR 8 rfl <| qBeZ 14 15 rfl rfl rfl rfl h (fun h => ?_) fun h => ?_
 exact gR 3 rfl <| gJ (h K hK) [] [] rfl hK pq4 trivial rfl
 refine gR 7 rfl <| qBeZ 14 16 rfl rfl rfl rfl h (fun h => ?_) fun h => ?_
 exact gR 3 rfl <| gJ (h K hK) [] [] rfl hK pq4 trivial rfl
 refine gR 7 rfl <| qBeZ 14 17 rfl rfl rfl rfl h (fun h => ?_) fun h => ?_
 exact gR 3 rfl <| gJ (h K hK) [] [] rfl hK pq4 trivial rfl
 exact gR 6 rfl <| gJ (h K hK) [] [] rfl hK pq4 trivial rfl
theorem jY (m : Nat) (p0 : Int) (p1 : List UInt8) (a : Int) (b r0 : Bool) (h : ((b = true) → (a == 1) = r0) ∧ ((b = false) → ((p0 = 9) → ((a = 2) → true = r0) ∧ ((a ≠ 2) → (a == 4) = r0)) ∧ ((p0 ≠ 9) → ((p0 = 16) → ((a = 1) → true = r0) ∧ ((a ≠ 1) → (a == 3) = r0)) ∧ ((p0 ≠ 16) → ((p0 = 10) → (a == 5) = r0) ∧ ((p0 ≠ 10) → ((p0 = 11) → (a == 6) = r0) ∧ ((p0 ≠ 11) → ((p0 = 21) → ∃ c, dS p1 c ∧ c = r0) ∧ ((p0 ≠ 21) → (p1 == []) = r0))))))) : ch (m + 1) p0 p1 a b r0 := by
 intro K hK
 refine qBi 14 rfl rfl rfl h (fun h => ?_) fun h => ?_
 refine gR 11 rfl ?_
 subst h
 exact go_end ab (rs := [.tmp 4]) rfl rfl rfl
 refine gR 7 rfl <| qBeZ 21 22 rfl rfl rfl rfl h (fun h => ?_) fun h => ?_
 refine gR 6 rfl <| qBeZ 25 24 rfl rfl rfl rfl h (fun h => ?_) fun h => ?_
 refine gR 9 rfl ?_
 subst h
 exact go_end ab (rs := [.tmp 4]) rfl rfl rfl
 refine gR 9 rfl ?_
 subst h
 exact go_end ab (rs := [.tmp 4]) rfl rfl rfl
 refine gR 7 rfl <| qBeZ 29 30 rfl rfl rfl rfl h (fun h => ?_) fun h => ?_
 refine gR 6 rfl <| qBeZ 33 32 rfl rfl rfl rfl h (fun h => ?_) fun h => ?_
 refine gR 9 rfl ?_
 subst h
 exact go_end ab (rs := [.tmp 4]) rfl rfl rfl
 refine gR 9 rfl ?_
 subst h
 exact go_end ab (rs := [.tmp 4]) rfl rfl rfl
 refine gR 7 rfl <| qBeZ 37 38 rfl rfl rfl rfl h (fun h => ?_) fun h => ?_
 refine gR 11 rfl ?_
 subst h
 exact go_end ab (rs := [.tmp 4]) rfl rfl rfl
 refine gR 7 rfl <| qBeZ 41 42 rfl rfl rfl rfl h (fun h => ?_) fun h => ?_
 refine gR 11 rfl ?_
 subst h
 exact go_end ab (rs := [.tmp 4]) rfl rfl rfl
 refine gR 7 rfl <| qBeZ 45 46 rfl rfl rfl rfl h (fun h => ?_) fun h => ?_
 refine gR 4 rfl ?_
 obtain ⟨c, hs8, h⟩ := h
 refine gC0 hs8 (by kernel_rfl) rfl rfl .rfl rfl <| gR 6 rfl ?_
 subst h
 exact go_end ab (rs := [.tmp 4]) rfl rfl rfl
 refine gR 12 rfl ?_
 subst h
 exact go_end ab (rs := [.tmp 4]) rfl rfl rfl
def eo (m : Nat) (p0 : Tree) (p1 p2 : Int) (a r0 : Bool) : Prop := ∀ (K : Ctx), aJ K [] → qLG K Try.f44 (fun u _ => u = .bool r0) (cB (xC (xG (ah Try.f44)))) [.blk 0, .seq (xH (ah Try.f44))] 62 (mkF 62 0 [(1, .int .i64 p1), (2, .int .i64 p2), (12, .int .i64 p0.kind), (38, .bool a)]) ⟨0, []⟩
theorem mM (m : Nat) (p0 : Tree) (p1 p2 : Int) (r0 : Bool) (h : ((p0.kind = 1) → ((p2 = 2) → true = r0) ∧ ((p2 ≠ 2) → (p2 == 3) = r0)) ∧ ((p0.kind ≠ 1) → ((p0.kind = 2) → ((p1 = ((p0.kids.length : Int) - 1)) → ∃ a, cQ p2 a ∧ a = r0) ∧ ((p1 ≠ ((p0.kids.length : Int) - 1)) → ((p1 = ((p0.kids.length : Int) - 2)) → ∃ b, dC p2 b ∧ b = r0) ∧ ((p1 ≠ ((p0.kids.length : Int) - 2)) → (p2 == 4) = r0))) ∧ ((p0.kind ≠ 2) → ((p0.kind = 3) → eo m p0 p1 p2 true r0) ∧ ((p0.kind ≠ 3) → ((p0.kind = 4) → eo m p0 p1 p2 true r0) ∧ ((p0.kind ≠ 4) → eo m p0 p1 p2 (p0.kind == 8) r0))))) : gQ p0 p1 p2 r0 := by
 refine ⟨rfl, rfl, ?_⟩
 refine aA 62 [] Try.func44 rfl rfl rfl (bp rfl) fun K hK => ?_
 refine gR 3 rfl <| gFP 0 rfl rfl rfl rfl <| gR 8 rfl <| gV 10 (.int .i64 (p0.kids.length : Int)) rfl (cg (bH _)) rfl <| gLB 9 rfl (bH _) fun hl17 => gR 17 rfl <| gB 13 rfl rfl rfl ?_ ?_ <;> intro hd
 refine gT 14 rfl hd rfl ?_
 replace hd := (eq_of_beq hd)
 replace h := h.1 hd
 refine gR 6 rfl <| gB 17 rfl rfl rfl ?_ ?_ <;> intro hd
 refine gT 16 rfl hd rfl ?_
 replace hd := (eq_of_beq hd)
 replace h := h.1 hd
 refine gR 9 rfl ?_
 subst h
 exact go_end ab (rs := [.tmp 6]) rfl rfl rfl
 refine gF 16 rfl hd rfl ?_
 replace hd := (ne_of_beq_false hd)
 replace h := h.2 hd
 refine gR 9 rfl ?_
 subst h
 exact go_end ab (rs := [.tmp 6]) rfl rfl rfl
 refine gF 14 rfl hd rfl ?_
 replace hd := (ne_of_beq_false hd)
 replace h := h.2 hd
 refine gR 7 rfl <| gB 21 rfl rfl rfl ?_ ?_ <;> intro hd
 refine gT 22 rfl hd rfl ?_
 replace hd := (eq_of_beq hd)
 replace h := h.1 hd
 refine gR 12 rfl <| gV 26 (.int .i64 ((p0.kids.length : Int) - 1)) rfl (aN (by have := hl17; omega) rfl) rfl <| gR 4 rfl <| gB 24 rfl rfl rfl ?_ ?_ <;> intro hd
 refine gT 27 rfl hd rfl ?_
 replace hd := (eq_of_beq hd)
 replace h := h.1 hd
 refine gR 4 rfl ?_
 obtain ⟨a, hs18, h⟩ := h
 refine gC0 hs18 (by kernel_rfl) rfl rfl .rfl rfl <| gR 8 rfl ?_
 subst h
 exact go_end ab (rs := [.tmp 6]) rfl rfl rfl
 refine gF 27 rfl hd rfl ?_
 replace hd := (ne_of_beq_false hd)
 replace h := h.2 hd
 refine gR 5 rfl <| gV 32 (.int .i64 ((p0.kids.length : Int) - 2)) rfl (aN (by have := hl17; omega) rfl) rfl <| gR 4 rfl <| gB 30 rfl rfl rfl ?_ ?_ <;> intro hd
 refine gT 33 rfl hd rfl ?_
 replace hd := (eq_of_beq hd)
 replace h := h.1 hd
 refine gR 4 rfl ?_
 obtain ⟨b, hs19, h⟩ := h
 refine gC0 hs19 (by kernel_rfl) rfl rfl .rfl rfl <| gR 8 rfl ?_
 subst h
 exact go_end ab (rs := [.tmp 6]) rfl rfl rfl
 refine gF 33 rfl hd rfl ?_
 replace hd := (ne_of_beq_false hd)
 replace h := h.2 hd
 refine gR 14 rfl ?_
 subst h
 exact go_end ab (rs := [.tmp 6]) rfl rfl rfl
 refine gF 22 rfl hd rfl ?_
 replace hd := (ne_of_beq_false hd)
 replace h := h.2 hd
 refine gR 8 rfl <| gB 38 rfl rfl rfl ?_ ?_ <;> intro hd
 refine gT 39 rfl hd rfl ?_
 replace hd := (eq_of_beq hd)
 replace h := h.1 hd
 exact gR 3 rfl <| gJ (h K hK) [] [] rfl hK pq4 trivial rfl
 refine gF 39 rfl hd rfl ?_
 replace hd := (ne_of_beq_false hd)
 replace h := h.2 hd
 refine gR 7 rfl <| gB 38 rfl rfl rfl ?_ ?_ <;> intro hd
 refine gT 40 rfl hd rfl ?_
 replace hd := (eq_of_beq hd)
 replace h := h.1 hd
 exact gR 3 rfl <| gJ (h K hK) [] [] rfl hK pq4 trivial rfl
 refine gF 40 rfl hd rfl ?_
 replace hd := (ne_of_beq_false hd)
 replace h := h.2 hd
 exact gR 6 rfl <| gJ (h K hK) [] [] rfl hK pq4 trivial rfl
theorem mF (m : Nat) (p0 : Tree) (p1 p2 : Int) (b r0 : Bool) (h : ((b = true) → ∃ c, dC p2 c ∧ c = r0) ∧ ((b = false) → ((p0.kind = 16) → (p2 == 17) = r0) ∧ ((p0.kind ≠ 16) → ((p0.kind = 21) → ∃ a, fv p2 a ∧ ((a = true) → true = r0) ∧ ((a = false) → ((p1 = 0) → (p2 == 21) = r0) ∧ ((p1 ≠ 0) → false = r0))) ∧ ((p0.kind ≠ 21) → ∃ d, cQ p2 d ∧ d = r0)))) : eo (m + 1) p0 p1 p2 b r0 := by
 intro K hK
 refine qBi 38 rfl rfl rfl h (fun h => ?_) fun h => ?_
 refine gR 4 rfl ?_
 obtain ⟨c, hs20, h⟩ := h
 refine gC0 hs20 (by kernel_rfl) rfl rfl .rfl rfl <| gR 6 rfl ?_
 subst h
 exact go_end ab (rs := [.tmp 6]) rfl rfl rfl
 refine gR 7 rfl <| qBeZ 44 45 rfl rfl rfl rfl h (fun h => ?_) fun h => ?_
 refine gR 11 rfl ?_
 subst h
 exact go_end ab (rs := [.tmp 6]) rfl rfl rfl
 refine gR 7 rfl <| qBeZ 48 49 rfl rfl rfl rfl h (fun h => ?_) fun h => ?_
 refine gR 4 rfl ?_
 obtain ⟨a, hs21, h⟩ := h
 refine gC0 hs21 (by kernel_rfl) rfl rfl .rfl rfl <| gR 1 rfl <| qBiZ 52 51 rfl rfl rfl rfl h (fun h => ?_) fun h => ?_
 refine gR 13 rfl ?_
 subst h
 exact go_end ab (rs := [.tmp 6]) rfl rfl rfl
 refine gR 3 rfl <| qBeZ 55 54 rfl rfl rfl rfl h (fun h => ?_) fun h => ?_
 refine gR 10 rfl ?_
 subst h
 exact go_end ab (rs := [.tmp 6]) rfl rfl rfl
 refine gR 10 rfl ?_
 subst h
 exact go_end ab (rs := [.tmp 6]) rfl rfl rfl
 refine gR 7 rfl ?_
 obtain ⟨d, hs22, h⟩ := h
 refine gC0 hs22 (by kernel_rfl) rfl rfl .rfl rfl <| gR 4 rfl ?_
 subst h
 exact go_end ab (rs := [.tmp 6]) rfl rfl rfl
def dn (m : Nat) (p0 : Tree) (a : Nat) (r0 : Bool) : Prop := ∀ (K : Ctx) (j1 : Nat), aJ K [] → m ≤ j1 → qLG K Try.f23 (fun u _ => u = .bool r0) (xI (ah Try.f23)) [.loop (xI (ah Try.f23)) j1, .blk 0, .seq (xH (ah Try.f23))] 45 (mkF 45 0 [(1, .box (av p0) 0), (3, .int .i64 (a : Int))]) ⟨0, []⟩
theorem lE (m : Nat) (p0 : Tree) (r0 : Bool) (h : ∃ a, dU p0.kind (p0.kids.length : Int) a ∧ ((a < 0) → false = r0) ∧ ((¬ a < 0) → ∃ b, eO p0.kind p0.text b ∧ ((b = false) → false = r0) ∧ ((b = true) → dn m p0 0 r0))) : dE p0 r0 := by
 refine ⟨rfl, rfl, ?_⟩
 refine aA 45 [] Try.func23 rfl rfl rfl (bp rfl) fun K hK => ?_
 refine gR 3 rfl <| gFP 0 rfl rfl rfl rfl <| gR 11 rfl <| gV 8 (.int .i64 (p0.kids.length : Int)) rfl (cg (bH _)) rfl <| gLB 7 rfl (bH _) fun hl13 => ?_
 obtain ⟨a, hs14, h⟩ := h
 refine gC0 hs14 (by kernel_rfl) rfl rfl .rfl rfl <| gR 2 rfl <| gB 11 rfl rfl rfl ?_ ?_ <;> intro hd
 refine gT 10 rfl hd rfl ?_
 replace hd := (of_decide_eq_true hd)
 replace h := h.1 hd
 refine gR 17 rfl ?_
 subst h
 exact go_end ab (rs := [.tmp 2]) rfl rfl rfl
 refine gF 10 rfl hd rfl ?_
 replace hd := (of_decide_eq_false hd)
 replace h := h.2 hd
 refine gR 4 rfl ?_
 obtain ⟨b, hs15, h⟩ := h
 refine gC0 hs15 (by kernel_rfl) rfl rfl .rfl rfl <| gR 4 rfl <| gB 18 rfl rfl rfl ?_ ?_ <;> intro hd
 replace hd := (dH hd)
 replace h := h.1 hd
 refine gR 8 rfl ?_
 subst h
 exact go_end ab (rs := [.tmp 2]) rfl rfl rfl
 replace hd := (dD hd)
 replace h := h.2 hd
 exact gR 10 rfl <| go_loop m <| gJ (h K _ hK (by omega)) [] [] rfl hK pq2 trivial rfl
theorem ie (m : Nat) (p0 : Tree) (a : Nat) (r0 : Bool) (h : ((a < p0.kids.length) → ∃ d, p0.kids[a]? = some d ∧ ∃ b, gQ p0 (a : Int) d.kind b ∧ ((b = false) → false = r0) ∧ ((b = true) → ∃ e, p0.kids[a]? = some e ∧ ∃ c, dE e c ∧ ((c = false) → false = r0) ∧ ((c = true) → dn m p0 (a + 1) r0))) ∧ ((¬ a < p0.kids.length) → true = r0)) : dn (m + 1) p0 a r0 := by
 intro K j1 hK hj1
 obtain ⟨j1, rfl⟩ : ∃ j, j1 = j + 1 := ⟨j1 - 1, by omega⟩
 refine gR 7 rfl <| gV 22 (.int .i64 (p0.kids.length : Int)) rfl (cg (bH _)) rfl <| gLB 21 rfl (bH _) fun hl16 => gR 3 rfl <| gB 23 rfl rfl rfl ?_ ?_ <;> intro hd
 replace hd := (fS hd)
 replace h := h.1 hd
 refine gR 6 rfl <| gDs [] 19 19 rfl (by kernel_rfl) (by kernel_rfl) <| gDr [(0, 2), (1, 2), (2, 2), (3, 2), (4, 0)] (by kernel_rfl) rfl rfl ?_
 obtain ⟨d, hxt1_1, h⟩ := h
 refine iA 5 rfl (by kernel_rfl) (bO (aK hxt1_1) ab rfl rfl rfl rfl) rfl rfl ?_
 refine gDr [(6, 0), (7, 0)] (by kernel_rfl) rfl rfl ?_
 obtain ⟨b, hs17, h⟩ := h
 refine bw 8 hs17 (by kernel_rfl) rfl (by kernel_rfl) rfl rfl .rfl rfl rfl ?_
 refine gDr [(9, 0), (10, 0)] (by kernel_rfl) rfl rfl <| gB 36 rfl rfl rfl ?_ ?_ <;> intro hd
 refine gT 35 rfl hd rfl ?_
 replace hd := (dH hd)
 replace h := h.1 hd
 refine gDr [(11, 2), (12, 2), (13, 0), (14, 0), (15, 0), (16, 0), (17, 0), (18, 0)] (by kernel_rfl) rfl rfl <| gDe (by kernel_rfl) <| gR 10 rfl <| go_xloopR <| gR 2 rfl ?_
 subst h
 exact go_end ab (rs := [.tmp 2]) rfl rfl rfl
 refine gF 35 rfl hd rfl ?_
 replace hd := (dD hd)
 replace h := h.2 hd
 refine gDr [(11, 2), (12, 2), (13, 0)] (by kernel_rfl) rfl rfl ?_
 obtain ⟨e, hxt1_3, h⟩ := h
 refine iA 14 rfl (by kernel_rfl) (bO (aK hxt1_3) ab rfl rfl rfl rfl) rfl rfl ?_
 refine gDr [(15, 0)] (by kernel_rfl) rfl rfl ?_
 obtain ⟨c, hs18, h⟩ := h
 refine bw 16 hs18 (by kernel_rfl) rfl (by kernel_rfl) rfl rfl .rfl rfl rfl ?_
 refine gDr [(17, 0), (18, 0)] (by kernel_rfl) rfl rfl <| gDe (by kernel_rfl) <| gR 1 rfl <| gB 44 rfl rfl rfl ?_ ?_ <;> intro hd
 replace hd := (dH hd)
 replace h := h.1 hd
 refine gR 9 rfl <| go_xloopR <| gR 2 rfl ?_
 subst h
 exact go_end ab (rs := [.tmp 2]) rfl rfl rfl
 replace hd := (dD hd)
 replace h := h.2 hd
 exact gR 7 rfl <| gV 25 (.int .i64 ((a + 1 : Nat) : Int)) rfl (aN (by have := hl16; omega) (by omega)) rfl <| gR 2 rfl <| go_xloop <| gJ (h K _ hK (by omega)) [] [] rfl hK pq2 trivial rfl
 replace hd := (gd hd)
 replace h := h.2 hd
 refine gR 3 rfl <| go_xloopE <| gR 8 rfl ?_
 subst h
 exact go_end ab (rs := [.tmp 2]) rfl rfl rfl
end Go.Proofs.Ytpnpdlnpikkeaaa
namespace Go.Proofs.Ytpnpdlnpikkeaaa
open Go.RowKit Lx Sx
set_option maxRecDepth 100000
set_option maxHeartbeats 4000000
structure aa where
 Lead : (List UInt8)
 Text : (List UInt8)
abbrev aa.c (x : aa) : List V := [.str x.Lead, .str x.Text]
abbrev aa.w (x : aa) : V := .agg x.c
def fy (p0 : List UInt8) (p1 r0 : Bool) : Prop := qS 45 [.str p0, .bool p1] (.bool r0)
def ee (p0 : Tree) (r0 : Bool) : Prop := qS 13 [.agg (av p0)] (.bool r0)
def dX (p0 : Tree) (r0 : Bool) : Prop := qS 24 [.agg (av p0)] (.bool r0)
def iT (p0 : Tree) (r0 : List aa) : Prop := qS 14 [.agg (av p0)] (.row 2 (List.map aa.w r0))
def ai (p0 : List aa) (p1 : Tree) (r0 : List aa) : Prop := jB [] Try.prog 25 [.sl 0, .agg (av p1)] ⟨1, [(0, .row 39 2 (List.map aa.w p0))]⟩ (fun u G => u = .sl 1 ∧ G = ⟨2, [(1, .row 39 2 (List.map aa.w r0))]⟩)
def cY (p0 : List aa) (p1 : Tree) (p2 p3 p4 : Int) (r0 : List aa) : Prop := jB [] Try.prog 47 [.sl 0, .agg (av p1), .int .i64 p2, .int .i64 p3, .int .i64 p4] ⟨1, [(0, .row 39 2 (List.map aa.w p0))]⟩ (fun u G => u = .sl 1 ∧ G = ⟨2, [(1, .row 39 2 (List.map aa.w r0))]⟩)
def ae (p0 : Tree) (p1 : Int) (r0 : List UInt8) : Prop := qS 46 [.agg (av p0), .int .i64 p1] (.str r0)
theorem kh (m : Nat) (p0 : Tree) (r0 : Bool) (h : ∃ a, dE p0 a ∧ ((a = true) → ∃ b, dX p0 b ∧ b = r0) ∧ ((a = false) → false = r0)) : ee p0 r0 := by
 refine ⟨rfl, rfl, ?_⟩
 refine aA 9 [] Try.func13 rfl rfl rfl (bp rfl) fun K hK => ?_
 refine gR 3 rfl <| gFP 0 rfl rfl rfl rfl <| gR 6 rfl ?_
 obtain ⟨a, hs3, h⟩ := h
 refine gC0 hs3 (by kernel_rfl) rfl rfl .rfl rfl <| gR 1 rfl <| qBiZ 5 4 rfl rfl rfl rfl h (fun h => ?_) fun h => ?_
 refine gR 1 rfl ?_
 obtain ⟨b, hs4, h⟩ := h
 refine gC0 hs4 (by kernel_rfl) rfl rfl .rfl rfl <| gR 5 rfl ?_
 subst h
 exact go_end ab (rs := [.tmp 2]) rfl rfl rfl
 refine gR 7 rfl ?_
 subst h
 exact go_end ab (rs := [.tmp 2]) rfl rfl rfl
def cb (m : Nat) (p0 : Tree) (a : Nat) (r0 : Bool) : Prop := ∀ (K : Ctx) (j1 : Nat), aJ K [] → m ≤ j1 → qLG K Try.f24 (fun u _ => u = .bool r0) (xI (ah Try.f24)) [.loop (xI (ah Try.f24)) j1, .blk 0, .seq (xH (ah Try.f24))] 50 (mkF 50 0 [(1, .box (av p0) 0), (3, .int .i64 (a : Int))]) ⟨0, []⟩
def cU (m : Nat) (p0 : Tree) (a : Nat) (r0 : Bool) : Prop := ∀ (K : Ctx) (j1 : Nat), aJ K [] → m ≤ j1 → qLG K Try.f24 (fun u _ => u = .bool r0) (xI (cB (ah Try.f24))) [.loop (xI (cB (ah Try.f24))) j1, .blk 2, .seq (xA (xA (ah Try.f24)))] 50 (mkF 50 0 [(1, .box (av p0) 0), (4, .int .i64 (a : Int))]) ⟨0, []⟩
theorem iD (m : Nat) (p0 : Tree) (r0 : Bool) (h : ∃ a, dU p0.kind (p0.kids.length : Int) a ∧ (((p0.leads.length : Int) ≠ a) → false = r0) ∧ (((p0.leads.length : Int) = a) → cb m p0 0 r0)) : dX p0 r0 := by
 refine ⟨rfl, rfl, ?_⟩
 refine aA 50 [] Try.func24 rfl rfl rfl (bp rfl) fun K hK => ?_
 refine gR 3 rfl <| gFP 0 rfl rfl rfl rfl <| gR 5 rfl <| gDs [] 10 10 rfl (by kernel_rfl) (by kernel_rfl) <| gDr [(0, 2), (1, 2), (2, 2)] (by kernel_rfl) rfl rfl <| gV 7 (.int .i64 (p0.leads.length : Int)) rfl (cg (aY V.str _)) rfl <| gLB 6 rfl (aY V.str _) fun hl35 => gDr [(3, 2), (4, 2), (5, 0), (6, 0), (7, 0)] (by kernel_rfl) rfl rfl <| gV 12 (.int .i64 (p0.kids.length : Int)) rfl (cg (bH _)) rfl <| gLB 11 rfl (bH _) fun hl36 => ?_
 obtain ⟨a, hs37, h⟩ := h
 refine bw 8 hs37 (by kernel_rfl) rfl (by kernel_rfl) rfl rfl .rfl rfl rfl ?_
 refine gDr [(9, 0)] (by kernel_rfl) rfl rfl <| gDe (by kernel_rfl) <| gR 1 rfl <| gB 14 rfl rfl rfl ?_ ?_ <;> intro hd
 replace hd := (io hd)
 replace h := h.1 hd
 refine gR 8 rfl ?_
 subst h
 exact go_end ab (rs := [.tmp 2]) rfl rfl rfl
 replace hd := (fz hd)
 replace h := h.2 hd
 exact gR 10 rfl <| go_loop m <| gJ (h K _ hK (by omega)) [] [] rfl hK pq2 trivial rfl
theorem fc (m : Nat) (p0 : Tree) (a : Nat) (r0 : Bool) (h : ((a < p0.leads.length) → ∃ b, p0.leads[a]? = some b ∧ ((p0.kind = 1) → ∃ c, fy b ((a : Int) == 2) c ∧ ((c = false) → false = r0) ∧ ((c = true) → cb m p0 (a + 1) r0)) ∧ ((p0.kind ≠ 1) → ∃ d, fy b false d ∧ ((d = false) → false = r0) ∧ ((d = true) → cb m p0 (a + 1) r0))) ∧ ((¬ a < p0.leads.length) → cU m p0 0 r0)) : cb (m + 1) p0 a r0 := by
 intro K j1 hK hj1
 obtain ⟨j1, rfl⟩ : ∃ j, j1 = j + 1 := ⟨j1 - 1, by omega⟩
 refine gR 7 rfl <| gV 18 (.int .i64 (p0.leads.length : Int)) rfl (cg (aY V.str _)) rfl <| gLB 17 rfl (aY V.str _) fun hl38 => gR 3 rfl <| gB 19 rfl rfl rfl ?_ ?_ <;> intro hd
 replace hd := (fS hd)
 replace h := h.1 hd
 refine gR 6 rfl <| gDs [] 14 14 rfl (by kernel_rfl) (by kernel_rfl) <| gDr [(0, 2), (1, 2), (2, 2)] (by kernel_rfl) rfl rfl ?_
 obtain ⟨b, hxs1_1, h⟩ := h
 refine gYd 3 rfl (by kernel_rfl) (bO (mapget (f := V.str) hxs1_1) ab rfl rfl rfl rfl) rfl rfl <| gDr [(4, 2), (5, 0), (6, 0), (7, 0), (8, 0)] (by kernel_rfl) rfl rfl <| gB 30 rfl rfl rfl ?_ ?_ <;> intro hd
 refine gT 29 rfl hd rfl ?_
 replace hd := (eq_of_beq hd)
 replace h := h.1 hd
 refine gDr [(9, 0), (10, 0), (11, 0)] (by kernel_rfl) rfl rfl ?_
 obtain ⟨c, hs39, h⟩ := h
 refine bw 12 hs39 (by kernel_rfl) rfl (by kernel_rfl) rfl rfl .rfl rfl rfl ?_
 refine gDr [(13, 0)] (by kernel_rfl) rfl rfl <| gDe (by kernel_rfl) <| gR 1 rfl <| gB 35 rfl rfl rfl ?_ ?_ <;> intro hd
 replace hd := (dH hd)
 replace h := h.1 hd
 refine gR 9 rfl <| go_xloopR <| gR 2 rfl ?_
 subst h
 exact go_end ab (rs := [.tmp 2]) rfl rfl rfl
 replace hd := (dD hd)
 replace h := h.2 hd
 exact gR 7 rfl <| gV 21 (.int .i64 ((a + 1 : Nat) : Int)) rfl (aN (by have := hl38; omega) (by omega)) rfl <| gR 2 rfl <| go_xloop <| gJ (h K _ hK (by omega)) [] [] rfl hK pq2 trivial rfl
 refine gF 29 rfl hd rfl ?_
 replace hd := (ne_of_beq_false hd)
 replace h := h.2 hd
 refine gDr [(9, 0), (10, 0), (11, 0)] (by kernel_rfl) rfl rfl ?_
 obtain ⟨d, hs40, h⟩ := h
 refine bw 12 hs40 (by kernel_rfl) rfl (by kernel_rfl) rfl rfl .rfl rfl rfl ?_
 refine gDr [(13, 0)] (by kernel_rfl) rfl rfl <| gDe (by kernel_rfl) <| gR 1 rfl <| gB 35 rfl rfl rfl ?_ ?_ <;> intro hd
 replace hd := (dH hd)
 replace h := h.1 hd
 refine gR 9 rfl <| go_xloopR <| gR 2 rfl ?_
 subst h
 exact go_end ab (rs := [.tmp 2]) rfl rfl rfl
 replace hd := (dD hd)
 replace h := h.2 hd
 exact gR 7 rfl <| gV 21 (.int .i64 ((a + 1 : Nat) : Int)) rfl (aN (by have := hl38; omega) (by omega)) rfl <| gR 2 rfl <| go_xloop <| gJ (h K _ hK (by omega)) [] [] rfl hK pq2 trivial rfl
 replace hd := (gd hd)
 replace h := h.2 hd
 exact gR 3 rfl <| go_xloopE <| gR 9 rfl <| go_loop m <| gJ (h K _ hK (by omega)) [] [] rfl hK pq2 trivial rfl
theorem iy (m : Nat) (p0 : Tree) (a : Nat) (r0 : Bool) (h : ((a < p0.kids.length) → ∃ c, p0.kids[a]? = some c ∧ ∃ b, dX c b ∧ ((b = false) → false = r0) ∧ ((b = true) → cU m p0 (a + 1) r0)) ∧ ((¬ a < p0.kids.length) → true = r0)) : cU (m + 1) p0 a r0 := by
 intro K j1 hK hj1
 obtain ⟨j1, rfl⟩ : ∃ j, j1 = j + 1 := ⟨j1 - 1, by omega⟩
 refine gR 7 rfl <| gV 39 (.int .i64 (p0.kids.length : Int)) rfl (cg (bH _)) rfl <| gLB 38 rfl (bH _) fun hl41 => gR 3 rfl <| gB 40 rfl rfl rfl ?_ ?_ <;> intro hd
 replace hd := (fS hd)
 replace h := h.1 hd
 refine gR 10 rfl ?_
 obtain ⟨c, hxt2_1, h⟩ := h
 refine gY (bO (aK hxt2_1) ab rfl rfl rfl rfl) rfl rfl <| gR 1 rfl ?_
 obtain ⟨b, hs42, h⟩ := h
 refine gC0 hs42 (by kernel_rfl) rfl rfl .rfl rfl <| gR 3 rfl <| gB 49 rfl rfl rfl ?_ ?_ <;> intro hd
 replace hd := (dH hd)
 replace h := h.1 hd
 refine gR 9 rfl <| go_xloopR <| gR 2 rfl ?_
 subst h
 exact go_end ab (rs := [.tmp 2]) rfl rfl rfl
 replace hd := (dD hd)
 replace h := h.2 hd
 exact gR 7 rfl <| gV 42 (.int .i64 ((a + 1 : Nat) : Int)) rfl (aN (by have := hl41; omega) (by omega)) rfl <| gR 2 rfl <| go_xloop <| gJ (h K _ hK (by omega)) [] [] rfl hK pq2 trivial rfl
 replace hd := (gd hd)
 replace h := h.2 hd
 refine gR 3 rfl <| go_xloopE <| gR 8 rfl ?_
 subst h
 exact go_end ab (rs := [.tmp 2]) rfl rfl rfl
theorem lP (m : Nat) (p0 : Tree) (r0 : List aa) (h : ∃ a, ai ([] : List aa) p0 a ∧ a = r0) : iT p0 r0 := by
 refine ⟨rfl, rfl, ?_⟩
 refine aA 5 [] Try.func14 rfl rfl rfl (bp rfl) fun K hK => ?_
 refine gR 3 rfl <| gFP 0 rfl rfl rfl rfl <| gR 6 rfl ?_
 obtain ⟨a, hs2, h⟩ := h
 refine gCn 0 39 2 hs2 [1] (by kernel_rfl) rfl rfl rfl rfl .rfl ⟨⟨_, rfl, ⟨rfl, rfl, rfl⟩⟩, trivial⟩ rfl ?_
 rintro _ _ ⟨rfl, rfl⟩
 refine gHR 3 (List.map aa.w a) rfl (ak _ aa.w (fun _ => rfl) a) rfl <| gR 4 rfl <| gFR 3 rfl (ph _ (fun _ => rfl) _) rfl rfl ?_
 subst h
 exact go_end ab (rs := [.tmp 2]) rfl rfl rfl
def iw (m : Nat) (p0 : List aa) (p1 : Tree) (r0 : List aa) : Prop := ∀ (K : Ctx), aJ K [] → qLG K Try.f25 (fun u G => u = .sl 1 ∧ G = ⟨2, [(1, .row 39 2 (List.map aa.w r0))]⟩) (cT (cB (xG (ah Try.f25)))) [.blk 0, .seq (xH (ah Try.f25))] 365 (mkF 365 0 [(0, .sl 0), (3, .box (av p1) 0), (5, .int .i64 (p1.kids.length : Int))]) ⟨1, [(0, .row 39 2 (List.map aa.w p0))]⟩
def eZ (m : Nat) (p0 : List aa) (p1 : Tree) (r0 : List aa) : Prop := ∀ (K : Ctx), aJ K [] → qLG K Try.f25 (fun u G => u = .sl 1 ∧ G = ⟨2, [(1, .row 39 2 (List.map aa.w r0))]⟩) (xB (xG (ah Try.f25))) [.blk 0, .seq (xH (ah Try.f25))] 365 (mkF 365 0 [(0, .sl 0), (3, .box (av p1) 0), (5, .int .i64 (p1.kids.length : Int)), (11, .int .i64 p1.kind)]) ⟨1, [(0, .row 39 2 (List.map aa.w p0))]⟩
def cM (m : Nat) (p1 : Tree) (a : List aa) (b : Nat) (r0 : List aa) : Prop := ∀ (K : Ctx) (j1 : Nat), aJ K [] → m ≤ j1 → qLG K Try.f25 (fun u G => u = .sl 1 ∧ G = ⟨2, [(1, .row 39 2 (List.map aa.w r0))]⟩) (cL (xF (cB (cT (cB (xG (ah Try.f25))))))) [.loop (cL (xF (cB (cT (cB (xG (ah Try.f25))))))) j1, .blk 1, .seq (xA (cT (cB (xG (ah Try.f25))))), .blk 0, .seq (xH (ah Try.f25))] 365 (mkF 365 0 [(0, .sl 0), (3, .box (av p1) 0), (5, .int .i64 (p1.kids.length : Int)), (6, .int .i64 (b : Int))]) ⟨1, [(0, .row 39 2 (List.map aa.w a))]⟩
def ix (m : Nat) (p0 : List aa) (p1 : Tree) (r0 : List aa) : Prop := ∀ (K : Ctx), aJ K [] → qLG K Try.f25 (fun u G => u = .sl 1 ∧ G = ⟨2, [(1, .row 39 2 (List.map aa.w r0))]⟩) (cT (cB (xB (xG (ah Try.f25))))) [.blk 0, .seq (xH (ah Try.f25))] 365 (mkF 365 0 [(0, .sl 0), (3, .box (av p1) 0), (5, .int .i64 (p1.kids.length : Int))]) ⟨1, [(0, .row 39 2 (List.map aa.w p0))]⟩
def eX (m : Nat) (p0 : List aa) (p1 : Tree) (r0 : List aa) : Prop := ∀ (K : Ctx), aJ K [] → qLG K Try.f25 (fun u G => u = .sl 1 ∧ G = ⟨2, [(1, .row 39 2 (List.map aa.w r0))]⟩) (xC (xG (ah Try.f25))) [.blk 0, .seq (xH (ah Try.f25))] 365 (mkF 365 0 [(0, .sl 0), (3, .box (av p1) 0), (5, .int .i64 (p1.kids.length : Int)), (11, .int .i64 p1.kind)]) ⟨1, [(0, .row 39 2 (List.map aa.w p0))]⟩
def it (m : Nat) (p0 : List aa) (p1 : Tree) (r0 : List aa) : Prop := ∀ (K : Ctx), aJ K [] → qLG K Try.f25 (fun u G => u = .sl 1 ∧ G = ⟨2, [(1, .row 39 2 (List.map aa.w r0))]⟩) (cT (cB (xC (xG (ah Try.f25))))) [.blk 0, .seq (xH (ah Try.f25))] 365 (mkF 365 0 [(0, .sl 0), (3, .box (av p1) 0)]) ⟨1, [(0, .row 39 2 (List.map aa.w p0))]⟩
def ff (m : Nat) (p0 : List aa) (p1 : Tree) (r0 : List aa) : Prop := ∀ (K : Ctx), aJ K [] → qLG K Try.f25 (fun u G => u = .sl 1 ∧ G = ⟨2, [(1, .row 39 2 (List.map aa.w r0))]⟩) (xC (xB (xG (ah Try.f25)))) [.blk 0, .seq (xH (ah Try.f25))] 365 (mkF 365 0 [(0, .sl 0), (3, .box (av p1) 0), (5, .int .i64 (p1.kids.length : Int)), (11, .int .i64 p1.kind)]) ⟨1, [(0, .row 39 2 (List.map aa.w p0))]⟩
def iz (m : Nat) (p0 : List aa) (p1 : Tree) (r0 : List aa) : Prop := ∀ (K : Ctx), aJ K [] → qLG K Try.f25 (fun u G => u = .sl 1 ∧ G = ⟨2, [(1, .row 39 2 (List.map aa.w r0))]⟩) (cT (cB (xC (xB (xG (ah Try.f25)))))) [.blk 0, .seq (xH (ah Try.f25))] 365 (mkF 365 0 [(0, .sl 0), (3, .box (av p1) 0)]) ⟨1, [(0, .row 39 2 (List.map aa.w p0))]⟩
def eV (m : Nat) (p0 : List aa) (p1 : Tree) (r0 : List aa) : Prop := ∀ (K : Ctx), aJ K [] → qLG K Try.f25 (fun u G => u = .sl 1 ∧ G = ⟨2, [(1, .row 39 2 (List.map aa.w r0))]⟩) (xE (xG (ah Try.f25))) [.blk 0, .seq (xH (ah Try.f25))] 365 (mkF 365 0 [(0, .sl 0), (3, .box (av p1) 0), (5, .int .i64 (p1.kids.length : Int)), (11, .int .i64 p1.kind)]) ⟨1, [(0, .row 39 2 (List.map aa.w p0))]⟩
def fd (m : Nat) (p0 : List aa) (p1 : Tree) (r0 : List aa) : Prop := ∀ (K : Ctx), aJ K [] → qLG K Try.f25 (fun u G => u = .sl 1 ∧ G = ⟨2, [(1, .row 39 2 (List.map aa.w r0))]⟩) (xE (xB (xG (ah Try.f25)))) [.blk 0, .seq (xH (ah Try.f25))] 365 (mkF 365 0 [(0, .sl 0), (3, .box (av p1) 0), (5, .int .i64 (p1.kids.length : Int)), (11, .int .i64 p1.kind)]) ⟨1, [(0, .row 39 2 (List.map aa.w p0))]⟩
def ey (m : Nat) (p0 : List aa) (p1 : Tree) (r0 : List aa) : Prop := ∀ (K : Ctx), aJ K [] → qLG K Try.f25 (fun u G => u = .sl 1 ∧ G = ⟨2, [(1, .row 39 2 (List.map aa.w r0))]⟩) (xE (xC (xG (ah Try.f25)))) [.blk 0, .seq (xH (ah Try.f25))] 365 (mkF 365 0 [(0, .sl 0), (3, .box (av p1) 0), (5, .int .i64 (p1.kids.length : Int)), (11, .int .i64 p1.kind)]) ⟨1, [(0, .row 39 2 (List.map aa.w p0))]⟩
def eI (m : Nat) (p0 : List aa) (p1 : Tree) (r0 : List aa) : Prop := ∀ (K : Ctx), aJ K [] → qLG K Try.f25 (fun u G => u = .sl 1 ∧ G = ⟨2, [(1, .row 39 2 (List.map aa.w r0))]⟩) (xE (xC (xB (xG (ah Try.f25))))) [.blk 0, .seq (xH (ah Try.f25))] 365 (mkF 365 0 [(0, .sl 0), (3, .box (av p1) 0), (5, .int .i64 (p1.kids.length : Int)), (11, .int .i64 p1.kind)]) ⟨1, [(0, .row 39 2 (List.map aa.w p0))]⟩
def ev (m : Nat) (p0 : List aa) (p1 : Tree) (r0 : List aa) : Prop := ∀ (K : Ctx), aJ K [] → qLG K Try.f25 (fun u G => u = .sl 1 ∧ G = ⟨2, [(1, .row 39 2 (List.map aa.w r0))]⟩) (xJ (xG (ah Try.f25))) [.blk 0, .seq (xH (ah Try.f25))] 365 (mkF 365 0 [(0, .sl 0), (3, .box (av p1) 0), (5, .int .i64 (p1.kids.length : Int)), (11, .int .i64 p1.kind)]) ⟨1, [(0, .row 39 2 (List.map aa.w p0))]⟩
def eP (m : Nat) (p0 : List aa) (p1 : Tree) (r0 : List aa) : Prop := ∀ (K : Ctx), aJ K [] → qLG K Try.f25 (fun u G => u = .sl 1 ∧ G = ⟨2, [(1, .row 39 2 (List.map aa.w r0))]⟩) (xJ (xB (xG (ah Try.f25)))) [.blk 0, .seq (xH (ah Try.f25))] 365 (mkF 365 0 [(0, .sl 0), (3, .box (av p1) 0), (5, .int .i64 (p1.kids.length : Int)), (11, .int .i64 p1.kind)]) ⟨1, [(0, .row 39 2 (List.map aa.w p0))]⟩
def eJ (m : Nat) (p0 : List aa) (p1 : Tree) (r0 : List aa) : Prop := ∀ (K : Ctx), aJ K [] → qLG K Try.f25 (fun u G => u = .sl 1 ∧ G = ⟨2, [(1, .row 39 2 (List.map aa.w r0))]⟩) (xJ (xC (xG (ah Try.f25)))) [.blk 0, .seq (xH (ah Try.f25))] 365 (mkF 365 0 [(0, .sl 0), (3, .box (av p1) 0), (5, .int .i64 (p1.kids.length : Int)), (11, .int .i64 p1.kind)]) ⟨1, [(0, .row 39 2 (List.map aa.w p0))]⟩
def hV (m : Nat) (p0 : List aa) (p1 : Tree) (r0 : List aa) : Prop := ∀ (K : Ctx), aJ K [] → qLG K Try.f25 (fun u G => u = .sl 1 ∧ G = ⟨2, [(1, .row 39 2 (List.map aa.w r0))]⟩) (cT (cB (xJ (xC (xG (ah Try.f25)))))) [.blk 0, .seq (xH (ah Try.f25))] 365 (mkF 365 0 [(0, .sl 0), (3, .box (av p1) 0)]) ⟨1, [(0, .row 39 2 (List.map aa.w p0))]⟩
def eK (m : Nat) (p0 : List aa) (p1 : Tree) (r0 : List aa) : Prop := ∀ (K : Ctx), aJ K [] → qLG K Try.f25 (fun u G => u = .sl 1 ∧ G = ⟨2, [(1, .row 39 2 (List.map aa.w r0))]⟩) (xJ (xC (xB (xG (ah Try.f25))))) [.blk 0, .seq (xH (ah Try.f25))] 365 (mkF 365 0 [(0, .sl 0), (3, .box (av p1) 0), (5, .int .i64 (p1.kids.length : Int)), (11, .int .i64 p1.kind)]) ⟨1, [(0, .row 39 2 (List.map aa.w p0))]⟩
def gX (m : Nat) (p0 : List aa) (p1 : Tree) (r0 : List aa) : Prop := ∀ (K : Ctx), aJ K [] → qLG K Try.f25 (fun u G => u = .sl 1 ∧ G = ⟨2, [(1, .row 39 2 (List.map aa.w r0))]⟩) (cT (cB (xJ (xC (xB (xG (ah Try.f25))))))) [.blk 0, .seq (xH (ah Try.f25))] 365 (mkF 365 0 [(0, .sl 0), (3, .box (av p1) 0), (5, .int .i64 (p1.kids.length : Int))]) ⟨1, [(0, .row 39 2 (List.map aa.w p0))]⟩
def eM (m : Nat) (p0 : List aa) (p1 : Tree) (r0 : List aa) : Prop := ∀ (K : Ctx), aJ K [] → qLG K Try.f25 (fun u G => u = .sl 1 ∧ G = ⟨2, [(1, .row 39 2 (List.map aa.w r0))]⟩) (xJ (xE (xG (ah Try.f25)))) [.blk 0, .seq (xH (ah Try.f25))] 365 (mkF 365 0 [(0, .sl 0), (3, .box (av p1) 0), (5, .int .i64 (p1.kids.length : Int)), (11, .int .i64 p1.kind)]) ⟨1, [(0, .row 39 2 (List.map aa.w p0))]⟩
def eL (m : Nat) (p0 : List aa) (p1 : Tree) (r0 : List aa) : Prop := ∀ (K : Ctx), aJ K [] → qLG K Try.f25 (fun u G => u = .sl 1 ∧ G = ⟨2, [(1, .row 39 2 (List.map aa.w r0))]⟩) (xJ (xE (xB (xG (ah Try.f25))))) [.blk 0, .seq (xH (ah Try.f25))] 365 (mkF 365 0 [(0, .sl 0), (3, .box (av p1) 0), (5, .int .i64 (p1.kids.length : Int)), (11, .int .i64 p1.kind)]) ⟨1, [(0, .row 39 2 (List.map aa.w p0))]⟩
def hW (m : Nat) (p0 : List aa) (p1 : Tree) (r0 : List aa) : Prop := ∀ (K : Ctx), aJ K [] → qLG K Try.f25 (fun u G => u = .sl 1 ∧ G = ⟨2, [(1, .row 39 2 (List.map aa.w r0))]⟩) (cT (cB (xJ (xE (xB (xG (ah Try.f25))))))) [.blk 0, .seq (xH (ah Try.f25))] 365 (mkF 365 0 [(0, .sl 0), (3, .box (av p1) 0), (5, .int .i64 (p1.kids.length : Int))]) ⟨1, [(0, .row 39 2 (List.map aa.w p0))]⟩
def eG (m : Nat) (p0 : List aa) (p1 : Tree) (r0 : List aa) : Prop := ∀ (K : Ctx), aJ K [] → qLG K Try.f25 (fun u G => u = .sl 1 ∧ G = ⟨2, [(1, .row 39 2 (List.map aa.w r0))]⟩) (xJ (xE (xC (xG (ah Try.f25))))) [.blk 0, .seq (xH (ah Try.f25))] 365 (mkF 365 0 [(0, .sl 0), (3, .box (av p1) 0), (11, .int .i64 p1.kind)]) ⟨1, [(0, .row 39 2 (List.map aa.w p0))]⟩
def hD (m : Nat) (p0 : List aa) (p1 : Tree) (r0 : List aa) : Prop := ∀ (K : Ctx), aJ K [] → qLG K Try.f25 (fun u G => u = .sl 1 ∧ G = ⟨2, [(1, .row 39 2 (List.map aa.w r0))]⟩) (cT (cB (xJ (xE (xC (xG (ah Try.f25))))))) [.blk 0, .seq (xH (ah Try.f25))] 365 (mkF 365 0 [(0, .sl 0), (3, .box (av p1) 0)]) ⟨1, [(0, .row 39 2 (List.map aa.w p0))]⟩
def eF (m : Nat) (p0 : List aa) (p1 : Tree) (r0 : List aa) : Prop := ∀ (K : Ctx), aJ K [] → qLG K Try.f25 (fun u G => u = .sl 1 ∧ G = ⟨2, [(1, .row 39 2 (List.map aa.w r0))]⟩) (xJ (xE (xC (xB (xG (ah Try.f25)))))) [.blk 0, .seq (xH (ah Try.f25))] 365 (mkF 365 0 [(0, .sl 0), (3, .box (av p1) 0), (11, .int .i64 p1.kind)]) ⟨1, [(0, .row 39 2 (List.map aa.w p0))]⟩
def gU (m : Nat) (p0 : List aa) (p1 : Tree) (r0 : List aa) : Prop := ∀ (K : Ctx), aJ K [] → qLG K Try.f25 (fun u G => u = .sl 1 ∧ G = ⟨2, [(1, .row 39 2 (List.map aa.w r0))]⟩) (cT (cB (xJ (xE (xC (xB (xG (ah Try.f25)))))))) [.blk 0, .seq (xH (ah Try.f25))] 365 (mkF 365 0 [(0, .sl 0), (3, .box (av p1) 0)]) ⟨1, [(0, .row 39 2 (List.map aa.w p0))]⟩
def ew (m : Nat) (p0 : List aa) (p1 : Tree) (r0 : List aa) : Prop := ∀ (K : Ctx), aJ K [] → qLG K Try.f25 (fun u G => u = .sl 1 ∧ G = ⟨2, [(1, .row 39 2 (List.map aa.w r0))]⟩) (xJ (xJ (xG (ah Try.f25)))) [.blk 0, .seq (xH (ah Try.f25))] 365 (mkF 365 0 [(0, .sl 0), (3, .box (av p1) 0), (11, .int .i64 p1.kind)]) ⟨1, [(0, .row 39 2 (List.map aa.w p0))]⟩
def gW (m : Nat) (p0 : List aa) (p1 : Tree) (r0 : List aa) : Prop := ∀ (K : Ctx), aJ K [] → qLG K Try.f25 (fun u G => u = .sl 1 ∧ G = ⟨2, [(1, .row 39 2 (List.map aa.w r0))]⟩) (cT (cB (xJ (xJ (xG (ah Try.f25)))))) [.blk 0, .seq (xH (ah Try.f25))] 365 (mkF 365 0 [(0, .sl 0), (3, .box (av p1) 0)]) ⟨1, [(0, .row 39 2 (List.map aa.w p0))]⟩
def eD (m : Nat) (p0 : List aa) (p1 : Tree) (r0 : List aa) : Prop := ∀ (K : Ctx), aJ K [] → qLG K Try.f25 (fun u G => u = .sl 1 ∧ G = ⟨2, [(1, .row 39 2 (List.map aa.w r0))]⟩) (xJ (xJ (xB (xG (ah Try.f25))))) [.blk 0, .seq (xH (ah Try.f25))] 365 (mkF 365 0 [(0, .sl 0), (3, .box (av p1) 0), (11, .int .i64 p1.kind)]) ⟨1, [(0, .row 39 2 (List.map aa.w p0))]⟩
def ia (m : Nat) (p0 : List aa) (p1 : Tree) (r0 : List aa) : Prop := ∀ (K : Ctx), aJ K [] → qLG K Try.f25 (fun u G => u = .sl 1 ∧ G = ⟨2, [(1, .row 39 2 (List.map aa.w r0))]⟩) (cT (cB (xJ (xJ (xB (xG (ah Try.f25))))))) [.blk 0, .seq (xH (ah Try.f25))] 365 (mkF 365 0 [(0, .sl 0), (3, .box (av p1) 0)]) ⟨1, [(0, .row 39 2 (List.map aa.w p0))]⟩
theorem iu (m : Nat) (p0 : List aa) (p1 : Tree) (r0 : List aa) (h : ((p1.kind = 1) → iw m p0 p1 r0) ∧ ((p1.kind ≠ 1) → eZ m p0 p1 r0)) : ai p0 p1 r0 := by
 refine aA 365 [] Try.func25 rfl rfl rfl (bp rfl) fun K hK => ?_
 refine gR 3 rfl <| gFP 1 rfl rfl rfl rfl <| gR 8 rfl <| gV 9 (.int .i64 (p1.kids.length : Int)) rfl (cg (bH _)) rfl <| gLB 8 rfl (bH _) fun hl115 => gR 17 rfl <| qBeZ 12 13 rfl rfl rfl rfl h (fun h => ?_) fun h => ?_
 exact gR 1 rfl <| gJ (h K hK) [0] [] rfl hK pq3 ⟨⟨_, rfl, rfl, rfl, (ak _ aa.w (fun _ => rfl) p0).symm⟩, trivial⟩ rfl
 exact gR 1 rfl <| gJ (h K hK) [0] [] rfl hK pq4 ⟨⟨_, rfl, rfl, rfl, (ak _ aa.w (fun _ => rfl) p0).symm⟩, trivial⟩ rfl
theorem lr (m : Nat) (p0 : List aa) (p1 : Tree) (r0 : List aa) (h : ∃ a, ae p1 0 a ∧ ∃ b, ae p1 1 b ∧ (p0 ++ [(aa.mk a [109, 111, 100, 117, 108, 101]), (aa.mk b p1.text)]).length ≤ 1000000000 ∧ cM m p1 (p0 ++ [(aa.mk a [109, 111, 100, 117, 108, 101]), (aa.mk b p1.text)]) 0 r0) : iw (m + 1) p0 p1 r0 := by
 intro K hK
 refine gR 1 rfl <| gDs [] 12 12 rfl (by kernel_rfl) (by kernel_rfl) <| gDr [(0, 2), (1, 2), (4, 2), (6, 2), (7, 2)] (by kernel_rfl) rfl rfl ?_
 obtain ⟨a, hs116, h⟩ := h
 refine bw 2 hs116 (by kernel_rfl) rfl (by kernel_rfl) rfl rfl .rfl rfl rfl ?_
 refine gDr [(3, 2)] (by kernel_rfl) rfl rfl ?_
 obtain ⟨b, hs117, h⟩ := h
 refine bw 5 hs117 (by kernel_rfl) rfl (by kernel_rfl) rfl rfl .rfl rfl rfl ?_
 refine gDr [(8, 0), (9, 0)] (by kernel_rfl) rfl rfl ?_
 obtain ⟨hb, h⟩ := h
 refine cz 10 (.repl 0 (.row 39 2 (List.map aa.w (p0 ++ [(aa.mk a [109, 111, 100, 117, 108, 101]), (aa.mk b p1.text)])))) rfl (by kernel_rfl) (bT ab rfl rfl rfl rfl rfl (List.map_append (f := aa.w) (l₁ := p0) (l₂ := [(aa.mk a [109, 111, 100, 117, 108, 101]), (aa.mk b p1.text)])).symm (by rw [aY]; exact hb)) (okR rfl) rfl (by kernel_rfl) rfl rfl ?_
 exact gDr [(11, 0)] (by kernel_rfl) rfl rfl <| gDe (by kernel_rfl) <| gR 8 rfl <| go_loop m <| gJ (h K _ hK (by omega)) [2] [] rfl hK pq4 ⟨⟨_, rfl, rfl, rfl, (ak _ aa.w (fun _ => rfl) (p0 ++ [(aa.mk a [109, 111, 100, 117, 108, 101]), (aa.mk b p1.text)])).symm⟩, trivial⟩ rfl
theorem hU (m : Nat) (p0 : List aa) (p1 : Tree) (r0 : List aa) (h : ((p1.kind = 2) → ix m p0 p1 r0) ∧ ((p1.kind ≠ 2) → eX m p0 p1 r0)) : eZ (m + 1) p0 p1 r0 := by
 intro K hK
 refine gR 6 rfl <| qBeZ 43 44 rfl rfl rfl rfl h (fun h => ?_) fun h => ?_
 exact gR 1 rfl <| gJ (h K hK) [0] [] rfl hK pq3 ⟨⟨_, rfl, rfl, rfl, (ak _ aa.w (fun _ => rfl) p0).symm⟩, trivial⟩ rfl
 exact gR 1 rfl <| gJ (h K hK) [0] [] rfl hK pq4 ⟨⟨_, rfl, rfl, rfl, (ak _ aa.w (fun _ => rfl) p0).symm⟩, trivial⟩ rfl
theorem ib (m : Nat) (p1 : Tree) (a : List aa) (c : Nat) (r0 : List aa) (h : ((c < p1.kids.length) → ∃ e, p1.kids[c]? = some e ∧ ∃ d, ai a e d ∧ c + 1 ≤ 9223372036854775807 ∧ cM m p1 d (c + 1) r0) ∧ ((¬ c < p1.kids.length) → ∃ b, ae p1 2 b ∧ (a ++ [(aa.mk b [])]).length ≤ 1000000000 ∧ (a ++ [(aa.mk b [])]) = r0)) : cM (m + 1) p1 a c r0 := by
 intro K j1 hK hj1
 obtain ⟨j1, rfl⟩ : ∃ j, j1 = j + 1 := ⟨j1 - 1, by omega⟩
 refine gR 8 rfl <| gB 27 rfl rfl rfl ?_ ?_ <;> intro hd
 replace hd := (fS hd)
 replace h := h.1 hd
 refine gR 10 rfl ?_
 obtain ⟨e, hxt3_1, h⟩ := h
 refine gY (bO (aK hxt3_1) ab rfl rfl rfl rfl) rfl rfl <| gR 1 rfl ?_
 obtain ⟨d, hs118, h⟩ := h
 refine gC hs118 [0] (by kernel_rfl) rfl rfl .rfl ⟨⟨_, rfl, ⟨rfl, rfl, (ak _ aa.w (fun _ => rfl) a).symm⟩⟩, trivial⟩ rfl ?_
 rintro _ _ ⟨rfl, rfl⟩
 refine gHR 2 (List.map aa.w d) rfl (ak _ aa.w (fun _ => rfl) d) rfl <| gR 6 rfl ?_
 obtain ⟨hb, h⟩ := h
 exact gR 1 rfl <| gV 29 (.int .i64 ((c + 1 : Nat) : Int)) rfl (aN (by omega) (by omega)) rfl <| gR 2 rfl <| go_xloop <| gJ (h K _ hK (by omega)) [2] [] rfl hK pq4 ⟨⟨_, rfl, rfl, rfl, (ak _ aa.w (fun _ => rfl) d).symm⟩, trivial⟩ rfl
 replace hd := (gd hd)
 replace h := h.2 hd
 refine gR 3 rfl <| go_xloopE <| gR 6 rfl ?_
 obtain ⟨b, hs119, h⟩ := h
 refine gC0 hs119 (by kernel_rfl) rfl rfl .rfl rfl <| gR 2 rfl ?_
 obtain ⟨hb, h⟩ := h
 refine gDo (.repl 0 (.row 39 2 (List.map aa.w (a ++ [(aa.mk b [])])))) (bT ab rfl rfl rfl rfl rfl (apM aa.w a (aa.mk b [])) (by rw [aY]; exact hb)) (okR rfl) rfl rfl rfl <| gR 6 rfl ?_
 subst h
 exact go_sub (F' := (mkF 365 0 [(4, .sl 1)])) (H' := ⟨2, [(1, .row 39 2 (List.map aa.w (a ++ [(aa.mk b [])])))]⟩) [1000, 2] [] rfl hK pq1 ⟨⟨_, rfl, rfl, rfl, (ak _ aa.w (fun _ => rfl) (a ++ [(aa.mk b [])])).symm⟩, trivial⟩ rfl <| go_endD [] ab (rs := [.tmp 4]) rfl rfl ⟨rfl, rfl⟩
theorem lp (m : Nat) (p0 : List aa) (p1 : Tree) (r0 : List aa) (h : ∃ e, ae p1 0 e ∧ ∃ g, ae p1 1 g ∧ ∃ i, ae p1 2 i ∧ (p0 ++ [(aa.mk e [100, 101, 102]), (aa.mk g p1.text), (aa.mk i [40])]).length ≤ 1000000000 ∧ InI ((p1.kids.length : Int) - 2) ∧ ∃ d, cY (p0 ++ [(aa.mk e [100, 101, 102]), (aa.mk g p1.text), (aa.mk i [40])]) p1 0 ((p1.kids.length : Int) - 2) 6 d ∧ ∃ j, ae p1 3 j ∧ ∃ k, ae p1 4 k ∧ (d ++ [(aa.mk j [41]), (aa.mk k [58])]).length ≤ 1000000000 ∧ InI ((p1.kids.length : Int) - 2) ∧ ∃ o, ((p1.kids.length : Int) - 2) = ((o : Nat) : Int) ∧ ∃ p, p1.kids[o]? = some p ∧ ∃ b, ai (d ++ [(aa.mk j [41]), (aa.mk k [58])]) p b ∧ ∃ a, ae p1 5 a ∧ (b ++ [(aa.mk a [61])]).length ≤ 1000000000 ∧ InI ((p1.kids.length : Int) - 1) ∧ ∃ l, ((p1.kids.length : Int) - 1) = ((l : Nat) : Int) ∧ ∃ n, p1.kids[l]? = some n ∧ ∃ c, ai (b ++ [(aa.mk a [61])]) n c ∧ c = r0) : ix (m + 1) p0 p1 r0 := by
 intro K hK
 refine gR 1 rfl <| gDs [] 15 15 rfl (by kernel_rfl) (by kernel_rfl) <| gDr [(0, 2), (1, 2), (4, 2), (6, 2), (7, 2), (9, 2)] (by kernel_rfl) rfl rfl ?_
 obtain ⟨e, hs120, h⟩ := h
 refine bw 2 hs120 (by kernel_rfl) rfl (by kernel_rfl) rfl rfl .rfl rfl rfl ?_
 refine gDr [(3, 2)] (by kernel_rfl) rfl rfl ?_
 obtain ⟨g, hs121, h⟩ := h
 refine bw 5 hs121 (by kernel_rfl) rfl (by kernel_rfl) rfl rfl .rfl rfl rfl ?_
 refine gDr [(8, 2)] (by kernel_rfl) rfl rfl ?_
 obtain ⟨i, hs122, h⟩ := h
 refine bw 10 hs122 (by kernel_rfl) rfl (by kernel_rfl) rfl rfl .rfl rfl rfl ?_
 refine gDr [(11, 0), (12, 0)] (by kernel_rfl) rfl rfl ?_
 obtain ⟨hb, h⟩ := h
 refine cz 13 (.repl 0 (.row 39 2 (List.map aa.w (p0 ++ [(aa.mk e [100, 101, 102]), (aa.mk g p1.text), (aa.mk i [40])])))) rfl (by kernel_rfl) (bT ab rfl rfl rfl rfl rfl (List.map_append (f := aa.w) (l₁ := p0) (l₂ := [(aa.mk e [100, 101, 102]), (aa.mk g p1.text), (aa.mk i [40])])).symm (by rw [aY]; exact hb)) (okR rfl) rfl (by kernel_rfl) rfl rfl ?_
 refine gDr [(14, 0)] (by kernel_rfl) rfl rfl <| gDe (by kernel_rfl) <| gR 6 rfl ?_
 obtain ⟨hb, h⟩ := h
 refine gR 1 rfl <| gV 62 (.int .i64 ((p1.kids.length : Int) - 2)) rfl (aN hb rfl) rfl ?_
 obtain ⟨d, hs123, h⟩ := h
 refine gC hs123 [2] (by kernel_rfl) rfl rfl .rfl ⟨⟨_, rfl, ⟨rfl, rfl, (ak _ aa.w (fun _ => rfl) (p0 ++ [(aa.mk e [100, 101, 102]), (aa.mk g p1.text), (aa.mk i [40])])).symm⟩⟩, trivial⟩ rfl ?_
 rintro _ _ ⟨rfl, rfl⟩
 refine gHR 4 (List.map aa.w d) rfl (ak _ aa.w (fun _ => rfl) d) rfl <| gR 4 rfl <| gDs [] 10 10 rfl (by kernel_rfl) (by kernel_rfl) <| gDr [(0, 2), (1, 2), (4, 2)] (by kernel_rfl) rfl rfl ?_
 obtain ⟨j, hs124, h⟩ := h
 refine bw 2 hs124 (by kernel_rfl) rfl (by kernel_rfl) rfl rfl .rfl rfl rfl ?_
 refine gDr [(3, 2)] (by kernel_rfl) rfl rfl ?_
 obtain ⟨k, hs125, h⟩ := h
 refine bw 5 hs125 (by kernel_rfl) rfl (by kernel_rfl) rfl rfl .rfl rfl rfl ?_
 refine gDr [(6, 0), (7, 0)] (by kernel_rfl) rfl rfl ?_
 obtain ⟨hb, h⟩ := h
 refine cz 8 (.repl 4 (.row 39 2 (List.map aa.w (d ++ [(aa.mk j [41]), (aa.mk k [58])])))) rfl (by kernel_rfl) (bT ab rfl rfl rfl rfl rfl (List.map_append (f := aa.w) (l₁ := d) (l₂ := [(aa.mk j [41]), (aa.mk k [58])])).symm (by rw [aY]; exact hb)) (okR rfl) rfl (by kernel_rfl) rfl rfl ?_
 refine gDr [(9, 0)] (by kernel_rfl) rfl rfl <| gDe (by kernel_rfl) <| gR 2 rfl <| gDs [] 14 14 rfl (by kernel_rfl) (by kernel_rfl) <| gDr [(0, 2), (1, 2), (2, 2), (3, 2)] (by kernel_rfl) rfl rfl ?_
 obtain ⟨hb, h⟩ := h
 refine gDr [(4, 2)] (by kernel_rfl) rfl rfl <| gV 77 (.int .i64 ((p1.kids.length : Int) - 2)) rfl (aN hb rfl) rfl ?_
 obtain ⟨o, r, h⟩ := h
 refine gV 77 (.int .i64 ((o : Nat) : Int)) rfl (jl r) rfl ?_
 obtain ⟨p, hxt4_8, h⟩ := h
 refine gYd 5 rfl (by kernel_rfl) (bO (aK hxt4_8) ab rfl rfl rfl rfl) rfl rfl <| gDr [(6, 2), (8, 2)] (by kernel_rfl) rfl rfl ?_
 obtain ⟨b, hs126, h⟩ := h
 refine gDC 7 hs126 [6] (by kernel_rfl) rfl (by kernel_rfl) rfl rfl .rfl ⟨⟨_, rfl, ⟨rfl, rfl, (ak _ aa.w (fun _ => rfl) (d ++ [(aa.mk j [41]), (aa.mk k [58])])).symm⟩⟩, trivial⟩ (by kernel_rfl) rfl ?_
 rintro _ _ ⟨rfl, rfl⟩
 refine gHR 8 (List.map aa.w b) rfl (ak _ aa.w (fun _ => rfl) b) rfl ?_
 obtain ⟨a, hs127, h⟩ := h
 refine bw 9 hs127 (by kernel_rfl) rfl (by kernel_rfl) rfl rfl .rfl rfl rfl ?_
 refine gDr [(10, 0), (11, 0)] (by kernel_rfl) rfl rfl ?_
 obtain ⟨hb, h⟩ := h
 refine cz 12 (.repl 8 (.row 39 2 (List.map aa.w (b ++ [(aa.mk a [61])])))) rfl (by kernel_rfl) (bT ab rfl rfl rfl rfl rfl (apM aa.w b (aa.mk a [61])) (by rw [aY]; exact hb)) (okR rfl) rfl (by kernel_rfl) rfl rfl ?_
 refine gDr [(13, 0)] (by kernel_rfl) rfl rfl <| gDe (by kernel_rfl) <| gR 1 rfl <| go_sub (F' := (mkF 365 0 [(0, .sl 0), (3, .box (av p1) 0), (5, .int .i64 (p1.kids.length : Int))])) (H' := ⟨1, [(0, .row 39 2 (List.map aa.w (b ++ [(aa.mk a [61])])))]⟩) [10] [] rfl hK pq3 ⟨⟨_, rfl, rfl, rfl, (ak _ aa.w (fun _ => rfl) (b ++ [(aa.mk a [61])])).symm⟩, trivial⟩ rfl <| gR 6 rfl ?_
 obtain ⟨hb, h⟩ := h
 refine gR 1 rfl <| gV 90 (.int .i64 ((p1.kids.length : Int) - 1)) rfl (aN hb rfl) rfl ?_
 obtain ⟨l, q, h⟩ := h
 refine gV 90 (.int .i64 ((l : Nat) : Int)) rfl (jl q) rfl ?_
 obtain ⟨n, hxt4_12, h⟩ := h
 refine gY (bO (aK hxt4_12) ab rfl rfl rfl rfl) rfl rfl <| gR 1 rfl ?_
 obtain ⟨c, hs128, h⟩ := h
 refine gC hs128 [0] (by kernel_rfl) rfl rfl .rfl ⟨⟨_, rfl, ⟨rfl, rfl, (ak _ aa.w (fun _ => rfl) (b ++ [(aa.mk a [61])])).symm⟩⟩, trivial⟩ rfl ?_
 rintro _ _ ⟨rfl, rfl⟩
 refine gHR 2 (List.map aa.w c) rfl (ak _ aa.w (fun _ => rfl) c) rfl <| gR 6 rfl ?_
 subst h
 exact go_sub (F' := (mkF 365 0 [(4, .sl 1)])) (H' := ⟨2, [(1, .row 39 2 (List.map aa.w c))]⟩) [1000, 2] [] rfl hK pq1 ⟨⟨_, rfl, rfl, rfl, (ak _ aa.w (fun _ => rfl) c).symm⟩, trivial⟩ rfl <| go_endD [] ab (rs := [.tmp 4]) rfl rfl ⟨rfl, rfl⟩
theorem gZ (m : Nat) (p0 : List aa) (p1 : Tree) (r0 : List aa) (h : ((p1.kind = 3) → it m p0 p1 r0) ∧ ((p1.kind ≠ 3) → ff m p0 p1 r0)) : eX (m + 1) p0 p1 r0 := by
 intro K hK
 refine gR 6 rfl <| qBeZ 94 95 rfl rfl rfl rfl h (fun h => ?_) fun h => ?_
 exact gR 1 rfl <| gJ (h K hK) [0] [] rfl hK pq2 ⟨⟨_, rfl, rfl, rfl, (ak _ aa.w (fun _ => rfl) p0).symm⟩, trivial⟩ rfl
 exact gR 1 rfl <| gJ (h K hK) [0] [] rfl hK pq4 ⟨⟨_, rfl, rfl, rfl, (ak _ aa.w (fun _ => rfl) p0).symm⟩, trivial⟩ rfl
theorem lx (m : Nat) (p0 : List aa) (p1 : Tree) (r0 : List aa) (h : ∃ a, ae p1 0 a ∧ ∃ b, ae p1 1 b ∧ ∃ c, ae p1 2 c ∧ (p0 ++ [(aa.mk a [116, 121, 112, 101]), (aa.mk b p1.text), (aa.mk c [61])]).length ≤ 1000000000 ∧ ∃ e, p1.kids[0]? = some e ∧ ∃ d, ai (p0 ++ [(aa.mk a [116, 121, 112, 101]), (aa.mk b p1.text), (aa.mk c [61])]) e d ∧ d = r0) : it (m + 1) p0 p1 r0 := by
 intro K hK
 refine gR 1 rfl <| gDs [] 15 15 rfl (by kernel_rfl) (by kernel_rfl) <| gDr [(0, 2), (1, 2), (4, 2), (6, 2), (7, 2), (9, 2)] (by kernel_rfl) rfl rfl ?_
 obtain ⟨a, hs129, h⟩ := h
 refine bw 2 hs129 (by kernel_rfl) rfl (by kernel_rfl) rfl rfl .rfl rfl rfl ?_
 refine gDr [(3, 2)] (by kernel_rfl) rfl rfl ?_
 obtain ⟨b, hs130, h⟩ := h
 refine bw 5 hs130 (by kernel_rfl) rfl (by kernel_rfl) rfl rfl .rfl rfl rfl ?_
 refine gDr [(8, 2)] (by kernel_rfl) rfl rfl ?_
 obtain ⟨c, hs131, h⟩ := h
 refine bw 10 hs131 (by kernel_rfl) rfl (by kernel_rfl) rfl rfl .rfl rfl rfl ?_
 refine gDr [(11, 0), (12, 0)] (by kernel_rfl) rfl rfl ?_
 obtain ⟨hb, h⟩ := h
 refine cz 13 (.repl 0 (.row 39 2 (List.map aa.w (p0 ++ [(aa.mk a [116, 121, 112, 101]), (aa.mk b p1.text), (aa.mk c [61])])))) rfl (by kernel_rfl) (bT ab rfl rfl rfl rfl rfl (List.map_append (f := aa.w) (l₁ := p0) (l₂ := [(aa.mk a [116, 121, 112, 101]), (aa.mk b p1.text), (aa.mk c [61])])).symm (by rw [aY]; exact hb)) (okR rfl) rfl (by kernel_rfl) rfl rfl ?_
 refine gDr [(14, 0)] (by kernel_rfl) rfl rfl <| gDe (by kernel_rfl) <| gR 6 rfl ?_
 obtain ⟨e, hxt6_4, h⟩ := h
 refine gY (bO (aK hxt6_4) ab rfl rfl rfl rfl) rfl rfl <| gR 1 rfl ?_
 obtain ⟨d, hs132, h⟩ := h
 refine gC hs132 [2] (by kernel_rfl) rfl rfl .rfl ⟨⟨_, rfl, ⟨rfl, rfl, (ak _ aa.w (fun _ => rfl) (p0 ++ [(aa.mk a [116, 121, 112, 101]), (aa.mk b p1.text), (aa.mk c [61])])).symm⟩⟩, trivial⟩ rfl ?_
 rintro _ _ ⟨rfl, rfl⟩
 refine gHR 4 (List.map aa.w d) rfl (ak _ aa.w (fun _ => rfl) d) rfl <| gR 6 rfl ?_
 subst h
 exact go_sub (F' := (mkF 365 0 [(4, .sl 1)])) (H' := ⟨2, [(1, .row 39 2 (List.map aa.w d))]⟩) [1000, 4] [] rfl hK pq1 ⟨⟨_, rfl, rfl, rfl, (ak _ aa.w (fun _ => rfl) d).symm⟩, trivial⟩ rfl <| go_endD [] ab (rs := [.tmp 4]) rfl rfl ⟨rfl, rfl⟩
theorem ic (m : Nat) (p0 : List aa) (p1 : Tree) (r0 : List aa) (h : ((p1.kind = 4) → iz m p0 p1 r0) ∧ ((p1.kind ≠ 4) → eV m p0 p1 r0)) : ff (m + 1) p0 p1 r0 := by
 intro K hK
 refine gR 6 rfl <| qBeZ 116 117 rfl rfl rfl rfl h (fun h => ?_) fun h => ?_
 exact gR 1 rfl <| gJ (h K hK) [0] [] rfl hK pq2 ⟨⟨_, rfl, rfl, rfl, (ak _ aa.w (fun _ => rfl) p0).symm⟩, trivial⟩ rfl
 exact gR 1 rfl <| gJ (h K hK) [0] [] rfl hK pq4 ⟨⟨_, rfl, rfl, rfl, (ak _ aa.w (fun _ => rfl) p0).symm⟩, trivial⟩ rfl
theorem lv (m : Nat) (p0 : List aa) (p1 : Tree) (r0 : List aa) (h : ∃ a, ae p1 0 a ∧ ∃ b, ae p1 1 b ∧ (p0 ++ [(aa.mk a p1.text), (aa.mk b [58])]).length ≤ 1000000000 ∧ ∃ d, p1.kids[0]? = some d ∧ ∃ c, ai (p0 ++ [(aa.mk a p1.text), (aa.mk b [58])]) d c ∧ c = r0) : iz (m + 1) p0 p1 r0 := by
 intro K hK
 refine gR 1 rfl <| gDs [] 12 12 rfl (by kernel_rfl) (by kernel_rfl) <| gDr [(0, 2), (1, 2), (3, 2), (4, 2), (6, 2)] (by kernel_rfl) rfl rfl ?_
 obtain ⟨a, hs133, h⟩ := h
 refine bw 2 hs133 (by kernel_rfl) rfl (by kernel_rfl) rfl rfl .rfl rfl rfl ?_
 refine gDr [(5, 2)] (by kernel_rfl) rfl rfl ?_
 obtain ⟨b, hs134, h⟩ := h
 refine bw 7 hs134 (by kernel_rfl) rfl (by kernel_rfl) rfl rfl .rfl rfl rfl ?_
 refine gDr [(8, 0), (9, 0)] (by kernel_rfl) rfl rfl ?_
 obtain ⟨hb, h⟩ := h
 refine cz 10 (.repl 0 (.row 39 2 (List.map aa.w (p0 ++ [(aa.mk a p1.text), (aa.mk b [58])])))) rfl (by kernel_rfl) (bT ab rfl rfl rfl rfl rfl (List.map_append (f := aa.w) (l₁ := p0) (l₂ := [(aa.mk a p1.text), (aa.mk b [58])])).symm (by rw [aY]; exact hb)) (okR rfl) rfl (by kernel_rfl) rfl rfl ?_
 refine gDr [(11, 0)] (by kernel_rfl) rfl rfl <| gDe (by kernel_rfl) <| gR 6 rfl ?_
 obtain ⟨d, hxt8_3, h⟩ := h
 refine gY (bO (aK hxt8_3) ab rfl rfl rfl rfl) rfl rfl <| gR 1 rfl ?_
 obtain ⟨c, hs135, h⟩ := h
 refine gC hs135 [2] (by kernel_rfl) rfl rfl .rfl ⟨⟨_, rfl, ⟨rfl, rfl, (ak _ aa.w (fun _ => rfl) (p0 ++ [(aa.mk a p1.text), (aa.mk b [58])])).symm⟩⟩, trivial⟩ rfl ?_
 rintro _ _ ⟨rfl, rfl⟩
 refine gHR 4 (List.map aa.w c) rfl (ak _ aa.w (fun _ => rfl) c) rfl <| gR 6 rfl ?_
 subst h
 exact go_sub (F' := (mkF 365 0 [(4, .sl 1)])) (H' := ⟨2, [(1, .row 39 2 (List.map aa.w c))]⟩) [1000, 4] [] rfl hK pq1 ⟨⟨_, rfl, rfl, rfl, (ak _ aa.w (fun _ => rfl) c).symm⟩, trivial⟩ rfl <| go_endD [] ab (rs := [.tmp 4]) rfl rfl ⟨rfl, rfl⟩
theorem hZ (m : Nat) (p0 : List aa) (p1 : Tree) (r0 : List aa) (h : ((p1.kind = 5) → ∃ a, ae p1 0 a ∧ (p0 ++ [(aa.mk a [73, 110, 116])]).length ≤ 1000000000 ∧ (p0 ++ [(aa.mk a [73, 110, 116])]) = r0) ∧ ((p1.kind ≠ 5) → fd m p0 p1 r0)) : eV (m + 1) p0 p1 r0 := by
 intro K hK
 refine gR 6 rfl <| qBeZ 135 136 rfl rfl rfl rfl h (fun h => ?_) fun h => ?_
 refine gR 5 rfl ?_
 obtain ⟨a, hs136, h⟩ := h
 refine gC0 hs136 (by kernel_rfl) rfl rfl .rfl rfl <| gR 2 rfl ?_
 obtain ⟨hb, h⟩ := h
 refine gDo (.repl 0 (.row 39 2 (List.map aa.w (p0 ++ [(aa.mk a [73, 110, 116])])))) (bT ab rfl rfl rfl rfl rfl (apM aa.w p0 (aa.mk a [73, 110, 116])) (by rw [aY]; exact hb)) (okR rfl) rfl rfl rfl <| gR 6 rfl ?_
 subst h
 exact go_sub (F' := (mkF 365 0 [(4, .sl 1)])) (H' := ⟨2, [(1, .row 39 2 (List.map aa.w (p0 ++ [(aa.mk a [73, 110, 116])])))]⟩) [1000, 2] [] rfl hK pq1 ⟨⟨_, rfl, rfl, rfl, (ak _ aa.w (fun _ => rfl) (p0 ++ [(aa.mk a [73, 110, 116])])).symm⟩, trivial⟩ rfl <| go_endD [] ab (rs := [.tmp 4]) rfl rfl ⟨rfl, rfl⟩
 exact gR 1 rfl <| gJ (h K hK) [0] [] rfl hK pq4 ⟨⟨_, rfl, rfl, rfl, (ak _ aa.w (fun _ => rfl) p0).symm⟩, trivial⟩ rfl
theorem ig (m : Nat) (p0 : List aa) (p1 : Tree) (r0 : List aa) (h : ((p1.kind = 6) → ∃ a, ae p1 0 a ∧ (p0 ++ [(aa.mk a [84, 101, 120, 116])]).length ≤ 1000000000 ∧ (p0 ++ [(aa.mk a [84, 101, 120, 116])]) = r0) ∧ ((p1.kind ≠ 6) → ey m p0 p1 r0)) : fd (m + 1) p0 p1 r0 := by
 intro K hK
 refine gR 6 rfl <| qBeZ 143 144 rfl rfl rfl rfl h (fun h => ?_) fun h => ?_
 refine gR 5 rfl ?_
 obtain ⟨a, hs137, h⟩ := h
 refine gC0 hs137 (by kernel_rfl) rfl rfl .rfl rfl <| gR 2 rfl ?_
 obtain ⟨hb, h⟩ := h
 refine gDo (.repl 0 (.row 39 2 (List.map aa.w (p0 ++ [(aa.mk a [84, 101, 120, 116])])))) (bT ab rfl rfl rfl rfl rfl (apM aa.w p0 (aa.mk a [84, 101, 120, 116])) (by rw [aY]; exact hb)) (okR rfl) rfl rfl rfl <| gR 6 rfl ?_
 subst h
 exact go_sub (F' := (mkF 365 0 [(4, .sl 1)])) (H' := ⟨2, [(1, .row 39 2 (List.map aa.w (p0 ++ [(aa.mk a [84, 101, 120, 116])])))]⟩) [1000, 2] [] rfl hK pq1 ⟨⟨_, rfl, rfl, rfl, (ak _ aa.w (fun _ => rfl) (p0 ++ [(aa.mk a [84, 101, 120, 116])])).symm⟩, trivial⟩ rfl <| go_endD [] ab (rs := [.tmp 4]) rfl rfl ⟨rfl, rfl⟩
 exact gR 1 rfl <| gJ (h K hK) [0] [] rfl hK pq4 ⟨⟨_, rfl, rfl, rfl, (ak _ aa.w (fun _ => rfl) p0).symm⟩, trivial⟩ rfl
theorem gI (m : Nat) (p0 : List aa) (p1 : Tree) (r0 : List aa) (h : ((p1.kind = 7) → ∃ a, ae p1 0 a ∧ (p0 ++ [(aa.mk a [66, 111, 111, 108])]).length ≤ 1000000000 ∧ (p0 ++ [(aa.mk a [66, 111, 111, 108])]) = r0) ∧ ((p1.kind ≠ 7) → eI m p0 p1 r0)) : ey (m + 1) p0 p1 r0 := by
 intro K hK
 refine gR 6 rfl <| qBeZ 151 152 rfl rfl rfl rfl h (fun h => ?_) fun h => ?_
 refine gR 5 rfl ?_
 obtain ⟨a, hs138, h⟩ := h
 refine gC0 hs138 (by kernel_rfl) rfl rfl .rfl rfl <| gR 2 rfl ?_
 obtain ⟨hb, h⟩ := h
 refine gDo (.repl 0 (.row 39 2 (List.map aa.w (p0 ++ [(aa.mk a [66, 111, 111, 108])])))) (bT ab rfl rfl rfl rfl rfl (apM aa.w p0 (aa.mk a [66, 111, 111, 108])) (by rw [aY]; exact hb)) (okR rfl) rfl rfl rfl <| gR 6 rfl ?_
 subst h
 exact go_sub (F' := (mkF 365 0 [(4, .sl 1)])) (H' := ⟨2, [(1, .row 39 2 (List.map aa.w (p0 ++ [(aa.mk a [66, 111, 111, 108])])))]⟩) [1000, 2] [] rfl hK pq1 ⟨⟨_, rfl, rfl, rfl, (ak _ aa.w (fun _ => rfl) (p0 ++ [(aa.mk a [66, 111, 111, 108])])).symm⟩, trivial⟩ rfl <| go_endD [] ab (rs := [.tmp 4]) rfl rfl ⟨rfl, rfl⟩
 exact gR 1 rfl <| gJ (h K hK) [0] [] rfl hK pq4 ⟨⟨_, rfl, rfl, rfl, (ak _ aa.w (fun _ => rfl) p0).symm⟩, trivial⟩ rfl
theorem gD (m : Nat) (p0 : List aa) (p1 : Tree) (r0 : List aa) (h : ((p1.kind = 13) → ∃ a, ae p1 0 a ∧ (p0 ++ [(aa.mk a [116, 114, 117, 101])]).length ≤ 1000000000 ∧ (p0 ++ [(aa.mk a [116, 114, 117, 101])]) = r0) ∧ ((p1.kind ≠ 13) → ev m p0 p1 r0)) : eI (m + 1) p0 p1 r0 := by
 intro K hK
 refine gR 6 rfl <| qBeZ 159 160 rfl rfl rfl rfl h (fun h => ?_) fun h => ?_
 refine gR 5 rfl ?_
 obtain ⟨a, hs139, h⟩ := h
 refine gC0 hs139 (by kernel_rfl) rfl rfl .rfl rfl <| gR 2 rfl ?_
 obtain ⟨hb, h⟩ := h
 refine gDo (.repl 0 (.row 39 2 (List.map aa.w (p0 ++ [(aa.mk a [116, 114, 117, 101])])))) (bT ab rfl rfl rfl rfl rfl (apM aa.w p0 (aa.mk a [116, 114, 117, 101])) (by rw [aY]; exact hb)) (okR rfl) rfl rfl rfl <| gR 6 rfl ?_
 subst h
 exact go_sub (F' := (mkF 365 0 [(4, .sl 1)])) (H' := ⟨2, [(1, .row 39 2 (List.map aa.w (p0 ++ [(aa.mk a [116, 114, 117, 101])])))]⟩) [1000, 2] [] rfl hK pq1 ⟨⟨_, rfl, rfl, rfl, (ak _ aa.w (fun _ => rfl) (p0 ++ [(aa.mk a [116, 114, 117, 101])])).symm⟩, trivial⟩ rfl <| go_endD [] ab (rs := [.tmp 4]) rfl rfl ⟨rfl, rfl⟩
 exact gR 1 rfl <| gJ (h K hK) [0] [] rfl hK pq4 ⟨⟨_, rfl, rfl, rfl, (ak _ aa.w (fun _ => rfl) p0).symm⟩, trivial⟩ rfl
theorem gL (m : Nat) (p0 : List aa) (p1 : Tree) (r0 : List aa) (h : ((p1.kind = 14) → ∃ a, ae p1 0 a ∧ (p0 ++ [(aa.mk a [102, 97, 108, 115, 101])]).length ≤ 1000000000 ∧ (p0 ++ [(aa.mk a [102, 97, 108, 115, 101])]) = r0) ∧ ((p1.kind ≠ 14) → eP m p0 p1 r0)) : ev (m + 1) p0 p1 r0 := by
 intro K hK
 refine gR 6 rfl <| qBeZ 167 168 rfl rfl rfl rfl h (fun h => ?_) fun h => ?_
 refine gR 5 rfl ?_
 obtain ⟨a, hs140, h⟩ := h
 refine gC0 hs140 (by kernel_rfl) rfl rfl .rfl rfl <| gR 2 rfl ?_
 obtain ⟨hb, h⟩ := h
 refine gDo (.repl 0 (.row 39 2 (List.map aa.w (p0 ++ [(aa.mk a [102, 97, 108, 115, 101])])))) (bT ab rfl rfl rfl rfl rfl (apM aa.w p0 (aa.mk a [102, 97, 108, 115, 101])) (by rw [aY]; exact hb)) (okR rfl) rfl rfl rfl <| gR 6 rfl ?_
 subst h
 exact go_sub (F' := (mkF 365 0 [(4, .sl 1)])) (H' := ⟨2, [(1, .row 39 2 (List.map aa.w (p0 ++ [(aa.mk a [102, 97, 108, 115, 101])])))]⟩) [1000, 2] [] rfl hK pq1 ⟨⟨_, rfl, rfl, rfl, (ak _ aa.w (fun _ => rfl) (p0 ++ [(aa.mk a [102, 97, 108, 115, 101])])).symm⟩, trivial⟩ rfl <| go_endD [] ab (rs := [.tmp 4]) rfl rfl ⟨rfl, rfl⟩
 exact gR 1 rfl <| gJ (h K hK) [0] [] rfl hK pq4 ⟨⟨_, rfl, rfl, rfl, (ak _ aa.w (fun _ => rfl) p0).symm⟩, trivial⟩ rfl
theorem gw (m : Nat) (p0 : List aa) (p1 : Tree) (r0 : List aa) (h : ((p1.kind = 15) → ∃ a, ae p1 0 a ∧ (p0 ++ [(aa.mk a [63])]).length ≤ 1000000000 ∧ (p0 ++ [(aa.mk a [63])]) = r0) ∧ ((p1.kind ≠ 15) → eJ m p0 p1 r0)) : eP (m + 1) p0 p1 r0 := by
 intro K hK
 refine gR 6 rfl <| qBeZ 175 176 rfl rfl rfl rfl h (fun h => ?_) fun h => ?_
 refine gR 5 rfl ?_
 obtain ⟨a, hs141, h⟩ := h
 refine gC0 hs141 (by kernel_rfl) rfl rfl .rfl rfl <| gR 2 rfl ?_
 obtain ⟨hb, h⟩ := h
 refine gDo (.repl 0 (.row 39 2 (List.map aa.w (p0 ++ [(aa.mk a [63])])))) (bT ab rfl rfl rfl rfl rfl (apM aa.w p0 (aa.mk a [63])) (by rw [aY]; exact hb)) (okR rfl) rfl rfl rfl <| gR 6 rfl ?_
 subst h
 exact go_sub (F' := (mkF 365 0 [(4, .sl 1)])) (H' := ⟨2, [(1, .row 39 2 (List.map aa.w (p0 ++ [(aa.mk a [63])])))]⟩) [1000, 2] [] rfl hK pq1 ⟨⟨_, rfl, rfl, rfl, (ak _ aa.w (fun _ => rfl) (p0 ++ [(aa.mk a [63])])).symm⟩, trivial⟩ rfl <| go_endD [] ab (rs := [.tmp 4]) rfl rfl ⟨rfl, rfl⟩
 exact gR 1 rfl <| gJ (h K hK) [0] [] rfl hK pq4 ⟨⟨_, rfl, rfl, rfl, (ak _ aa.w (fun _ => rfl) p0).symm⟩, trivial⟩ rfl
theorem gx (m : Nat) (p0 : List aa) (p1 : Tree) (r0 : List aa) (h : ((p1.kind = 8) → hV m p0 p1 r0) ∧ ((p1.kind ≠ 8) → eK m p0 p1 r0)) : eJ (m + 1) p0 p1 r0 := by
 intro K hK
 refine gR 6 rfl <| qBeZ 183 184 rfl rfl rfl rfl h (fun h => ?_) fun h => ?_
 exact gR 1 rfl <| gJ (h K hK) [0] [] rfl hK pq2 ⟨⟨_, rfl, rfl, rfl, (ak _ aa.w (fun _ => rfl) p0).symm⟩, trivial⟩ rfl
 exact gR 1 rfl <| gJ (h K hK) [0] [] rfl hK pq4 ⟨⟨_, rfl, rfl, rfl, (ak _ aa.w (fun _ => rfl) p0).symm⟩, trivial⟩ rfl
theorem kI (m : Nat) (p0 : List aa) (p1 : Tree) (r0 : List aa) (h : ∃ c, ae p1 0 c ∧ (p0 ++ [(aa.mk c [91])]).length ≤ 1000000000 ∧ ∃ d, p1.kids[0]? = some d ∧ ∃ a, ai (p0 ++ [(aa.mk c [91])]) d a ∧ ∃ b, ae p1 1 b ∧ (a ++ [(aa.mk b [93])]).length ≤ 1000000000 ∧ (a ++ [(aa.mk b [93])]) = r0) : hV (m + 1) p0 p1 r0 := by
 intro K hK
 refine gR 4 rfl ?_
 obtain ⟨c, hs142, h⟩ := h
 refine gC0 hs142 (by kernel_rfl) rfl rfl .rfl rfl <| gR 2 rfl ?_
 obtain ⟨hb, h⟩ := h
 refine gDo (.repl 0 (.row 39 2 (List.map aa.w (p0 ++ [(aa.mk c [91])])))) (bT ab rfl rfl rfl rfl rfl (apM aa.w p0 (aa.mk c [91])) (by rw [aY]; exact hb)) (okR rfl) rfl rfl rfl <| gR 4 rfl <| gDs [] 12 12 rfl (by kernel_rfl) (by kernel_rfl) <| gDr [(0, 2), (1, 2), (2, 2)] (by kernel_rfl) rfl rfl ?_
 obtain ⟨d, hxt16_2, h⟩ := h
 refine gYd 3 rfl (by kernel_rfl) (bO (aK hxt16_2) ab rfl rfl rfl rfl) rfl rfl <| gDr [(4, 2), (6, 2)] (by kernel_rfl) rfl rfl ?_
 obtain ⟨a, hs143, h⟩ := h
 refine gDC 5 hs143 [2] (by kernel_rfl) rfl (by kernel_rfl) rfl rfl .rfl ⟨⟨_, rfl, ⟨rfl, rfl, (ak _ aa.w (fun _ => rfl) (p0 ++ [(aa.mk c [91])])).symm⟩⟩, trivial⟩ (by kernel_rfl) rfl ?_
 rintro _ _ ⟨rfl, rfl⟩
 refine gHR 4 (List.map aa.w a) rfl (ak _ aa.w (fun _ => rfl) a) rfl ?_
 obtain ⟨b, hs144, h⟩ := h
 refine bw 7 hs144 (by kernel_rfl) rfl (by kernel_rfl) rfl rfl .rfl rfl rfl ?_
 refine gDr [(8, 0), (9, 0)] (by kernel_rfl) rfl rfl ?_
 obtain ⟨hb, h⟩ := h
 refine cz 10 (.repl 4 (.row 39 2 (List.map aa.w (a ++ [(aa.mk b [93])])))) rfl (by kernel_rfl) (bT ab rfl rfl rfl rfl rfl (apM aa.w a (aa.mk b [93])) (by rw [aY]; exact hb)) (okR rfl) rfl (by kernel_rfl) rfl rfl ?_
 refine gDr [(11, 0)] (by kernel_rfl) rfl rfl <| gDe (by kernel_rfl) <| gR 4 rfl ?_
 subst h
 exact go_sub (F' := (mkF 365 0 [(4, .sl 1)])) (H' := ⟨2, [(1, .row 39 2 (List.map aa.w (a ++ [(aa.mk b [93])])))]⟩) [1000, 6] [] rfl hK pq1 ⟨⟨_, rfl, rfl, rfl, (ak _ aa.w (fun _ => rfl) (a ++ [(aa.mk b [93])])).symm⟩, trivial⟩ rfl <| go_endD [] ab (rs := [.tmp 4]) rfl rfl ⟨rfl, rfl⟩
theorem gA (m : Nat) (p0 : List aa) (p1 : Tree) (r0 : List aa) (h : ((p1.kind = 16) → gX m p0 p1 r0) ∧ ((p1.kind ≠ 16) → eM m p0 p1 r0)) : eK (m + 1) p0 p1 r0 := by
 intro K hK
 refine gR 6 rfl <| qBeZ 202 203 rfl rfl rfl rfl h (fun h => ?_) fun h => ?_
 exact gR 1 rfl <| gJ (h K hK) [0] [] rfl hK pq3 ⟨⟨_, rfl, rfl, rfl, (ak _ aa.w (fun _ => rfl) p0).symm⟩, trivial⟩ rfl
 exact gR 1 rfl <| gJ (h K hK) [0] [] rfl hK pq4 ⟨⟨_, rfl, rfl, rfl, (ak _ aa.w (fun _ => rfl) p0).symm⟩, trivial⟩ rfl
theorem kD (m : Nat) (p0 : List aa) (p1 : Tree) (r0 : List aa) (h : ∃ c, ae p1 0 c ∧ ∃ d, ae p1 1 d ∧ (p0 ++ [(aa.mk c p1.text), (aa.mk d [40])]).length ≤ 1000000000 ∧ ∃ a, cY (p0 ++ [(aa.mk c p1.text), (aa.mk d [40])]) p1 0 (p1.kids.length : Int) 3 a ∧ ∃ b, ae p1 2 b ∧ (a ++ [(aa.mk b [41])]).length ≤ 1000000000 ∧ (a ++ [(aa.mk b [41])]) = r0) : gX (m + 1) p0 p1 r0 := by
 intro K hK
 refine gR 1 rfl <| gDs [] 12 12 rfl (by kernel_rfl) (by kernel_rfl) <| gDr [(0, 2), (1, 2), (3, 2), (4, 2), (6, 2)] (by kernel_rfl) rfl rfl ?_
 obtain ⟨c, hs145, h⟩ := h
 refine bw 2 hs145 (by kernel_rfl) rfl (by kernel_rfl) rfl rfl .rfl rfl rfl ?_
 refine gDr [(5, 2)] (by kernel_rfl) rfl rfl ?_
 obtain ⟨d, hs146, h⟩ := h
 refine bw 7 hs146 (by kernel_rfl) rfl (by kernel_rfl) rfl rfl .rfl rfl rfl ?_
 refine gDr [(8, 0), (9, 0)] (by kernel_rfl) rfl rfl ?_
 obtain ⟨hb, h⟩ := h
 refine cz 10 (.repl 0 (.row 39 2 (List.map aa.w (p0 ++ [(aa.mk c p1.text), (aa.mk d [40])])))) rfl (by kernel_rfl) (bT ab rfl rfl rfl rfl rfl (List.map_append (f := aa.w) (l₁ := p0) (l₂ := [(aa.mk c p1.text), (aa.mk d [40])])).symm (by rw [aY]; exact hb)) (okR rfl) rfl (by kernel_rfl) rfl rfl ?_
 refine gDr [(11, 0)] (by kernel_rfl) rfl rfl <| gDe (by kernel_rfl) <| gR 2 rfl <| gDs [] 10 10 rfl (by kernel_rfl) (by kernel_rfl) <| gDr [(0, 2), (1, 2), (2, 2), (4, 2)] (by kernel_rfl) rfl rfl ?_
 obtain ⟨a, hs147, h⟩ := h
 refine gDC 3 hs147 [2] (by kernel_rfl) rfl (by kernel_rfl) rfl rfl .rfl ⟨⟨_, rfl, ⟨rfl, rfl, (ak _ aa.w (fun _ => rfl) (p0 ++ [(aa.mk c p1.text), (aa.mk d [40])])).symm⟩⟩, trivial⟩ (by kernel_rfl) rfl ?_
 rintro _ _ ⟨rfl, rfl⟩
 refine gHR 4 (List.map aa.w a) rfl (ak _ aa.w (fun _ => rfl) a) rfl ?_
 obtain ⟨b, hs148, h⟩ := h
 refine bw 5 hs148 (by kernel_rfl) rfl (by kernel_rfl) rfl rfl .rfl rfl rfl ?_
 refine gDr [(6, 0), (7, 0)] (by kernel_rfl) rfl rfl ?_
 obtain ⟨hb, h⟩ := h
 refine cz 8 (.repl 4 (.row 39 2 (List.map aa.w (a ++ [(aa.mk b [41])])))) rfl (by kernel_rfl) (bT ab rfl rfl rfl rfl rfl (apM aa.w a (aa.mk b [41])) (by rw [aY]; exact hb)) (okR rfl) rfl (by kernel_rfl) rfl rfl ?_
 refine gDr [(9, 0)] (by kernel_rfl) rfl rfl <| gDe (by kernel_rfl) <| gR 4 rfl ?_
 subst h
 exact go_sub (F' := (mkF 365 0 [(4, .sl 1)])) (H' := ⟨2, [(1, .row 39 2 (List.map aa.w (a ++ [(aa.mk b [41])])))]⟩) [1000, 6] [] rfl hK pq1 ⟨⟨_, rfl, rfl, rfl, (ak _ aa.w (fun _ => rfl) (a ++ [(aa.mk b [41])])).symm⟩, trivial⟩ rfl <| go_endD [] ab (rs := [.tmp 4]) rfl rfl ⟨rfl, rfl⟩
theorem gM (m : Nat) (p0 : List aa) (p1 : Tree) (r0 : List aa) (h : ((p1.kind = 17) → ∃ b, p1.kids[0]? = some b ∧ ∃ a, ai p0 b a ∧ a = r0) ∧ ((p1.kind ≠ 17) → eL m p0 p1 r0)) : eM (m + 1) p0 p1 r0 := by
 intro K hK
 refine gR 6 rfl <| qBeZ 224 225 rfl rfl rfl rfl h (fun h => ?_) fun h => ?_
 refine gR 6 rfl ?_
 obtain ⟨b, hxt19_1, h⟩ := h
 refine gY (bO (aK hxt19_1) ab rfl rfl rfl rfl) rfl rfl <| gR 1 rfl ?_
 obtain ⟨a, hs149, h⟩ := h
 refine gC hs149 [0] (by kernel_rfl) rfl rfl .rfl ⟨⟨_, rfl, ⟨rfl, rfl, (ak _ aa.w (fun _ => rfl) p0).symm⟩⟩, trivial⟩ rfl ?_
 rintro _ _ ⟨rfl, rfl⟩
 refine gHR 2 (List.map aa.w a) rfl (ak _ aa.w (fun _ => rfl) a) rfl <| gR 6 rfl ?_
 subst h
 exact go_sub (F' := (mkF 365 0 [(4, .sl 1)])) (H' := ⟨2, [(1, .row 39 2 (List.map aa.w a))]⟩) [1000, 2] [] rfl hK pq1 ⟨⟨_, rfl, rfl, rfl, (ak _ aa.w (fun _ => rfl) a).symm⟩, trivial⟩ rfl <| go_endD [] ab (rs := [.tmp 4]) rfl rfl ⟨rfl, rfl⟩
 exact gR 1 rfl <| gJ (h K hK) [0] [] rfl hK pq4 ⟨⟨_, rfl, rfl, rfl, (ak _ aa.w (fun _ => rfl) p0).symm⟩, trivial⟩ rfl
theorem gG (m : Nat) (p0 : List aa) (p1 : Tree) (r0 : List aa) (h : ((p1.kind = 18) → hW m p0 p1 r0) ∧ ((p1.kind ≠ 18) → eG m p0 p1 r0)) : eL (m + 1) p0 p1 r0 := by
 intro K hK
 refine gR 6 rfl <| qBeZ 232 233 rfl rfl rfl rfl h (fun h => ?_) fun h => ?_
 exact gR 1 rfl <| gJ (h K hK) [0] [] rfl hK pq3 ⟨⟨_, rfl, rfl, rfl, (ak _ aa.w (fun _ => rfl) p0).symm⟩, trivial⟩ rfl
 exact gR 1 rfl <| gJ (h K hK) [0] [] rfl hK pq3 ⟨⟨_, rfl, rfl, rfl, (ak _ aa.w (fun _ => rfl) p0).symm⟩, trivial⟩ rfl
theorem kG (m : Nat) (p0 : List aa) (p1 : Tree) (r0 : List aa) (h : ∃ c, ae p1 0 c ∧ (p0 ++ [(aa.mk c [91])]).length ≤ 1000000000 ∧ ∃ a, cY (p0 ++ [(aa.mk c [91])]) p1 0 (p1.kids.length : Int) 2 a ∧ ∃ b, ae p1 1 b ∧ (a ++ [(aa.mk b [93])]).length ≤ 1000000000 ∧ (a ++ [(aa.mk b [93])]) = r0) : hW (m + 1) p0 p1 r0 := by
 intro K hK
 refine gR 4 rfl ?_
 obtain ⟨c, hs150, h⟩ := h
 refine gC0 hs150 (by kernel_rfl) rfl rfl .rfl rfl <| gR 2 rfl ?_
 obtain ⟨hb, h⟩ := h
 refine gDo (.repl 0 (.row 39 2 (List.map aa.w (p0 ++ [(aa.mk c [91])])))) (bT ab rfl rfl rfl rfl rfl (apM aa.w p0 (aa.mk c [91])) (by rw [aY]; exact hb)) (okR rfl) rfl rfl rfl <| gR 4 rfl <| gDs [] 10 10 rfl (by kernel_rfl) (by kernel_rfl) <| gDr [(0, 2), (1, 2), (2, 2), (4, 2)] (by kernel_rfl) rfl rfl ?_
 obtain ⟨a, hs151, h⟩ := h
 refine gDC 3 hs151 [2] (by kernel_rfl) rfl (by kernel_rfl) rfl rfl .rfl ⟨⟨_, rfl, ⟨rfl, rfl, (ak _ aa.w (fun _ => rfl) (p0 ++ [(aa.mk c [91])])).symm⟩⟩, trivial⟩ (by kernel_rfl) rfl ?_
 rintro _ _ ⟨rfl, rfl⟩
 refine gHR 4 (List.map aa.w a) rfl (ak _ aa.w (fun _ => rfl) a) rfl ?_
 obtain ⟨b, hs152, h⟩ := h
 refine bw 5 hs152 (by kernel_rfl) rfl (by kernel_rfl) rfl rfl .rfl rfl rfl ?_
 refine gDr [(6, 0), (7, 0)] (by kernel_rfl) rfl rfl ?_
 obtain ⟨hb, h⟩ := h
 refine cz 8 (.repl 4 (.row 39 2 (List.map aa.w (a ++ [(aa.mk b [93])])))) rfl (by kernel_rfl) (bT ab rfl rfl rfl rfl rfl (apM aa.w a (aa.mk b [93])) (by rw [aY]; exact hb)) (okR rfl) rfl (by kernel_rfl) rfl rfl ?_
 refine gDr [(9, 0)] (by kernel_rfl) rfl rfl <| gDe (by kernel_rfl) <| gR 4 rfl ?_
 subst h
 exact go_sub (F' := (mkF 365 0 [(4, .sl 1)])) (H' := ⟨2, [(1, .row 39 2 (List.map aa.w (a ++ [(aa.mk b [93])])))]⟩) [1000, 6] [] rfl hK pq1 ⟨⟨_, rfl, rfl, rfl, (ak _ aa.w (fun _ => rfl) (a ++ [(aa.mk b [93])])).symm⟩, trivial⟩ rfl <| go_endD [] ab (rs := [.tmp 4]) rfl rfl ⟨rfl, rfl⟩
theorem gy (m : Nat) (p0 : List aa) (p1 : Tree) (r0 : List aa) (h : ((p1.kind = 19) → hD m p0 p1 r0) ∧ ((p1.kind ≠ 19) → eF m p0 p1 r0)) : eG (m + 1) p0 p1 r0 := by
 intro K hK
 refine gR 6 rfl <| qBeZ 249 250 rfl rfl rfl rfl h (fun h => ?_) fun h => ?_
 exact gR 1 rfl <| gJ (h K hK) [0] [] rfl hK pq2 ⟨⟨_, rfl, rfl, rfl, (ak _ aa.w (fun _ => rfl) p0).symm⟩, trivial⟩ rfl
 exact gR 1 rfl <| gJ (h K hK) [0] [] rfl hK pq3 ⟨⟨_, rfl, rfl, rfl, (ak _ aa.w (fun _ => rfl) p0).symm⟩, trivial⟩ rfl
theorem kE (m : Nat) (p0 : List aa) (p1 : Tree) (r0 : List aa) (h : ∃ g, p1.kids[0]? = some g ∧ ∃ c, ae p1 0 c ∧ (p0 ++ [(aa.mk c [105, 102])]).length ≤ 1000000000 ∧ ∃ a, ai (p0 ++ [(aa.mk c [105, 102])]) g a ∧ ∃ i, p1.kids[1]? = some i ∧ ∃ d, ae p1 1 d ∧ (a ++ [(aa.mk d [116, 104, 101, 110])]).length ≤ 1000000000 ∧ ∃ b, ai (a ++ [(aa.mk d [116, 104, 101, 110])]) i b ∧ ∃ j, p1.kids[2]? = some j ∧ ∃ e, ae p1 2 e ∧ (b ++ [(aa.mk e [101, 108, 115, 101])]).length ≤ 1000000000 ∧ ∃ f, ai (b ++ [(aa.mk e [101, 108, 115, 101])]) j f ∧ f = r0) : hD (m + 1) p0 p1 r0 := by
 intro K hK
 refine gR 1 rfl <| gDs [] 12 12 rfl (by kernel_rfl) (by kernel_rfl) <| gDr [(0, 2), (1, 2), (6, 2), (7, 2)] (by kernel_rfl) rfl rfl ?_
 obtain ⟨g, hxt23_1, h⟩ := h
 refine gYd 8 rfl (by kernel_rfl) (bO (aK hxt23_1) ab rfl rfl rfl rfl) rfl rfl <| gDr [(9, 2)] (by kernel_rfl) rfl rfl ?_
 obtain ⟨c, hs153, h⟩ := h
 refine bw 2 hs153 (by kernel_rfl) rfl (by kernel_rfl) rfl rfl .rfl rfl rfl ?_
 refine gDr [(3, 0), (4, 0)] (by kernel_rfl) rfl rfl ?_
 obtain ⟨hb, h⟩ := h
 refine cz 5 (.repl 0 (.row 39 2 (List.map aa.w (p0 ++ [(aa.mk c [105, 102])])))) rfl (by kernel_rfl) (bT ab rfl rfl rfl rfl rfl (apM aa.w p0 (aa.mk c [105, 102])) (by rw [aY]; exact hb)) (okR rfl) rfl (by kernel_rfl) rfl rfl ?_
 obtain ⟨a, hs154, h⟩ := h
 refine gDC 10 hs154 [2] (by kernel_rfl) rfl (by kernel_rfl) rfl rfl .rfl ⟨⟨_, rfl, ⟨rfl, rfl, (ak _ aa.w (fun _ => rfl) (p0 ++ [(aa.mk c [105, 102])])).symm⟩⟩, trivial⟩ (by kernel_rfl) rfl ?_
 rintro _ _ ⟨rfl, rfl⟩
 refine gHR 4 (List.map aa.w a) rfl (ak _ aa.w (fun _ => rfl) a) rfl <| gDr [(11, 0)] (by kernel_rfl) rfl rfl <| gDe (by kernel_rfl) <| gR 2 rfl <| gDs [] 12 12 rfl (by kernel_rfl) (by kernel_rfl) <| gDr [(0, 2), (1, 2), (6, 2), (7, 2)] (by kernel_rfl) rfl rfl ?_
 obtain ⟨i, hxt23_4, h⟩ := h
 refine gYd 8 rfl (by kernel_rfl) (bO (aK hxt23_4) ab rfl rfl rfl rfl) rfl rfl <| gDr [(9, 2)] (by kernel_rfl) rfl rfl ?_
 obtain ⟨d, hs155, h⟩ := h
 refine bw 2 hs155 (by kernel_rfl) rfl (by kernel_rfl) rfl rfl .rfl rfl rfl ?_
 refine gDr [(3, 0), (4, 0)] (by kernel_rfl) rfl rfl ?_
 obtain ⟨hb, h⟩ := h
 refine cz 5 (.repl 4 (.row 39 2 (List.map aa.w (a ++ [(aa.mk d [116, 104, 101, 110])])))) rfl (by kernel_rfl) (bT ab rfl rfl rfl rfl rfl (apM aa.w a (aa.mk d [116, 104, 101, 110])) (by rw [aY]; exact hb)) (okR rfl) rfl (by kernel_rfl) rfl rfl ?_
 obtain ⟨b, hs156, h⟩ := h
 refine gDC 10 hs156 [6] (by kernel_rfl) rfl (by kernel_rfl) rfl rfl .rfl ⟨⟨_, rfl, ⟨rfl, rfl, (ak _ aa.w (fun _ => rfl) (a ++ [(aa.mk d [116, 104, 101, 110])])).symm⟩⟩, trivial⟩ (by kernel_rfl) rfl ?_
 rintro _ _ ⟨rfl, rfl⟩
 refine gHR 8 (List.map aa.w b) rfl (ak _ aa.w (fun _ => rfl) b) rfl <| gDr [(11, 0)] (by kernel_rfl) rfl rfl <| gDe (by kernel_rfl) <| gR 2 rfl <| gDs [] 12 12 rfl (by kernel_rfl) (by kernel_rfl) <| gDr [(0, 2), (1, 2), (6, 2), (7, 2)] (by kernel_rfl) rfl rfl ?_
 obtain ⟨j, hxt23_7, h⟩ := h
 refine gYd 8 rfl (by kernel_rfl) (bO (aK hxt23_7) ab rfl rfl rfl rfl) rfl rfl <| gDr [(9, 2)] (by kernel_rfl) rfl rfl ?_
 obtain ⟨e, hs157, h⟩ := h
 refine bw 2 hs157 (by kernel_rfl) rfl (by kernel_rfl) rfl rfl .rfl rfl rfl ?_
 refine gDr [(3, 0), (4, 0)] (by kernel_rfl) rfl rfl ?_
 obtain ⟨hb, h⟩ := h
 refine cz 5 (.repl 8 (.row 39 2 (List.map aa.w (b ++ [(aa.mk e [101, 108, 115, 101])])))) rfl (by kernel_rfl) (bT ab rfl rfl rfl rfl rfl (apM aa.w b (aa.mk e [101, 108, 115, 101])) (by rw [aY]; exact hb)) (okR rfl) rfl (by kernel_rfl) rfl rfl ?_
 obtain ⟨f, hs158, h⟩ := h
 refine gDC 10 hs158 [10] (by kernel_rfl) rfl (by kernel_rfl) rfl rfl .rfl ⟨⟨_, rfl, ⟨rfl, rfl, (ak _ aa.w (fun _ => rfl) (b ++ [(aa.mk e [101, 108, 115, 101])])).symm⟩⟩, trivial⟩ (by kernel_rfl) rfl ?_
 rintro _ _ ⟨rfl, rfl⟩
 refine gHR 12 (List.map aa.w f) rfl (ak _ aa.w (fun _ => rfl) f) rfl <| gDr [(11, 0)] (by kernel_rfl) rfl rfl <| gDe (by kernel_rfl) <| gR 4 rfl ?_
 subst h
 exact go_sub (F' := (mkF 365 0 [(4, .sl 1)])) (H' := ⟨2, [(1, .row 39 2 (List.map aa.w f))]⟩) [1000, 12] [] rfl hK pq1 ⟨⟨_, rfl, rfl, rfl, (ak _ aa.w (fun _ => rfl) f).symm⟩, trivial⟩ rfl <| go_endD [] ab (rs := [.tmp 4]) rfl rfl ⟨rfl, rfl⟩
theorem gH (m : Nat) (p0 : List aa) (p1 : Tree) (r0 : List aa) (h : ((p1.kind = 20) → gU m p0 p1 r0) ∧ ((p1.kind ≠ 20) → ew m p0 p1 r0)) : eF (m + 1) p0 p1 r0 := by
 intro K hK
 refine gR 6 rfl <| qBeZ 284 285 rfl rfl rfl rfl h (fun h => ?_) fun h => ?_
 exact gR 1 rfl <| gJ (h K hK) [0] [] rfl hK pq2 ⟨⟨_, rfl, rfl, rfl, (ak _ aa.w (fun _ => rfl) p0).symm⟩, trivial⟩ rfl
 exact gR 1 rfl <| gJ (h K hK) [0] [] rfl hK pq3 ⟨⟨_, rfl, rfl, rfl, (ak _ aa.w (fun _ => rfl) p0).symm⟩, trivial⟩ rfl
theorem kC (m : Nat) (p0 : List aa) (p1 : Tree) (r0 : List aa) (h : ∃ b, ae p1 0 b ∧ ∃ c, ae p1 1 c ∧ ∃ d, ae p1 2 d ∧ (p0 ++ [(aa.mk b [108, 101, 116]), (aa.mk c p1.text), (aa.mk d [61])]).length ≤ 1000000000 ∧ ∃ i, p1.kids[0]? = some i ∧ ∃ a, ai (p0 ++ [(aa.mk b [108, 101, 116]), (aa.mk c p1.text), (aa.mk d [61])]) i a ∧ ∃ e, ae p1 3 e ∧ (a ++ [(aa.mk e [105, 110])]).length ≤ 1000000000 ∧ ∃ j, p1.kids[1]? = some j ∧ ∃ g, ai (a ++ [(aa.mk e [105, 110])]) j g ∧ g = r0) : gU (m + 1) p0 p1 r0 := by
 intro K hK
 refine gR 1 rfl <| gDs [] 15 15 rfl (by kernel_rfl) (by kernel_rfl) <| gDr [(0, 2), (1, 2), (4, 2), (6, 2), (7, 2), (9, 2)] (by kernel_rfl) rfl rfl ?_
 obtain ⟨b, hs159, h⟩ := h
 refine bw 2 hs159 (by kernel_rfl) rfl (by kernel_rfl) rfl rfl .rfl rfl rfl ?_
 refine gDr [(3, 2)] (by kernel_rfl) rfl rfl ?_
 obtain ⟨c, hs160, h⟩ := h
 refine bw 5 hs160 (by kernel_rfl) rfl (by kernel_rfl) rfl rfl .rfl rfl rfl ?_
 refine gDr [(8, 2)] (by kernel_rfl) rfl rfl ?_
 obtain ⟨d, hs161, h⟩ := h
 refine bw 10 hs161 (by kernel_rfl) rfl (by kernel_rfl) rfl rfl .rfl rfl rfl ?_
 refine gDr [(11, 0), (12, 0)] (by kernel_rfl) rfl rfl ?_
 obtain ⟨hb, h⟩ := h
 refine cz 13 (.repl 0 (.row 39 2 (List.map aa.w (p0 ++ [(aa.mk b [108, 101, 116]), (aa.mk c p1.text), (aa.mk d [61])])))) rfl (by kernel_rfl) (bT ab rfl rfl rfl rfl rfl (List.map_append (f := aa.w) (l₁ := p0) (l₂ := [(aa.mk b [108, 101, 116]), (aa.mk c p1.text), (aa.mk d [61])])).symm (by rw [aY]; exact hb)) (okR rfl) rfl (by kernel_rfl) rfl rfl ?_
 refine gDr [(14, 0)] (by kernel_rfl) rfl rfl <| gDe (by kernel_rfl) <| gR 2 rfl <| gDs [] 12 12 rfl (by kernel_rfl) (by kernel_rfl) <| gDr [(0, 2), (1, 2), (2, 2)] (by kernel_rfl) rfl rfl ?_
 obtain ⟨i, hxt25_4, h⟩ := h
 refine gYd 3 rfl (by kernel_rfl) (bO (aK hxt25_4) ab rfl rfl rfl rfl) rfl rfl <| gDr [(4, 2), (6, 2)] (by kernel_rfl) rfl rfl ?_
 obtain ⟨a, hs162, h⟩ := h
 refine gDC 5 hs162 [2] (by kernel_rfl) rfl (by kernel_rfl) rfl rfl .rfl ⟨⟨_, rfl, ⟨rfl, rfl, (ak _ aa.w (fun _ => rfl) (p0 ++ [(aa.mk b [108, 101, 116]), (aa.mk c p1.text), (aa.mk d [61])])).symm⟩⟩, trivial⟩ (by kernel_rfl) rfl ?_
 rintro _ _ ⟨rfl, rfl⟩
 refine gHR 4 (List.map aa.w a) rfl (ak _ aa.w (fun _ => rfl) a) rfl ?_
 obtain ⟨e, hs163, h⟩ := h
 refine bw 7 hs163 (by kernel_rfl) rfl (by kernel_rfl) rfl rfl .rfl rfl rfl ?_
 refine gDr [(8, 0), (9, 0)] (by kernel_rfl) rfl rfl ?_
 obtain ⟨hb, h⟩ := h
 refine cz 10 (.repl 4 (.row 39 2 (List.map aa.w (a ++ [(aa.mk e [105, 110])])))) rfl (by kernel_rfl) (bT ab rfl rfl rfl rfl rfl (apM aa.w a (aa.mk e [105, 110])) (by rw [aY]; exact hb)) (okR rfl) rfl (by kernel_rfl) rfl rfl ?_
 refine gDr [(11, 0)] (by kernel_rfl) rfl rfl <| gDe (by kernel_rfl) <| gR 6 rfl ?_
 obtain ⟨j, hxt25_7, h⟩ := h
 refine gY (bO (aK hxt25_7) ab rfl rfl rfl rfl) rfl rfl <| gR 1 rfl ?_
 obtain ⟨g, hs164, h⟩ := h
 refine gC hs164 [6] (by kernel_rfl) rfl rfl .rfl ⟨⟨_, rfl, ⟨rfl, rfl, (ak _ aa.w (fun _ => rfl) (a ++ [(aa.mk e [105, 110])])).symm⟩⟩, trivial⟩ rfl ?_
 rintro _ _ ⟨rfl, rfl⟩
 refine gHR 8 (List.map aa.w g) rfl (ak _ aa.w (fun _ => rfl) g) rfl <| gR 6 rfl ?_
 subst h
 exact go_sub (F' := (mkF 365 0 [(4, .sl 1)])) (H' := ⟨2, [(1, .row 39 2 (List.map aa.w g))]⟩) [1000, 8] [] rfl hK pq1 ⟨⟨_, rfl, rfl, rfl, (ak _ aa.w (fun _ => rfl) g).symm⟩, trivial⟩ rfl <| go_endD [] ab (rs := [.tmp 4]) rfl rfl ⟨rfl, rfl⟩
theorem gE (m : Nat) (p0 : List aa) (p1 : Tree) (r0 : List aa) (h : ((p1.kind = 21) → gW m p0 p1 r0) ∧ ((p1.kind ≠ 21) → eD m p0 p1 r0)) : ew (m + 1) p0 p1 r0 := by
 intro K hK
 refine gR 6 rfl <| qBeZ 317 318 rfl rfl rfl rfl h (fun h => ?_) fun h => ?_
 exact gR 1 rfl <| gJ (h K hK) [0] [] rfl hK pq2 ⟨⟨_, rfl, rfl, rfl, (ak _ aa.w (fun _ => rfl) p0).symm⟩, trivial⟩ rfl
 exact gR 1 rfl <| gJ (h K hK) [0] [] rfl hK pq3 ⟨⟨_, rfl, rfl, rfl, (ak _ aa.w (fun _ => rfl) p0).symm⟩, trivial⟩ rfl
theorem kH (m : Nat) (p0 : List aa) (p1 : Tree) (r0 : List aa) (h : ∃ d, p1.kids[0]? = some d ∧ ∃ a, ai p0 d a ∧ ∃ b, ae p1 0 b ∧ (a ++ [(aa.mk b p1.text)]).length ≤ 1000000000 ∧ ∃ e, p1.kids[1]? = some e ∧ ∃ c, ai (a ++ [(aa.mk b p1.text)]) e c ∧ c = r0) : gW (m + 1) p0 p1 r0 := by
 intro K hK
 refine gR 1 rfl <| gDs [] 14 14 rfl (by kernel_rfl) (by kernel_rfl) <| gDr [(0, 2), (1, 2), (2, 2)] (by kernel_rfl) rfl rfl ?_
 obtain ⟨d, hxt27_1, h⟩ := h
 refine gYd 3 rfl (by kernel_rfl) (bO (aK hxt27_1) ab rfl rfl rfl rfl) rfl rfl <| gDr [(4, 2), (6, 2), (8, 2), (9, 2)] (by kernel_rfl) rfl rfl ?_
 obtain ⟨a, hs165, h⟩ := h
 refine gDC 5 hs165 [0] (by kernel_rfl) rfl (by kernel_rfl) rfl rfl .rfl ⟨⟨_, rfl, ⟨rfl, rfl, (ak _ aa.w (fun _ => rfl) p0).symm⟩⟩, trivial⟩ (by kernel_rfl) rfl ?_
 rintro _ _ ⟨rfl, rfl⟩
 refine gHR 2 (List.map aa.w a) rfl (ak _ aa.w (fun _ => rfl) a) rfl ?_
 obtain ⟨b, hs166, h⟩ := h
 refine bw 7 hs166 (by kernel_rfl) rfl (by kernel_rfl) rfl rfl .rfl rfl rfl ?_
 refine gDr [(10, 0), (11, 0)] (by kernel_rfl) rfl rfl ?_
 obtain ⟨hb, h⟩ := h
 refine cz 12 (.repl 2 (.row 39 2 (List.map aa.w (a ++ [(aa.mk b p1.text)])))) rfl (by kernel_rfl) (bT ab rfl rfl rfl rfl rfl (apM aa.w a (aa.mk b p1.text)) (by rw [aY]; exact hb)) (okR rfl) rfl (by kernel_rfl) rfl rfl ?_
 refine gDr [(13, 0)] (by kernel_rfl) rfl rfl <| gDe (by kernel_rfl) <| gR 6 rfl ?_
 obtain ⟨e, hxt27_4, h⟩ := h
 refine gY (bO (aK hxt27_4) ab rfl rfl rfl rfl) rfl rfl <| gR 1 rfl ?_
 obtain ⟨c, hs167, h⟩ := h
 refine gC hs167 [4] (by kernel_rfl) rfl rfl .rfl ⟨⟨_, rfl, ⟨rfl, rfl, (ak _ aa.w (fun _ => rfl) (a ++ [(aa.mk b p1.text)])).symm⟩⟩, trivial⟩ rfl ?_
 rintro _ _ ⟨rfl, rfl⟩
 refine gHR 6 (List.map aa.w c) rfl (ak _ aa.w (fun _ => rfl) c) rfl <| gR 6 rfl ?_
 subst h
 exact go_sub (F' := (mkF 365 0 [(4, .sl 1)])) (H' := ⟨2, [(1, .row 39 2 (List.map aa.w c))]⟩) [1000, 6] [] rfl hK pq1 ⟨⟨_, rfl, rfl, rfl, (ak _ aa.w (fun _ => rfl) c).symm⟩, trivial⟩ rfl <| go_endD [] ab (rs := [.tmp 4]) rfl rfl ⟨rfl, rfl⟩
theorem gK (m : Nat) (p0 : List aa) (p1 : Tree) (r0 : List aa) (h : ((p1.kind = 22) → ia m p0 p1 r0) ∧ ((p1.kind ≠ 22) → ∃ a, ae p1 0 a ∧ (p0 ++ [(aa.mk a p1.text)]).length ≤ 1000000000 ∧ (p0 ++ [(aa.mk a p1.text)]) = r0)) : eD (m + 1) p0 p1 r0 := by
 intro K hK
 refine gR 6 rfl <| qBeZ 338 339 rfl rfl rfl rfl h (fun h => ?_) fun h => ?_
 exact gR 1 rfl <| gJ (h K hK) [0] [] rfl hK pq2 ⟨⟨_, rfl, rfl, rfl, (ak _ aa.w (fun _ => rfl) p0).symm⟩, trivial⟩ rfl
 refine gR 5 rfl <| gDs [] 9 9 rfl (by kernel_rfl) (by kernel_rfl) <| gDr [(0, 2), (1, 2), (3, 2), (4, 2)] (by kernel_rfl) rfl rfl ?_
 obtain ⟨a, hs168, h⟩ := h
 refine bw 2 hs168 (by kernel_rfl) rfl (by kernel_rfl) rfl rfl .rfl rfl rfl ?_
 refine gDr [(5, 0), (6, 0)] (by kernel_rfl) rfl rfl ?_
 obtain ⟨hb, h⟩ := h
 refine cz 7 (.repl 0 (.row 39 2 (List.map aa.w (p0 ++ [(aa.mk a p1.text)])))) rfl (by kernel_rfl) (bT ab rfl rfl rfl rfl rfl (apM aa.w p0 (aa.mk a p1.text)) (by rw [aY]; exact hb)) (okR rfl) rfl (by kernel_rfl) rfl rfl ?_
 refine gDr [(8, 0)] (by kernel_rfl) rfl rfl <| gDe (by kernel_rfl) <| gR 2 rfl ?_
 subst h
 exact go_sub (F' := (mkF 365 0 [(4, .sl 1)])) (H' := ⟨2, [(1, .row 39 2 (List.map aa.w (p0 ++ [(aa.mk a p1.text)])))]⟩) [1000, 2] [] rfl hK pq1 ⟨⟨_, rfl, rfl, rfl, (ak _ aa.w (fun _ => rfl) (p0 ++ [(aa.mk a p1.text)])).symm⟩, trivial⟩ rfl <| go_endD [] ab (rs := [.tmp 4]) rfl rfl ⟨rfl, rfl⟩
theorem kB (m : Nat) (p0 : List aa) (p1 : Tree) (r0 : List aa) (h : ∃ c, ae p1 0 c ∧ (p0 ++ [(aa.mk c [40])]).length ≤ 1000000000 ∧ ∃ d, p1.kids[0]? = some d ∧ ∃ a, ai (p0 ++ [(aa.mk c [40])]) d a ∧ ∃ b, ae p1 1 b ∧ (a ++ [(aa.mk b [41])]).length ≤ 1000000000 ∧ (a ++ [(aa.mk b [41])]) = r0) : ia (m + 1) p0 p1 r0 := by
 intro K hK
 refine gR 4 rfl ?_
 obtain ⟨c, hs169, h⟩ := h
 refine gC0 hs169 (by kernel_rfl) rfl rfl .rfl rfl <| gR 2 rfl ?_
 obtain ⟨hb, h⟩ := h
 refine gDo (.repl 0 (.row 39 2 (List.map aa.w (p0 ++ [(aa.mk c [40])])))) (bT ab rfl rfl rfl rfl rfl (apM aa.w p0 (aa.mk c [40])) (by rw [aY]; exact hb)) (okR rfl) rfl rfl rfl <| gR 4 rfl <| gDs [] 12 12 rfl (by kernel_rfl) (by kernel_rfl) <| gDr [(0, 2), (1, 2), (2, 2)] (by kernel_rfl) rfl rfl ?_
 obtain ⟨d, hxt29_2, h⟩ := h
 refine gYd 3 rfl (by kernel_rfl) (bO (aK hxt29_2) ab rfl rfl rfl rfl) rfl rfl <| gDr [(4, 2), (6, 2)] (by kernel_rfl) rfl rfl ?_
 obtain ⟨a, hs170, h⟩ := h
 refine gDC 5 hs170 [2] (by kernel_rfl) rfl (by kernel_rfl) rfl rfl .rfl ⟨⟨_, rfl, ⟨rfl, rfl, (ak _ aa.w (fun _ => rfl) (p0 ++ [(aa.mk c [40])])).symm⟩⟩, trivial⟩ (by kernel_rfl) rfl ?_
 rintro _ _ ⟨rfl, rfl⟩
 refine gHR 4 (List.map aa.w a) rfl (ak _ aa.w (fun _ => rfl) a) rfl ?_
 obtain ⟨b, hs171, h⟩ := h
 refine bw 7 hs171 (by kernel_rfl) rfl (by kernel_rfl) rfl rfl .rfl rfl rfl ?_
 refine gDr [(8, 0), (9, 0)] (by kernel_rfl) rfl rfl ?_
 obtain ⟨hb, h⟩ := h
 refine cz 10 (.repl 4 (.row 39 2 (List.map aa.w (a ++ [(aa.mk b [41])])))) rfl (by kernel_rfl) (bT ab rfl rfl rfl rfl rfl (apM aa.w a (aa.mk b [41])) (by rw [aY]; exact hb)) (okR rfl) rfl (by kernel_rfl) rfl rfl ?_
 refine gDr [(11, 0)] (by kernel_rfl) rfl rfl <| gDe (by kernel_rfl) <| gR 4 rfl ?_
 subst h
 exact go_sub (F' := (mkF 365 0 [(4, .sl 1)])) (H' := ⟨2, [(1, .row 39 2 (List.map aa.w (a ++ [(aa.mk b [41])])))]⟩) [1000, 6] [] rfl hK pq1 ⟨⟨_, rfl, rfl, rfl, (ak _ aa.w (fun _ => rfl) (a ++ [(aa.mk b [41])])).symm⟩, trivial⟩ rfl <| go_endD [] ab (rs := [.tmp 4]) rfl rfl ⟨rfl, rfl⟩
def dk (m : Nat) (p1 : Tree) (p2 p3 p4 : Int) (a : List aa) (b : Int) (r0 : List aa) : Prop := ∀ (K : Ctx) (j1 : Nat), aJ K [] → m ≤ j1 → qLG K Try.f47 (fun u G => u = .sl 1 ∧ G = ⟨2, [(1, .row 39 2 (List.map aa.w r0))]⟩) (cL (xF (cB (ah Try.f47)))) [.loop (cL (xF (cB (ah Try.f47)))) j1, .blk 0, .seq (xA (ah Try.f47))] 41 (mkF 41 0 [(0, .sl 0), (2, .int .i64 p2), (3, .int .i64 p3), (4, .int .i64 p4), (6, .box (av p1) 0), (11, .int .i64 b)]) ⟨1, [(0, .row 39 2 (List.map aa.w a))]⟩
theorem mR (m : Nat) (p0 : List aa) (p1 : Tree) (p2 p3 p4 : Int) (r0 : List aa) (h : dk m p1 p2 p3 p4 p0 p2 r0) : cY p0 p1 p2 p3 p4 r0 := by
 refine aA 41 [] Try.func47 rfl rfl rfl (bp rfl) fun K hK => ?_
 exact gR 3 rfl <| gFP 1 rfl rfl rfl rfl <| gR 11 rfl <| go_loop m <| gJ (h K _ hK (by omega)) [0] [] rfl hK pq6 ⟨⟨_, rfl, rfl, rfl, (ak _ aa.w (fun _ => rfl) p0).symm⟩, trivial⟩ rfl
theorem dW (m : Nat) (p1 : Tree) (p2 p3 p4 : Int) (b : List aa) (a : Int) (r0 : List aa) (h : ((a < p3) → ((p2 < a) → InI (p4 + a) ∧ InI ((p4 + a) - p2) ∧ InI (((p4 + a) - p2) - 1) ∧ ∃ c, ae p1 (((p4 + a) - p2) - 1) c ∧ (b ++ [(aa.mk c [44])]).length ≤ 1000000000 ∧ ∃ f, a = ((f : Nat) : Int) ∧ ∃ i, p1.kids[f]? = some i ∧ ∃ d, ai (b ++ [(aa.mk c [44])]) i d ∧ InI (a + 1) ∧ dk m p1 p2 p3 p4 d (a + 1) r0) ∧ ((¬ p2 < a) → ∃ g, a = ((g : Nat) : Int) ∧ ∃ k, p1.kids[g]? = some k ∧ ∃ e, ai b k e ∧ InI (a + 1) ∧ dk m p1 p2 p3 p4 e (a + 1) r0)) ∧ ((¬ a < p3) → b = r0)) : dk (m + 1) p1 p2 p3 p4 b a r0 := by
 intro K j1 hK hj1
 obtain ⟨j1, rfl⟩ : ∃ j, j1 = j + 1 := ⟨j1 - 1, by omega⟩
 refine gR 8 rfl <| gB 15 rfl rfl rfl ?_ ?_ <;> intro hd
 replace hd := (of_decide_eq_true hd)
 replace h := h.1 hd
 refine gR 13 rfl <| gB 20 rfl rfl rfl ?_ ?_ <;> intro hd
 replace hd := (of_decide_eq_true hd)
 replace h := h.1 hd
 refine gR 6 rfl ?_
 obtain ⟨hb, h⟩ := h
 refine gR 1 rfl <| gV 25 (.int .i64 (p4 + a)) rfl (aN hb rfl) rfl <| gR 1 rfl ?_
 obtain ⟨hb, h⟩ := h
 refine gR 1 rfl <| gV 27 (.int .i64 ((p4 + a) - p2)) rfl (aN hb rfl) rfl ?_
 obtain ⟨hb, h⟩ := h
 refine gR 1 rfl <| gV 28 (.int .i64 (((p4 + a) - p2) - 1)) rfl (aN hb rfl) rfl ?_
 obtain ⟨c, hs7, h⟩ := h
 refine gC0 hs7 (by kernel_rfl) rfl rfl .rfl rfl <| gR 2 rfl ?_
 obtain ⟨hb, h⟩ := h
 refine gDo (.repl 0 (.row 39 2 (List.map aa.w (b ++ [(aa.mk c [44])])))) (bT ab rfl rfl rfl rfl rfl (apM aa.w b (aa.mk c [44])) (by rw [aY]; exact hb)) (okR rfl) rfl rfl rfl <| gR 8 rfl ?_
 obtain ⟨f, l, h⟩ := h
 refine gV 36 (.int .i64 ((f : Nat) : Int)) rfl (jl l) rfl ?_
 obtain ⟨i, hxt1_3, h⟩ := h
 refine gY (bO (aK hxt1_3) ab rfl rfl rfl rfl) rfl rfl <| gR 1 rfl ?_
 obtain ⟨d, hs8, h⟩ := h
 refine gC hs8 [2] (by kernel_rfl) rfl rfl .rfl ⟨⟨_, rfl, ⟨rfl, rfl, (ak _ aa.w (fun _ => rfl) (b ++ [(aa.mk c [44])])).symm⟩⟩, trivial⟩ rfl ?_
 rintro _ _ ⟨rfl, rfl⟩
 refine gHR 4 (List.map aa.w d) rfl (ak _ aa.w (fun _ => rfl) d) rfl <| gR 6 rfl ?_
 obtain ⟨hb, h⟩ := h
 exact gR 1 rfl <| gV 17 (.int .i64 (a + 1)) rfl (aN hb rfl) rfl <| gR 2 rfl <| go_xloop <| gJ (h K _ hK (by omega)) [4] [] rfl hK pq6 ⟨⟨_, rfl, rfl, rfl, (ak _ aa.w (fun _ => rfl) d).symm⟩, trivial⟩ rfl
 replace hd := (of_decide_eq_false hd)
 replace h := h.2 hd
 refine gR 8 rfl ?_
 obtain ⟨g, n, h⟩ := h
 refine gV 36 (.int .i64 ((g : Nat) : Int)) rfl (jl n) rfl ?_
 obtain ⟨k, hxt1_6, h⟩ := h
 refine gY (bO (aK hxt1_6) ab rfl rfl rfl rfl) rfl rfl <| gR 1 rfl ?_
 obtain ⟨e, hs9, h⟩ := h
 refine gC hs9 [0] (by kernel_rfl) rfl rfl .rfl ⟨⟨_, rfl, ⟨rfl, rfl, (ak _ aa.w (fun _ => rfl) b).symm⟩⟩, trivial⟩ rfl ?_
 rintro _ _ ⟨rfl, rfl⟩
 refine gHR 2 (List.map aa.w e) rfl (ak _ aa.w (fun _ => rfl) e) rfl <| gR 6 rfl ?_
 obtain ⟨hb, h⟩ := h
 exact gR 1 rfl <| gV 17 (.int .i64 (a + 1)) rfl (aN hb rfl) rfl <| gR 2 rfl <| go_xloop <| gJ (h K _ hK (by omega)) [2] [] rfl hK pq6 ⟨⟨_, rfl, rfl, rfl, (ak _ aa.w (fun _ => rfl) e).symm⟩, trivial⟩ rfl
 replace hd := (of_decide_eq_false hd)
 replace h := h.2 hd
 refine gR 3 rfl <| go_xloopE <| gR 9 rfl ?_
 subst h
 exact go_sub (F' := (mkF 41 0 [(10, .sl 1)])) (H' := ⟨2, [(1, .row 39 2 (List.map aa.w b))]⟩) [1000, 0] [] rfl hK pq1 ⟨⟨_, rfl, rfl, rfl, (ak _ aa.w (fun _ => rfl) b).symm⟩, trivial⟩ rfl <| go_endD [] ab (rs := [.tmp 10]) rfl rfl ⟨rfl, rfl⟩
theorem iW (m : Nat) (p0 : Tree) (p1 : Int) (r0 : List UInt8) (h : ((p1 < (p0.leads.length : Int)) → ∃ a, p1 = ((a : Nat) : Int) ∧ ∃ b, p0.leads[a]? = some b ∧ b = r0) ∧ ((¬ p1 < (p0.leads.length : Int)) → [] = r0)) : ae p0 p1 r0 := by
 refine ⟨rfl, rfl, ?_⟩
 refine aA 15 [] Try.func46 rfl rfl rfl (bp rfl) fun K hK => ?_
 refine gR 3 rfl <| gFP 0 rfl rfl rfl rfl <| gR 10 rfl <| gV 8 (.int .i64 (p0.leads.length : Int)) rfl (cg (aY V.str _)) rfl <| gLB 7 rfl (aY V.str _) fun hl2 => gR 3 rfl <| qBd 9 rfl rfl rfl h (fun h => ?_) fun h => ?_
 refine gR 6 rfl ?_
 obtain ⟨a, c, h⟩ := h
 refine gV 12 (.int .i64 ((a : Nat) : Int)) rfl (jl c) rfl ?_
 obtain ⟨b, hxs0_2, h⟩ := h
 refine gY (bO (mapget (f := V.str) hxs0_2) ab rfl rfl rfl rfl) rfl rfl <| gR 6 rfl ?_
 subst h
 exact go_end ab (rs := [.tmp 4]) rfl rfl rfl
 refine gR 9 rfl ?_
 subst h
 exact go_end ab (rs := [.tmp 4]) rfl rfl rfl
end Go.Proofs.Ytpnpdlnpikkeaaa
namespace Go.Proofs.Ytpnpdlnpikkeaaa
open Go.RowKit Lx Sx
theorem sum0_calls {fid : FuncId} {us : List V} {v : V} (hp1 : pureL us = true) (hp2 : v.pure = true) (h : ∀ (S : Nat → Prop) w ρ xs, LRel S w ρ us xs → Calls Try.prog fid xs.toArray w fun e w' => ∃ x, e = .returned x ∧ VRel S w' ρ v x ∧ Chg [] w w') : mi Try.prog fid us v :=
 ⟨hp1, hp2, fun S w ρ xs hr hx => (h S w ρ xs hx).mono fun e w' ⟨x, h1, h2, hc⟩ =>
  ⟨x, S, ρ, v, _, h1, rfl, hr.chg0 hc, ⟨ChgP.of0 hc, fun _ h => h, fun _ h => .inl h, fun id b hb => .inl ⟨id, hb⟩, fun id x h => by
   simp only [nW] at h
   split at h
   ·exact h
   ·cases h⟩, h2⟩⟩
theorem zD {w w' : World} (h : Ext w w') : Chg [] w w' := Chg.of_ext h []
theorem yR (l : List UInt8) (hl : l.length ≤ 281474976710656) : mi Try.prog 59 [.str l] (.int .i64 (aB l : Nat)) :=
 sum0_calls rfl rfl fun S w ρ xs hx => by
  simp only [LRel] at hx
  obtain ⟨x, ys, rfl, h1, rfl⟩ := hx
  simp only [VRel] at h1; subst h1
  exact (rt l w hl).mono fun e w' ⟨h1, h2⟩ => ⟨_, h1, by simp only [VRel], h2 ▸ Chg.refl _ _⟩
theorem ym (l : List UInt8) (hl : l.length ≤ 281474976710656) : mi Try.prog 69 [.str l] (.int .i64 (aB l : Nat)) :=
 sum0_calls rfl rfl fun S w ρ xs hx => by
  simp only [LRel] at hx
  obtain ⟨x, ys, rfl, h1, rfl⟩ := hx
  simp only [VRel] at h1; subst h1
  exact (An l w hl).mono fun e w' ⟨h1, h2⟩ => ⟨_, h1, by simp only [VRel], zD h2⟩
end Go.Proofs.Ytpnpdlnpikkeaaa
namespace Go.Proofs.Ytpnpdlnpikkeaaa
open Go.RowKit Lx Sx
set_option maxHeartbeats 1000000
def f0 (n : Int) (least leads list : Nat) (most : Int) : Int := if 0 ≤ most ∧ most < n then -1 else if n < least then -1 else if most < 0 ∧ (list : Int) < n then leads + (n - list - 1) else leads
def cO (k n : Int) : Int := if k = 1 then (if n < 0 then -1 else 3) else if k = 2 then f0 n 2 6 2 (-1) else if k = 16 then f0 n 0 3 0 (-1) else if k = 18 then f0 n 1 2 0 (-1) else if k = 3 then f0 n 1 3 0 1 else if k = 4 then f0 n 1 2 0 1 else if k = 8 then f0 n 1 2 0 1 else if k = 22 then f0 n 1 2 0 1 else if k = 17 then f0 n 1 0 0 1 else if k = 19 then f0 n 3 3 0 3 else if k = 20 then f0 n 2 4 0 2 else if k = 21 then f0 n 2 1 0 2 else if k = 5 ∨ k = 6 ∨ k = 7 ∨ k = 9 ∨ k = 10 ∨ k = 11 ∨ k = 12 ∨ k = 13 ∨ k = 14 ∨ k = 15 then f0 n 0 1 0 0 else -1
theorem ld (a b c : Int) : df a b c (if a < b then -1 else c) := nC 0 _ _ _ _ ⟨fun h => by rw [if_pos h], fun h => by rw [if_neg h]⟩
theorem AK (a b c : Int) : bE a b c (if a = b then c else -1) := mI 0 _ _ _ _ ⟨fun h => by rw [if_pos h], fun h => by rw [if_neg h]⟩
theorem AC (m : Nat) {n : Int} (h0 : 0 ≤ n) (h1 : n ≤ 1000000000) (a b c : Nat) (z : Int) (hb : b ≤ 10) (hc : c ≤ 2) (hz : ¬ (0 ≤ z ∧ z < n)) : fO (m + 1) n a b c z (f0 n a b c z) := by
 refine nY m _ _ _ _ _ _ ⟨fun h => ⟨fun h' => ⟨by omega, by omega, by omega, _, ld _ _ _, ?_⟩, fun h' => ⟨_, ld _ _ _, ?_⟩⟩, fun h => ⟨_, ld _ _ _, ?_⟩⟩
 ·simp only [f0, if_neg hz, h, h', true_and, if_true]
 ·simp only [f0, if_neg hz, h, h', true_and, if_false]
 ·simp only [f0, if_neg hz, h, false_and, if_false]
theorem Aw (m : Nat) {n : Int} (h0 : 0 ≤ n) (h1 : n ≤ 1000000000) (a b c : Nat) (z : Int) (hb : b ≤ 10) (hc : c ≤ 2) : az (m + 2) n a b c z (f0 n a b c z) := by
 refine oe (m + 1) _ _ _ _ _ _ ⟨fun h => ⟨fun h' => ?_, fun h' => AC m h0 h1 _ _ _ _ hb hc (by omega)⟩, fun h => AC m h0 h1 _ _ _ _ hb hc (by omega)⟩
 simp [f0, h, h']
theorem nm {k n : Int} (h0 : 0 ≤ n) (h1 : n ≤ 1000000000) : eY k n (cO k n) := by
 have l0 : ∀ {r : Int} (a b c : Nat) (z : Int), b ≤ 10 → c ≤ 2 → r = f0 n a b c z → az 3 n a b c z r := fun a b c z hb hc e => by rw [e]; exact Aw 1 h0 h1 a b c z hb hc
 have l0' : ∀ {r : Int} (a b c : Nat) (z : Int), b ≤ 10 → c ≤ 2 → r = f0 n a b c z → az 4 n a b c z r := fun a b c z hb hc e => by rw [e]; exact Aw 2 h0 h1 a b c z hb hc
 refine oY 4 _ _ _ ?_
 repeat' first | (refine ⟨_, ld _ _ _, ?_⟩) | (refine And.intro (fun _ => ?_) (fun _ => ?_)) | (refine nT 3 _ _ _ _ ?_)
 all_goals first | (refine l0' _ _ _ _ (by decide) (by decide) ?_) | (refine l0 _ _ _ _ (by decide) (by decide) ?_) | skip
 all_goals simp_all [cO]
theorem oh {k n : Int} (h0 : 0 ≤ n) (h1 : n ≤ 1000000000) : dU k n (cO k n) := by
 refine ml 2 _ _ _ ?_
 repeat' first | (refine ⟨_, AK _ _ _, ?_⟩) | (refine And.intro (fun _ => ?_) (fun _ => ?_)) | (refine lI 1 _ _ _ _ ?_) | (refine lH 0 _ _ _ _ ?_) | (refine And.intro (by omega) ?_)
 all_goals simp_all [cO]
 all_goals (try unfold f0)
 all_goals (repeat' split)
 all_goals omega
def nj (x : List UInt8) : Bool := x == [43] || x == [45] || x == [42] || x == [60] || x == [61, 61]
def jG (k : Int) (x : List UInt8) : Bool := if k = 1 ∨ k = 3 then (aB x : Int) == 2 else if k = 2 ∨ k = 4 ∨ k = 12 ∨ k = 20 then (aB x : Int) == 1 else if k = 9 then (aB x : Int) == 2 || (aB x : Int) == 4 else if k = 16 then (aB x : Int) == 1 || (aB x : Int) == 3 else if k = 10 then (aB x : Int) == 5 else if k = 11 then (aB x : Int) == 6 else if k = 21 then nj x else x == []
theorem uD (x : List UInt8) : gO x (nj x) := by
 refine mJ 0 _ _ ?_
 repeat' (refine And.intro (fun _ => ?_) (fun _ => ?_))
 all_goals simp_all [nj]
theorem sY (x : List UInt8) : dS x (nj x) := by
 refine jL 0 _ _ ?_
 repeat' (refine And.intro (fun _ => ?_) (fun _ => ?_))
 all_goals simp_all [nj]
theorem xR (k : Int) (x : List UInt8) (hx : x.length ≤ 281474976710656) : iL k x (jG k x) := by
 refine nU 2 _ _ _ ?_
 refine ⟨_, yR x hx, ?_⟩
 repeat' first | (refine ⟨_, uD _, ?_⟩) | (refine And.intro (fun _ => ?_) (fun _ => ?_)) | (refine nE 1 _ _ _ _ _ ?_) | (refine nD 0 _ _ _ _ _ ?_)
 all_goals simp_all [jG]
theorem wb (k : Int) (x : List UInt8) (hx : x.length ≤ 281474976710656) : eO k x (jG k x) := by
 refine kA 2 _ _ _ ?_
 refine ⟨_, ym x hx, ?_⟩
 repeat' first | (refine ⟨_, sY _, ?_⟩) | (refine And.intro (fun _ => ?_) (fun _ => ?_)) | (refine kf 1 _ _ _ _ _ ?_) | (refine jY 0 _ _ _ _ _ ?_)
 all_goals simp_all [jG]
def jm (k : Int) : Bool := decide (5 ≤ k ∧ k ≤ 9)
def gp (k : Int) : Bool := decide (10 ≤ k ∧ k ≤ 22 ∧ k ≠ 17)
def mv (k : Int) : Bool := gp k && decide (k ≠ 19 ∧ k ≠ 20 ∧ k ≠ 21)
theorem xu (k : Int) : fK k (jm k) := nZ 0 _ _ ⟨fun h => by simp [jm, h], fun h => by simp [jm, h]⟩
theorem vW (k : Int) : dC k (jm k) := lJ 0 _ _ ⟨fun h => by simp [jm, h], fun h => by simp [jm, h]⟩
theorem jP (a b : Int) : (a != b) = decide (a ≠ b) := by by_cases h : a = b <;> simp [h]
theorem ri (k : Int) : cJ k (gp k) := lw 0 _ _ ⟨fun h => ⟨fun h' => by simp [gp, h, h', jP], fun h' => by simp [gp, h, h']⟩, fun h => by simp [gp, h]⟩
theorem qI (k : Int) : cQ k (gp k) := lO 0 _ _ ⟨fun h => ⟨fun h' => by simp [gp, h, h', jP], fun h' => by simp [gp, h, h']⟩, fun h => by simp [gp, h]⟩
theorem yn (k : Int) : iI k (mv k) := by
 refine ou 0 _ _ ⟨_, ri k, ?_⟩
 repeat' (refine And.intro (fun _ => ?_) (fun _ => ?_))
 all_goals simp_all [mv, jP]
theorem wB (k : Int) : fv k (mv k) := by
 refine lD 0 _ _ ⟨_, qI k, ?_⟩
 repeat' (refine And.intro (fun _ => ?_) (fun _ => ?_))
 all_goals simp_all [mv, jP]
def jN (k n : Int) (i : Int) (kk : Int) : Bool := if k = 1 then kk == 2 || kk == 3 else if k = 2 then (if i = n - 1 then gp kk else if i = n - 2 then jm kk else kk == 4) else if k = 3 ∨ k = 4 ∨ k = 8 then jm kk else if k = 16 then kk == 17 else if k = 21 then mv kk || (decide (i = 0) && kk == 21) else gp kk
theorem zL {t u : Tree} {i : Nat} (hu : t.kids[i]? = some u) : je t i (jN t.kind t.kids.length i u.kind) := by
 refine pz 1 _ _ _ ⟨i, rfl, u, hu, ?_⟩
 repeat' first | (refine ⟨_, ri _, ?_⟩) | (refine ⟨_, xu _, ?_⟩) | (refine ⟨_, yn _, ?_⟩) | (refine And.intro (fun _ => ?_) (fun _ => ?_)) | (refine nX 0 _ _ _ _ _ ?_)
 all_goals simp_all [jN]
theorem Bc (t : Tree) (i : Nat) (kk : Int) : gQ t i kk (jN t.kind t.kids.length i kk) := by
 refine mM 1 _ _ _ _ ?_
 repeat' first | (refine ⟨_, qI _, ?_⟩) | (refine ⟨_, vW _, ?_⟩) | (refine ⟨_, wB _, ?_⟩) | (refine And.intro (fun _ => ?_) (fun _ => ?_)) | (refine mF 0 _ _ _ _ _ ?_)
 all_goals simp_all [jN]
mutual
def shapeK : Tree → Bool
 | .node k s _ ks => decide (0 ≤ cO k ks.length) && jG k s && shapeKs k ks.length 0 ks
def shapeKs (k n : Int) : Nat → List Tree → Bool
 | _, [] => true
 | i, t :: r => jN k n i t.kind && shapeK t && shapeKs k n (i + 1) r
end
theorem kY (t : Tree) : shapeK t = (decide (0 ≤ cO t.kind t.kids.length) && jG t.kind t.text && shapeKs t.kind t.kids.length 0 t.kids) := by cases t; simp only [shapeK]; rfl
theorem oE : ∀ t : Tree, tbulk t ≤ 1000000000 → dm t (shapeK t) := fh fun t ih hb => by
 have hk := fx t
 have ht := cx t
 have loop : ∀ m i, t.kids.length - i ≤ m → (0 ≤ cO t.kind t.kids.length ∧ jG t.kind t.text = true) → fw (m + 1) t i (shapeKs t.kind t.kids.length i (t.kids.drop i)) := fun m => by
  induction m with
  | zero =>
   intro i hi hw
   refine jE 0 _ _ _ ⟨fun h => by omega, fun h => ?_⟩
   rw [List.drop_of_length_le (by omega), shapeKs]
  | succ m ihm =>
   intro i hi hw
   refine jE (m + 1) _ _ _ ⟨fun h => ?_, fun h => ?_⟩
   ·obtain ⟨u, hu, _⟩ | h' := aX t.kids i
    ·rw [bv hu, shapeKs]
     have hbu := ej hu
     refine ⟨u, hu, _, zL hu, fun h1 => by simp [h1], fun h1 => ⟨_, ih i u hu (by omega), fun h2 => by simp [h1, h2], fun h2 => ⟨by omega, ?_⟩⟩⟩
     simp only [h1, h2, Bool.true_and]
     exact ihm (i + 1) (by omega) hw
    ·exact absurd h h'
   ·rw [List.drop_of_length_le (by omega), shapeKs]
 rw [kY]
 refine nV (t.kids.length + 1) _ _ ⟨_, nm (by omega) (by omega), fun h => ?_, fun h => ⟨_, xR _ _ (by omega), fun h1 => by simp [h1], fun h1 => ?_⟩⟩
 ·rw [decide_eq_false (by omega)]; rfl
 ·rw [decide_eq_true (by omega), h1]
  exact loop _ 0 (by omega) ⟨by omega, h1⟩
theorem wP : ∀ t : Tree, tbulk t ≤ 1000000000 → dE t (shapeK t) := fh fun t ih hb => by
 have hk := fx t
 have ht := cx t
 have loop : ∀ m i, t.kids.length - i ≤ m → dn (m + 1) t i (shapeKs t.kind t.kids.length i (t.kids.drop i)) := fun m => by
  induction m with
  | zero =>
   intro i hi
   refine ie 0 _ _ _ ⟨fun h => by omega, fun h => ?_⟩
   rw [List.drop_of_length_le (by omega), shapeKs]
  | succ m ihm =>
   intro i hi
   refine ie (m + 1) _ _ _ ⟨fun h => ?_, fun h => ?_⟩
   ·obtain ⟨u, hu, _⟩ | h' := aX t.kids i
    ·rw [bv hu, shapeKs]
     have hbu := ej hu
     refine ⟨u, hu, _, Bc _ _ _, fun h1 => by simp [h1], fun h1 => ⟨u, hu, _, ih i u hu (by omega), fun h2 => by simp [h1, h2], fun h2 => ?_⟩⟩
     simp only [h1, h2, Bool.true_and]
     exact ihm (i + 1) (by omega)
    ·exact absurd h h'
   ·rw [List.drop_of_length_le (by omega), shapeKs]
 rw [kY]
 refine lE (t.kids.length + 1) _ _ ⟨_, oh (by omega) (by omega), fun h => ?_, fun h => ⟨_, wb _ _ (by omega), fun h1 => by simp [h1], fun h1 => ?_⟩⟩
 ·rw [decide_eq_false (by omega)]; rfl
 ·rw [decide_eq_true (by omega), h1]
  exact loop _ 0 (by omega)
end Go.Proofs.Ytpnpdlnpikkeaaa
namespace Go.Proofs.Ytpnpdlnpikkeaaa
open Go.RowKit Lx Sx
set_option maxHeartbeats 1000000
def Dc (L : List Int) (a : Int) : Prop := 0 ≤ a ∧ a ≤ L.length ∧ L.length ≤ 1000000000
def Gt (L : List Int) (C : Tree → Int → Prop) (B : Nat) : Prop := ∃ t a', C t a' ∧ Dc L a' ∧ tbulk t ≤ B
theorem Gt.map {L : List Int} {C C' : Tree → Int → Prop} {B B' : Nat} (h : Gt L C B) (hb : B ≤ B') (k : ∀ t a', C t a' → C' t a') : Gt L C' B' := by
 obtain ⟨t, a', h1, h2, h3⟩ := h; exact ⟨t, a', k t a' h1, h2, by omega⟩
section
variable {L : List Int} {d a z : Int} {t : Tree} {a' : Int} {m : Nat}
end
end Go.Proofs.Ytpnpdlnpikkeaaa
namespace Go.Proofs.Ytpnpdlnpikkeaaa
open Go.RowKit Lx
set_option maxRecDepth 100000
set_option maxHeartbeats 1000000 in
theorem zb (l : List UInt8) (fin : Bool) (w : World) (hl : l.length ≤ 281474976710656) : Calls Try.prog 45 #[.string ⟨l.toArray⟩, .bool fin] w fun e w' => e = .returned (.bool (aL false l fin)) ∧ w = w' := by
  obtain ⟨n, b, hLd⟩ : ∃ n b, ay false l 0 = (n, b) := ⟨_, _, rfl⟩
  have hnl : n ≤ l.length := by have h := jW false l 0; rw [hLd] at h; simpa using h
  have HLd := Lib.hid hLd
  have HW := Lib.hid (show fD false l = (b.isNone && n == l.length) from by rw [fD, hLd])
  have HT := Lib.hid (oS l false fin)
  clear hLd
  go_enter Try.func45, Try.ntmps45
  go_wp2_with fail
  refine (Bf l 0 0 rfl _ (Nat.zero_le _) hl).mono ?_
  rintro e w' ⟨rfl, rfl⟩
  rw [List.drop_zero, HLd.out]
  cases b with
  | some q =>
    have hq2 : rn 0 (some q) = ((0 + q : Nat) : Int) := rfl
    rw [hq2, Nat.zero_add]
    have hq : (0 : Int) ≤ (q : Int) := by omega
    have HF := Lib.hid (show aL false l fin = false from by rw [HT.out, HW.out]; rfl)
    go_wp2
    go_ret
    exact ⟨aW HF.out.symm, rfl⟩
  | none =>
    have hq2 : rn 0 none = -1 := rfl
    rw [hq2]
    clear hq2
    by_cases hn : n < l.length
    · have HF := Lib.hid (show aL      false l fin = false from by rw [HT.out, HW.out]; have : (n == l.length) = false := by simp; omega
                                                                   rw [this]; rfl)
      go_wp2
      go_ret
      exact ⟨aW HF.out.symm, rfl⟩
    · have hnb : decide (n < l.length) = false := by simpa using hn
      have HF := Lib.hid (show aL false l fin = (!fi false l || fin) from by
        rw [HT.out, HW.out]; have : (n == l.length) = true := by simp; omega
        rw [this]; rfl)
      cases fin with
      | true =>
        go_wp2
        go_ret
        exact ⟨aW (by rw [HF.out]; simp), rfl⟩
      | false =>
        obtain ⟨r, hr⟩ : ∃ r, fi false l = r := ⟨_, rfl⟩
        have HR := Lib.hid hr; clear hr
        go_wp2
        go_loopg [7, 8] l.length (fun g s7 s8 wx => ∃ (i : Nat) (c : Bool), g = l.length - i ∧ wx = w ∧ i ≤ l.length ∧ s7 = .bool c ∧ s8 = .int .i64 i ∧ Hid (fi c (l.drop i) = r))
        case atStart => exact ⟨0, false, rfl, rfl, Nat.zero_le _, rfl, rfl, Lib.hid (by simpa using HR.out)⟩
        case round =>
          obtain ⟨i, c, rfl, rfl, hil, rfl, rfl, HC⟩ := hrel
          by_cases hit : i < l.length
          rotate_left
          · have HF2 := Lib.hid (show c = r from by rw [← HC.out, sU (by omega)])
            go_wp2_with fail
            go_ret
            exact ⟨aW (by rw [HF.out, HR.out, HF2.out]; simp), rfl⟩
          obtain ⟨x, hx⟩ : ∃ c, ({ data := l.toArray } : ByteArray)[i]'hit = c := ⟨_, rfl⟩
          have HXi := Lib.hid (show l[i] = x from hx)
          have HS := Lib.hid (HC.out.symm.trans (qM hit HXi.out))
          clear HC
          cases h35 : ((x.toNat : Int) == 35) <;> cases h10 : ((x.toNat : Int) == 10)
          · go_wp2
            go_roundg (l.length - (i + 1))
            case measure => omega
            case rel => exact ⟨i + 1, c, rfl, rfl, by omega, rfl, by go_num, Lib.hid (by rw [HS.out, if_neg (bf (m := 10) h10), if_neg (bf (m := 35) h35)])⟩
          · go_wp2
            go_roundg (l.length - (i + 1))
            case measure => omega
            case rel => exact ⟨i + 1, false, rfl, rfl, by omega, rfl, by go_num, Lib.hid (by rw [HS.out, if_pos (bJ (m := 10) h10)])⟩
          · go_wp2
            go_roundg (l.length - (i + 1))
            case measure => omega
            case rel => exact ⟨i + 1, true, rfl, rfl, by omega, rfl, by go_num, Lib.hid (by rw [HS.out, if_neg (bf (m := 10) h10), if_pos (bJ (m := 35) h35)])⟩
          · have h1 := bJ (m := 10) h10
            have h2 := bJ (m := 35) h35
            omega
end Go.Proofs.Ytpnpdlnpikkeaaa
