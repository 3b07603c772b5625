/- The interpreter for numbers that are known, in small steps that the kernel takes quickly. -/
import Derived.Test.YtehnbdbhjeffaaaGreatGz42
set_option linter.all false
section
set_option autoImplicit false
namespace Gx
open Go Go.RowKit

def kw64 (n : Int) : Int := match n with
 | .ofNat m => bif Nat.ble m 9223372036854775807 then .ofNat m else IntKind.i64.wrap (.ofNat m)
 | .negSucc m => bif Nat.ble m 9223372036854775807 then .negSucc m else IntKind.i64.wrap (.negSucc m)
theorem kw64_eq (n : Int) : kw64 n = IntKind.i64.wrap n := by
 cases n with
 | ofNat m =>
  simp only [kw64]
  by_cases h : Nat.ble m 9223372036854775807 = true
  ·rw [h, cond_true, IntKind.wrap_i64]
   have h := Nat.le_of_ble_eq_true h
   have e : Int.ofNat m = (m : Int) := rfl
   rw [e]
   omega
  ·rw [Bool.eq_false_iff.2 h, cond_false]
 | negSucc m =>
  simp only [kw64]
  by_cases h : Nat.ble m 9223372036854775807 = true
  ·rw [h, cond_true, IntKind.wrap_i64]
   have h := Nat.le_of_ble_eq_true h
   have e : Int.negSucc m = -((m : Int) + 1) := Int.negSucc_eq m
   rw [e]
   omega
  ·rw [Bool.eq_false_iff.2 h, cond_false]
def kwr (k : IntKind) (n : Int) : Int := match k with
 | .i64 => kw64 n
 | k => k.wrap n
theorem kwr_eq (k : IntKind) (n : Int) : kwr k n = k.wrap n := by
 cases k <;> first | rfl | exact kw64_eq n
def klt (a b : Int) : Bool := match a with
 | .ofNat m => match b with
  | .ofNat n => Nat.blt m n
  | .negSucc _ => false
 | .negSucc m => match b with
  | .ofNat _ => true
  | .negSucc n => Nat.blt n m
theorem klt_eq (a b : Int) : klt a b = decide (a < b) := by
 cases a with
 | ofNat m =>
  cases b with
  | ofNat n =>
   show Nat.blt m n = _
   have e1 : Int.ofNat m = (m : Int) := rfl
   have e2 : Int.ofNat n = (n : Int) := rfl
   rw [e1, e2]
   by_cases h : m < n
   ·rw [decide_eq_true (by omega)]; exact Nat.ble_eq_true_of_le h
   ·rw [decide_eq_false (by omega)]
    exact Bool.eq_false_iff.2 (fun hb => h (Nat.le_of_ble_eq_true hb))
  | negSucc n =>
   show false = _
   have e1 : Int.ofNat m = (m : Int) := rfl
   have e2 : Int.negSucc n = -((n : Int) + 1) := Int.negSucc_eq n
   rw [e1, e2, decide_eq_false (by omega)]
 | negSucc m =>
  cases b with
  | ofNat n =>
   show true = _
   have e1 : Int.negSucc m = -((m : Int) + 1) := Int.negSucc_eq m
   have e2 : Int.ofNat n = (n : Int) := rfl
   rw [e1, e2, decide_eq_true (by omega)]
  | negSucc n =>
   show Nat.blt n m = _
   have e1 : Int.negSucc m = -((m : Int) + 1) := Int.negSucc_eq m
   have e2 : Int.negSucc n = -((n : Int) + 1) := Int.negSucc_eq n
   rw [e1, e2]
   by_cases h : n < m
   ·rw [decide_eq_true (by omega)]; exact Nat.ble_eq_true_of_le h
   ·rw [decide_eq_false (by omega)]
    exact Bool.eq_false_iff.2 (fun hb => h (Nat.le_of_ble_eq_true hb))
def keqI (a b : Int) : Bool := match a with
 | .ofNat m => match b with
  | .ofNat n => Nat.beq m n
  | .negSucc _ => false
 | .negSucc m => match b with
  | .ofNat _ => false
  | .negSucc n => Nat.beq n m
theorem nat_beq (m n : Nat) : Nat.beq m n = decide (m = n) := by
 by_cases h : m = n
 ·rw [decide_eq_true h, h]; exact Nat.beq_refl n
 ·rw [decide_eq_false h]; exact Bool.eq_false_iff.2 (fun hb => h (Nat.eq_of_beq_eq_true hb))
theorem keqI_eq (a b : Int) : keqI a b = decide (a = b) := by
 cases a with
 | ofNat m =>
  cases b with
  | ofNat n =>
   show Nat.beq m n = _
   rw [nat_beq]
   exact decide_eq_decide.2 ⟨fun h => by rw [h], fun h => Int.ofNat.inj h⟩
  | negSucc n =>
   show false = _
   rw [decide_eq_false (fun h => by cases h)]
 | negSucc m =>
  cases b with
  | ofNat n =>
   show false = _
   rw [decide_eq_false (fun h => by cases h)]
  | negSucc n =>
   show Nat.beq n m = _
   rw [nat_beq]
   exact decide_eq_decide.2 ⟨fun h => by rw [h], fun h => (Int.negSucc.inj h).symm⟩
def kkn (k : IntKind) : Nat := match k with
 | .i8 => 0 | .i16 => 1 | .i32 => 2 | .i64 => 3 | .u8 => 4 | .u16 => 5 | .u32 => 6 | .u64 => 7
def keqK (k k' : IntKind) : Bool := Nat.beq (kkn k) (kkn k')
theorem keqK_eq (k k' : IntKind) : keqK k k' = decide (k = k') := by cases k <;> cases k' <;> rfl
def w2y (f : IntKind → Int → Int → Option Value) (x y : Value) : Option Value := match x with
 | .int k a => match y with
  | .int k' b => bif keqK k k' then f k a b else none
  | _ => none
 | _ => none
def fAdd (k : IntKind) (a b : Int) : Option Value := some (.int k (kwr k (Int.add a b)))
def fSub (k : IntKind) (a b : Int) : Option Value := some (.int k (kwr k (Int.sub a b)))
def fMul (k : IntKind) (a b : Int) : Option Value := some (.int k (kwr k (Int.mul a b)))
def fQuo (k : IntKind) (a b : Int) : Option Value := bif keqI b 0 then none else some (.int k (kwr k (Int.tdiv a b)))
def fRem (k : IntKind) (a b : Int) : Option Value := bif keqI b 0 then none else some (.int k (Int.tmod a b))
def fEql (_ : IntKind) (a b : Int) : Option Value := some (.bool (keqI a b))
def fNeq (_ : IntKind) (a b : Int) : Option Value := some (.bool (not (keqI a b)))
def fLss (_ : IntKind) (a b : Int) : Option Value := some (.bool (klt a b))
def fLeq (_ : IntKind) (a b : Int) : Option Value := some (.bool (not (klt b a)))
def fGtr (_ : IntKind) (a b : Int) : Option Value := some (.bool (klt b a))
def fGeq (_ : IntKind) (a b : Int) : Option Value := some (.bool (not (klt a b)))
def kbinI (op : BinOp) (x y : Value) : Option Value := match op with
 | .add => w2y fAdd x y
 | .sub => w2y fSub x y
 | .mul => w2y fMul x y
 | .quo => w2y fQuo x y
 | .rem => w2y fRem x y
 | .eql => w2y fEql x y
 | .neq => w2y fNeq x y
 | .lss => w2y fLss x y
 | .leq => w2y fLeq x y
 | .gtr => w2y fGtr x y
 | .geq => w2y fGeq x y
 | _ => none
def kOr (x : Option Value) (y : Option Value) : Option Value := match x with
 | some v => some v
 | none => y
def kbin (P : Program) (op : BinOp) (t : TypeId) (x y : Value) : Option Value := kOr (kbinI op x y) (ibin P op t x y)
theorem kbin_eq {P : Program} {op : BinOp} {t : TypeId} {x y v : Value} (h : kbin P op t x y = some v) : ibin P op t x y = some v := by
 unfold kbin kOr at h
 split at h
 ·rename_i v' h1
  injection h with h; subst h
  have key : ∀ f, w2y f x y = some v' → ∃ k a b, x = .int k a ∧ y = .int k b ∧ f k a b = some v' := by
   intro f h
   unfold w2y at h
   split at h
   ·rename_i k a
    split at h
    ·rename_i k' b
     rw [keqK_eq] at h
     by_cases hk : k = k'
     ·subst hk
      rw [decide_eq_true rfl] at h
      exact ⟨k, a, b, rfl, rfl, h⟩
     ·rw [decide_eq_false hk] at h; cases h
    ·cases h
   ·cases h
  unfold kbinI at h1
  split at h1
  ·obtain ⟨k, a, b, rfl, rfl, h2⟩ := key _ h1
   injection h2 with h2; subst h2
   simp only [ibin, if_true, kwr_eq]; rfl
  ·obtain ⟨k, a, b, rfl, rfl, h2⟩ := key _ h1
   injection h2 with h2; subst h2
   simp only [ibin, if_true, kwr_eq]; rfl
  ·obtain ⟨k, a, b, rfl, rfl, h2⟩ := key _ h1
   injection h2 with h2; subst h2
   simp only [ibin, if_true, kwr_eq]; rfl
  ·obtain ⟨k, a, b, rfl, rfl, h2⟩ := key _ h1
   unfold fQuo at h2
   rw [keqI_eq] at h2
   by_cases hb : b = 0
   ·rw [decide_eq_true hb] at h2; cases h2
   ·rw [decide_eq_false hb] at h2
    injection h2 with h2; subst h2
    simp only [ibin, kwr_eq]
    rw [if_pos ⟨trivial, hb⟩]
  ·obtain ⟨k, a, b, rfl, rfl, h2⟩ := key _ h1
   unfold fRem at h2
   rw [keqI_eq] at h2
   by_cases hb : b = 0
   ·rw [decide_eq_true hb] at h2; cases h2
   ·rw [decide_eq_false hb] at h2
    injection h2 with h2; subst h2
    simp only [ibin]
    rw [if_pos ⟨trivial, hb⟩]
  ·obtain ⟨k, a, b, rfl, rfl, h2⟩ := key _ h1
   injection h2 with h2; subst h2
   simp only [ibin, if_true, keqI_eq]; rfl
  ·obtain ⟨k, a, b, rfl, rfl, h2⟩ := key _ h1
   injection h2 with h2; subst h2
   simp only [ibin, if_true, keqI_eq]; rfl
  ·obtain ⟨k, a, b, rfl, rfl, h2⟩ := key _ h1
   injection h2 with h2; subst h2
   simp only [ibin, if_true, klt_eq]
  ·obtain ⟨k, a, b, rfl, rfl, h2⟩ := key _ h1
   injection h2 with h2; subst h2
   simp only [ibin, if_true, klt_eq]
   congr 2
   rw [← decide_not]
   exact decide_eq_decide.2 ⟨fun h => by omega, fun h => by omega⟩
  ·obtain ⟨k, a, b, rfl, rfl, h2⟩ := key _ h1
   injection h2 with h2; subst h2
   simp only [ibin, if_true, klt_eq]
  ·obtain ⟨k, a, b, rfl, rfl, h2⟩ := key _ h1
   injection h2 with h2; subst h2
   simp only [ibin, if_true, klt_eq]
   congr 2
   rw [← decide_not]
   exact decide_eq_decide.2 ⟨fun h => by omega, fun h => by omega⟩
  ·cases h1
 ·exact h
noncomputable def ET.gt : ET → Nat → Value := ET.rec (fun _ => undef) (fun v _ _ gl gr n => Nat.rec v (fun m _ => bif Nat.beq (m % 2) 0 then gl (m / 2) else gr (m / 2)) n)
theorem ET.gt_eq : ∀ (t : ET), t.gt = t.get
 | .nil => rfl
 | .node v l r => by
  have h1 := ET.gt_eq l
  have h2 := ET.gt_eq r
  funext n
  cases n with
  | zero => rfl
  | succ m =>
   show (bif Nat.beq (m % 2) 0 then l.gt (m / 2) else r.gt (m / 2)) = _
   rw [h1, h2]; rfl
noncomputable def kev (T : ET) (x : Operand) : Value := match x with
 | .tmp t => T.gt t
 | .const v => bif kok v then v else junk
 | .global _ => junk
 | .func f => .func (.func f) #[] #[]
theorem q4v (T : ET) (x : Operand) : kev T x = ev T.get x := by
 cases x with
 | tmp t => show T.gt t = _; rw [ET.gt_eq]; rfl
 | const v =>
  show (bif kok v then v else junk) = if kok v = true then v else junk
  by_cases h : kok v = true
  ·rw [h]; rfl
  ·rw [Bool.eq_false_iff.2 h]; rfl
 | global g => rfl
 | func f => rfl
def kpick (c a b : Value) : Option Value := match c with
 | .bool t => some (bif t then a else b)
 | _ => none
def kH (v : Option Value) (H : Heap) : Option (Value × Heap) := match v with
 | some v => some (v, H)
 | none => none
def kSt (H : Option Heap) : Option (Value × Heap) := match H with
 | some H => some (undef, H)
 | none => none
def kext (x : Value) (i : Nat) : Option Value := match x with
 | .tuple vs => vs[i]?
 | _ => none
noncomputable def kmap (T : ET) : List Operand → List Value := List.rec [] (fun x _ r => kev T x :: r)
theorem kmap_eq (T : ET) : ∀ l : List Operand, kmap T l = l.map (ev T.get)
 | [] => rfl
 | x :: l => by show kev T x :: kmap T l = _; rw [q4v, kmap_eq T l]; rfl
noncomputable def kcallV (P : Program) (call : q0l) (lk : Nat) (f : Value) (args : List Value) (H : Heap) : Option (Value × Heap) := match f with
 | .func (.func g) first cap => bif Nat.beq first.size 0 then q3g P call lk g (args ++ cap.toList) H else none
 | _ => none
noncomputable def kcallO (P : Program) (call : q0l) (lk : Nat) (c : Call) (T : ET) (H : Heap) : Option (Value × Heap) := match c.callee with
 | .value f => kcallV P call lk (kev T f) (kmap T c.args.toList) H
 | _ => iop P call lk (.call c) T.gt H
noncomputable def kiop (P : Program) (call : q0l) (lk : Nat) (o : Op) (T : ET) (H : Heap) : Option (Value × Heap) := match o with
 | .move x => some (kev T x, H)
 | .assign x => some (kev T x, H)
 | .pick c a b => kH (kpick (kev T c) (kev T a) (kev T b)) H
 | .binOp op t x y _ => kH (kbin P op t (kev T x) (kev T y)) H
 | .load t a => kH (q2n P H t (kev T a)) H
 | .store t a x => kSt (q3c P lk H t (kev T a) (kev T x))
 | .fieldAddr t x i => kH (q3l P t (kev T x) i) H
 | .indexAddr t x ix => kH (q0i P t (kev T x) (kev T ix)) H
 | .extract x i => kH (kext (kev T x) i) H
 | .call c => kcallO P call lk c T H
 | o => iop P call lk o T.gt H
theorem kiop_eq {P : Program} {call : q0l} {lk : Nat} {o : Op} {T : ET} {H : Heap} {r : Value × Heap} (h : kiop P call lk o T H = some r) : iop P call lk o T.get H = some r := by
 unfold kiop at h
 split at h
 ·rw [q4v] at h; exact h
 ·rw [q4v] at h; exact h
 ·rw [q4v, q4v, q4v] at h
  unfold kH kpick at h
  simp only [iop]
  split at h
  ·rename_i v hv
   split at hv
   ·rename_i t ht
    rw [ht]
    injection hv with hv; subst hv
    cases t <;> exact h
   ·cases hv
  ·cases h
 ·rw [q4v, q4v] at h
  unfold kH at h
  simp only [iop]
  split at h
  ·rename_i v hv
   rw [kbin_eq hv]; exact h
  ·cases h
 ·rw [q4v] at h
  unfold kH at h
  simp only [iop]
  split at h
  ·rename_i v hv
   rw [hv]; exact h
  ·cases h
 ·rw [q4v, q4v] at h
  unfold kSt at h
  simp only [iop]
  split at h
  ·rename_i v hv
   rw [hv]; exact h
  ·cases h
 ·rw [q4v] at h
  unfold kH at h
  simp only [iop]
  split at h
  ·rename_i v hv
   rw [hv]; exact h
  ·cases h
 ·rw [q4v, q4v] at h
  unfold kH at h
  simp only [iop]
  split at h
  ·rename_i v hv
   rw [hv]; exact h
  ·cases h
 ·rw [q4v] at h
  unfold kH kext at h
  simp only [iop]
  split at h
  ·rename_i v hv
   split at hv
   ·rename_i vs hvs
    rw [hvs]
    simp only [hv]; exact h
   ·cases hv
  ·cases h
 ·rename_i c
  unfold kcallO at h
  split at h
  ·rename_i f hf
   rw [q4v, kmap_eq] at h
   unfold kcallV at h
   split at h
   ·rename_i g first cap hg
    cases hb : Nat.beq first.size 0 with
    | false => rw [hb] at h; cases h
    | true =>
     rw [hb] at h
     simp only [iop]
     simp only [hf, hg]
     rw [if_pos (Nat.eq_of_beq_eq_true hb)]
     exact h
   ·cases h
  ·rw [ET.gt_eq] at h; exact h
 ·rw [ET.gt_eq] at h; exact h
noncomputable def klit (draw : Bool) (op : Op) (x : Option (Value × Heap)) : Option (Value × Heap) := match draw with
 | false => x
 | true => x.map (litR true op)
theorem klit_eq (draw : Bool) (op : Op) (x : Option (Value × Heap)) : klit draw op x = x.map (litR draw op) := by
 cases draw with
 | true => rfl
 | false =>
  show x = _
  cases x with
  | none => rfl
  | some r => rw [Option.map_some, w2w]
noncomputable def kstepG (P : Program) (call : q0l) (draw : Bool) (lk : Nat) (ops : Array Oper) (o : Oper) (T : ET) (H : Heap) : Option (Value × Heap) := match w3z ops o T.gt with
 | none => none
 | some false => some (undef, H)
 | some true => klit draw o.op (kiop P call lk o.op T H)
noncomputable def kstep1 (P : Program) (call : q0l) (draw : Bool) (lk : Nat) (ops : Array Oper) (o : Oper) (T : ET) (H : Heap) : Option (Value × Heap) := match o.guard with
 | none => klit draw o.op (kiop P call lk o.op T H)
 | some _ => kstepG P call draw lk ops o T H
noncomputable def klk (ops : Array Oper) (draw : Bool) (lk : Nat) (o : Op) (H : Heap) : Nat := match draw with
 | false => lk
 | true => bif loud ops o then lk else H.length
theorem klit_iop {P : Program} {call : q0l} {lk : Nat} {draw : Bool} {op : Op} {T : ET} {H : Heap} {r : Value × Heap} (h : klit draw op (kiop P call lk op T H) = some r) : (iop P call lk op T.get H).map (litR draw op) = some r := by
 rw [klit_eq] at h
 obtain ⟨q, h1, h2⟩ := Option.map_eq_some_iff.1 h
 rw [kiop_eq h1, Option.map_some, h2]
theorem kstep1_eq {P : Program} {call : q0l} {lk : Nat} {draw : Bool} {ops : Array Oper} {o : Oper} {T : ET} {H : Heap} {r : Value × Heap} (h : kstep1 P call draw (klk ops draw lk o.op H) ops o T H = some r) : q4g P call lk draw ops o T.get H = some r := by
 have hl : klk ops draw lk o.op H = if draw && !loud ops o.op then H.length else lk := by
  unfold klk
  cases draw with
  | false => rfl
  | true => cases loud ops o.op <;> rfl
 rw [hl] at h
 unfold kstep1 at h
 unfold q4g
 split at h
 ·rename_i hg
  have hw : w3z ops o T.get = some true := by unfold w3z; rw [hg]
  rw [hw]
  exact klit_iop h
 ·unfold kstepG at h
  rw [ET.gt_eq] at h
  split at h
  ·cases h
  ·rename_i hw; rw [hw]; exact h
  ·rename_i hw; rw [hw]; exact klit_iop h
inductive KR where
 | no
 | go (T : ET) (H : Heap)
 | ex (id : Nat) (T : ET) (H : Heap)
 | rt (T : ET) (H : Heap)
noncomputable def kopsP (ih : ET → Heap → KR) (T : Option ET) (H : Heap) : KR := match T with
 | some T => ih T H
 | none => .no
noncomputable def kopsN (ih : ET → Heap → KR) (d : Option Nat) (T : ET) (r : Option (Value × Heap)) : KR := match r with
 | some (v, H') => kopsP ih (kput T d v) H'
 | none => .no
noncomputable def kopsF (P : Program) (call : q0l) (lk : Nat) (draw : Bool) (ops : Array Oper) : List Oper → ET → Heap → KR :=
 List.rec (fun T H => .go T H) (fun o _ ih T H => kopsN ih o.dst T (kstep1 P call draw (klk ops draw lk o.op H) ops o T H))
theorem kopsF_eq {P : Program} {call : q0l} {lk : Nat} {draw : Bool} {ops : Array Oper} : ∀ (l : List Oper) (T : ET) (H : Heap) (T' : ET) (H' : Heap), kopsF P call lk draw ops l T H = .go T' H' → kops P call lk draw ops l T H = some (T', H')
 | [], T, H, T', H', h => by
  injection h with h1 h2
  subst h1; subst h2; rfl
 | o :: l, T, H, T', H', h => by
  change kopsN (kopsF P call lk draw ops l) o.dst T (kstep1 P call draw (klk ops draw lk o.op H) ops o T H) = _ at h
  unfold kopsN kopsP at h
  split at h
  ·rename_i v H1 hs
   split at h
   ·rename_i T1 hT
    have := kopsF_eq l _ _ _ _ h
    simp only [kops, kstep1_eq hs, hT, this]
   ·cases h
  ·cases h
noncomputable def kres (P : Program) (fn : Func) (r : KR) : Option (Value × Heap) := match r with
 | .go T H => kH (ires P fn T.gt H) H
 | .rt T H => kH (ires P fn T.gt H) H
 | _ => none
noncomputable def kbodyT (P : Program) (fn : Func) (ih : ET → Heap → KR) (T : Option ET) (H : Heap) : Option (Value × Heap) := match T with
 | some T => kres P fn (ih T H)
 | none => none
noncomputable def kbodyB (P : Program) (fn : Func) (ih : Code → ET → Heap → KR) (args : List Value) (H : Heap) (b : Option Code) : Option (Value × Heap) := match b with
 | some c => kbodyT P fn (ih c) (argsT args 0 .nil) H
 | none => none
noncomputable def kbody (P : Program) (ih : Code → ET → Heap → KR) (args : List Value) (H : Heap) (fn : Option Func) : Option (Value × Heap) := match fn with
 | some fn => kbodyB P fn ih args H fn.body
 | none => none
noncomputable def kfn (P : Program) (ih : Nat → Code → ET → Heap → KR) : q0l := fun lk f args H => kbody P (ih lk) args H P.funcs[f]?
noncomputable def kseq (ih : ET → Heap → KR) (r : KR) : KR := match r with
 | .go T H => ih T H
 | r => r
noncomputable def kcond (ih : Code → ET → Heap → KR) (a b : Code) (T : ET) (H : Heap) (v : Value) : KR := match v with
 | .bool t => ih (bif t then a else b) T H
 | _ => .no
noncomputable def kblk (id : Nat) (r : KR) : KR := match r with
 | .ex j T H => bif Nat.beq j id then .go T H else .ex j T H
 | r => r
noncomputable def w3y (P : Program) (prim : Prim) (md : Md) (ih : Nat → Code → ET → Heap → KR) (lk : Nat) (c : Code) (T : ET) (H : Heap) : KR := match c with
 | .skip => .go T H
 | .region _ ops draw => kopsF P (kwrap prim md (kfn P ih)) lk draw ops ops.toList T H
 | .seq a b => kseq (ih lk b) (ih lk a T H)
 | .cond c a b => kcond (ih lk) a b T H (kev T c)
 | .block id a => kblk id (ih lk a T H)
 | .loop a => kseq (ih lk (.loop a)) (ih lk a T H)
 | .exit id => .ex id T H
 | .scope a => ih lk a T H
 | .label _ => .go T H
 | .ret => .rt T H
 | _ => .no
noncomputable def kx (P : Program) (prim : Prim) (md : Md) : Nat → Nat → Code → ET → Heap → KR :=
 Nat.rec (fun _ _ _ _ => .no) (fun _ ih => w3y P prim md ih)
def kout : KR → Option (Ex × ET × Heap)
 | .no => none
 | .go T H => some (.normal, T, H)
 | .ex i T H => some (.exit i, T, H)
 | .rt T H => some (.ret, T, H)
noncomputable def kgo (P : Program) (prim : Prim) (md : Md) (n : Nat) : q0l := kfn P (kx P prim md n)
theorem kfn_sound {P : Program} {md : Md} {ih : Nat → Code → ET → Heap → KR} (h : ∀ lk c T H e T' H', kout (ih lk c T H) = some (e, T', H') → ∃ m, q0s P md m lk c T.get H = some (e, T'.get, H')) : SoundC P md (kfn P ih) := by
 intro lk g args H r hr
 unfold kfn kbody at hr
 split at hr
 ·rename_i fn hfn
  unfold kbodyB at hr
  split at hr
  ·rename_i body hb
   unfold kbodyT at hr
   split at hr
   ·rename_i T0 hT0
    unfold kres at hr
    have fin : ∀ e T1 H1, (∀ i, e ≠ .exit i) → kout (ih lk body T0 H) = some (e, T1, H1) → kH (ires P fn T1.gt H1) H1 = some r → ∃ m, q1k P md m lk g args H = some r := by
     intro e T1 H1 he hk hr
     obtain ⟨m, hm⟩ := h _ _ _ _ _ _ _ hk
     rw [args0_T hT0] at hm
     rw [ET.gt_eq] at hr
     unfold kH at hr
     split at hr
     ·rename_i v hv
      injection hr with hr; subst hr
      refine ⟨m, ?_⟩
      unfold q1k
      rw [hfn]
      simp only [hb, hm]
      cases e with
      | exit i => exact absurd rfl (he i)
      | normal => simp only [hv]
      | ret => simp only [hv]
     ·cases hr
    split at hr
    ·rename_i T1 H1 hk
     exact fin .normal T1 H1 (fun i h => by cases h) (by rw [hk]; rfl) hr
    ·rename_i T1 H1 hk
     exact fin .ret T1 H1 (fun i h => by cases h) (by rw [hk]; rfl) hr
    ·cases hr
   ·cases hr
  ·cases hr
 ·cases hr
theorem kx_sound {P : Program} {md : Md} {prim : Prim} (hp : ∀ lk g args H r, prim g args H = some r → ∃ m, wrap md (q1k P md m) lk g args H = some r) : ∀ (n lk : Nat) (c : Code) (T : ET) (H : Heap) (e : Ex) (T' : ET) (H' : Heap), kout (kx P prim md n lk c T H) = some (e, T', H') → ∃ m, q0s P md m lk c T.get H = some (e, T'.get, H')
 | 0, lk, c, T, H, e, T', H', hr => by cases hr
 | n + 1, lk, c, T, H, e, T', H', hr => by
  have ih := kx_sound hp n
  change kout (w3y P prim md (kx P prim md n) lk c T H) = _ at hr
  generalize kx P prim md n = ihf at *
  have hcall := kfn_sound ih
  cases c with
  | skip =>
   simp only [w3y, kout, Option.some.injEq, Prod.mk.injEq] at hr
   obtain ⟨rfl, rfl, rfl⟩ := hr
   exact ⟨1, rfl⟩
  | region id ops draw =>
   simp only [w3y] at hr
   have hno : ∀ (l : List Oper) (T : ET) (H : Heap), (∃ T' H', kopsF P (kwrap prim md (kfn P ihf)) lk draw ops l T H = .go T' H') ∨ kopsF P (kwrap prim md (kfn P ihf)) lk draw ops l T H = .no := by
    intro l
    induction l with
    | nil => intro T H; exact .inl ⟨T, H, rfl⟩
    | cons o l ihl =>
     intro T H
     change (∃ T' H', kopsN (kopsF P (kwrap prim md (kfn P ihf)) lk draw ops l) o.dst T (kstep1 P (kwrap prim md (kfn P ihf)) draw (klk ops draw lk o.op H) ops o T H) = .go T' H') ∨ kopsN (kopsF P (kwrap prim md (kfn P ihf)) lk draw ops l) o.dst T (kstep1 P (kwrap prim md (kfn P ihf)) draw (klk ops draw lk o.op H) ops o T H) = .no
     unfold kopsN kopsP
     split
     ·split
      ·exact ihl _ _
      ·exact .inr rfl
     ·exact .inr rfl
   rcases hno ops.toList T H with ⟨T1, H1, hk⟩ | hk
   ·rw [hk] at hr
    simp only [kout, Option.some.injEq, Prod.mk.injEq] at hr
    obtain ⟨rfl, rfl, rfl⟩ := hr
    obtain ⟨m, hm⟩ := kops_sound (kwrap_sound hp hcall) _ _ _ _ _ (kopsF_eq _ _ _ _ _ hk)
    refine ⟨m + 1, ?_⟩
    change (match iops P (wrap md (q1k P md m)) lk draw ops ops.toList T.get H with
     | some (σ', H') => some (Ex.normal, σ', H')
     | none => none) = _
    rw [hm]
   ·rw [hk] at hr; cases hr
  | seq a b =>
   simp only [w3y] at hr
   unfold kseq at hr
   split at hr
   ·rename_i T1 H1 h1
    obtain ⟨m1, g1⟩ := ih _ _ _ _ .normal T1 H1 (by rw [h1]; rfl)
    obtain ⟨m2, g2⟩ := ih _ _ _ _ _ _ _ hr
    refine ⟨max m1 m2 + 1, ?_⟩
    simp only [q0s, q3b _ _ (Nat.le_max_left m1 m2) _ _ _ _ _ g1, q3b _ _ (Nat.le_max_right m1 m2) _ _ _ _ _ g2]
   ·rename_i hne
    obtain ⟨m1, g1⟩ := ih _ _ _ _ _ _ _ hr
    refine ⟨m1 + 1, ?_⟩
    simp only [q0s, g1]
    cases e with
    | normal =>
     cases hk : ihf lk a T H with
     | no => rw [hk] at hr; cases hr
     | go T1 H1 => exact (hne _ _ hk).elim
     | ex i T1 H1 => rw [hk] at hr; simp [kout] at hr
     | rt T1 H1 => rw [hk] at hr; simp [kout] at hr
    | exit id => rfl
    | ret => rfl
  | cond c a b =>
   simp only [w3y] at hr
   rw [q4v] at hr
   unfold kcond at hr
   split at hr
   ·rename_i t ht
    obtain ⟨m, hm⟩ := ih _ _ _ _ _ _ _ hr
    refine ⟨m + 1, ?_⟩
    simp only [q0s, ht]
    cases t with
    | true => exact hm
    | false => exact hm
   ·cases hr
  | block id a =>
   simp only [w3y] at hr
   unfold kblk at hr
   split at hr
   ·rename_i j T1 H1 h1
    obtain ⟨m, hm⟩ := ih _ _ _ _ (.exit j) T1 H1 (by rw [h1]; rfl)
    refine ⟨m + 1, ?_⟩
    simp only [q0s, hm]
    cases hb : Nat.beq j id with
    | true =>
     rw [hb] at hr
     simp only [cond_true, kout, Option.some.injEq, Prod.mk.injEq] at hr
     obtain ⟨rfl, rfl, rfl⟩ := hr
     rw [if_pos (Nat.eq_of_beq_eq_true hb)]
    | false =>
     rw [hb] at hr
     simp only [cond_false, kout, Option.some.injEq, Prod.mk.injEq] at hr
     obtain ⟨rfl, rfl, rfl⟩ := hr
     rw [if_neg (Nat.ne_of_beq_eq_false hb)]
   ·rename_i hne
    obtain ⟨m, hm⟩ := ih _ _ _ _ _ _ _ hr
    refine ⟨m + 1, ?_⟩
    simp only [q0s, hm]
    cases e with
    | normal => rfl
    | exit j =>
     cases hk : ihf lk a T H with
     | no => rw [hk] at hr; cases hr
     | go T1 H1 => rw [hk] at hr; simp [kout] at hr
     | ex i T1 H1 => exact (hne _ _ _ hk).elim
     | rt T1 H1 => rw [hk] at hr; simp [kout] at hr
    | ret => rfl
  | loop a =>
   simp only [w3y] at hr
   unfold kseq at hr
   split at hr
   ·rename_i T1 H1 h1
    obtain ⟨m1, g1⟩ := ih _ _ _ _ .normal T1 H1 (by rw [h1]; rfl)
    obtain ⟨m2, g2⟩ := ih _ _ _ _ _ _ _ hr
    refine ⟨max m1 m2 + 1, ?_⟩
    simp only [q0s, q3b _ _ (Nat.le_max_left m1 m2) _ _ _ _ _ g1, q3b _ _ (Nat.le_max_right m1 m2) _ _ _ _ _ g2]
   ·rename_i hne
    obtain ⟨m1, g1⟩ := ih _ _ _ _ _ _ _ hr
    refine ⟨m1 + 1, ?_⟩
    simp only [q0s, g1]
    cases e with
    | normal =>
     cases hk : ihf lk a T H with
     | no => rw [hk] at hr; cases hr
     | go T1 H1 => exact (hne _ _ hk).elim
     | ex i T1 H1 => rw [hk] at hr; simp [kout] at hr
     | rt T1 H1 => rw [hk] at hr; simp [kout] at hr
    | exit id => rfl
    | ret => rfl
  | exit id =>
   simp only [w3y, kout, Option.some.injEq, Prod.mk.injEq] at hr
   obtain ⟨rfl, rfl, rfl⟩ := hr
   exact ⟨1, rfl⟩
  | ret =>
   simp only [w3y, kout, Option.some.injEq, Prod.mk.injEq] at hr
   obtain ⟨rfl, rfl, rfl⟩ := hr
   exact ⟨1, rfl⟩
  | scope a =>
   obtain ⟨m, hm⟩ := ih _ _ _ _ _ _ _ hr
   exact ⟨m + 1, hm⟩
  | label l =>
   simp only [w3y, kout, Option.some.injEq, Prod.mk.injEq] at hr
   obtain ⟨rfl, rfl, rfl⟩ := hr
   exact ⟨1, rfl⟩
  | _ => simp [w3y, kout] at hr
theorem kgo_sound {P : Program} {md : Md} {prim : Prim} (hp : ∀ lk g args H r, prim g args H = some r → ∃ m, wrap md (q1k P md m) lk g args H = some r) (n : Nat) : SoundC P md (kgo P prim md n) := kfn_sound (kx_sound hp n)
end Gx
end
