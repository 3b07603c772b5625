/- The calculus over the mini interpreter: its rules as equations. -/
import Derived.Test.YtehnbdbhjeffaaaGreatGz5
set_option linter.all false
section
set_option autoImplicit false
namespace Gx
open Go Go.RowKit
section
variable {P : Program} {md : Md} {lk : Nat} {σ : Env} {H : Heap} {Q : Ex → Env → Heap → Prop} {K : Env → Heap → Prop}

attribute [go_sem ↓] ro_nil ro_guard Then_normal Then_ret Then_exit Blk_normal Blk_ret w4q Round_normal Round_ret Round_exit Ends_normal Ends_ret Ends_exit

theorem q6y {c : Code} {n : Nat} {r : Ex × Env × Heap} (h : q0s P md n lk c σ H = some r) : ∃ m, q0s P md (m + 1) lk c σ H = some r := by
 cases n with
 | zero => simp [q0s] at h
 | succ n => exact ⟨n, h⟩

@[go_sem ↓] theorem Runs_label {l : Nat} : Runs P md lk (.label l) σ H Q = Q .normal σ H := by
 refine propext ⟨fun ⟨n, e, σ', H', h1, h2⟩ => ?_, r_label⟩
 cases n with
 | zero => cases h1
 | succ n =>
  simp only [q0s, Option.some.injEq, Prod.mk.injEq] at h1
  obtain ⟨rfl, rfl, rfl⟩ := h1; exact h2
@[go_sem ↓] theorem Runs_scope {a : Code} : Runs P md lk (.scope a) σ H Q = Runs P md lk a σ H Q := by
 refine propext ⟨fun ⟨n, e, σ', H', h1, h2⟩ => ?_, r_scope⟩
 cases n with
 | zero => cases h1
 | succ n => exact ⟨n, e, σ', H', h1, h2⟩
@[go_sem ↓] theorem Runs_skip : Runs P md lk .skip σ H Q = Q .normal σ H := by
 apply propext
 refine ⟨fun ⟨n, e, σ', H', h1, h2⟩ => ?_, r_skip⟩
 obtain ⟨m, hm⟩ := q6y h1
 simp only [q0s, Option.some.injEq, Prod.mk.injEq] at hm
 obtain ⟨rfl, rfl, rfl⟩ := hm; exact h2
@[go_sem ↓] theorem Runs_ret : Runs P md lk .ret σ H Q = Q .ret σ H := by
 apply propext
 refine ⟨fun ⟨n, e, σ', H', h1, h2⟩ => ?_, r_ret⟩
 obtain ⟨m, hm⟩ := q6y h1
 simp only [q0s, Option.some.injEq, Prod.mk.injEq] at hm
 obtain ⟨rfl, rfl, rfl⟩ := hm; exact h2
@[go_sem ↓] theorem Runs_exit (id : Nat) : Runs P md lk (.exit id) σ H Q = Q (.exit id) σ H := by
 apply propext
 refine ⟨fun ⟨n, e, σ', H', h1, h2⟩ => ?_, r_exit⟩
 obtain ⟨m, hm⟩ := q6y h1
 simp only [q0s, Option.some.injEq, Prod.mk.injEq] at hm
 obtain ⟨rfl, rfl, rfl⟩ := hm; exact h2
@[go_sem ↓] theorem Runs_seq (a b : Code) : Runs P md lk (.seq a b) σ H Q = Runs P md lk a σ H (Then P md lk b Q) := by
 apply propext
 refine ⟨fun ⟨n, e, σ', H', h1, h2⟩ => ?_, r_seq⟩
 obtain ⟨m, hm⟩ := q6y h1
 simp only [q0s] at hm
 split at hm
 ·rename_i ha
  exact ⟨m, .normal, _, _, ha, m, _, _, _, hm, h2⟩
 ·rename_i hne
  refine ⟨m, e, σ', H', hm, ?_⟩
  cases e with
  | normal => exact (hne _ _ hm).elim
  | exit i => exact h2
  | ret => exact h2
@[go_sem ↓] theorem Runs_block (id : Nat) (a : Code) : Runs P md lk (.block id a) σ H Q = Runs P md lk a σ H (Blk' id Q) := by
 apply propext
 refine ⟨fun ⟨n, e, σ', H', h1, h2⟩ => ?_, r_block⟩
 obtain ⟨m, hm⟩ := q6y h1
 simp only [q0s] at hm
 split at hm
 ·rename_i j σ1 H1 ha
  refine ⟨m, .exit j, σ1, H1, ha, ?_⟩
  split at hm
  ·rename_i hj
   simp only [Option.some.injEq, Prod.mk.injEq] at hm
   obtain ⟨rfl, rfl, rfl⟩ := hm
   rw [w4q, if_pos hj]; exact h2
  ·rename_i hj
   simp only [Option.some.injEq, Prod.mk.injEq] at hm
   obtain ⟨rfl, rfl, rfl⟩ := hm
   rw [w4q, if_neg hj]; exact h2
 ·rename_i hne
  refine ⟨m, e, σ', H', hm, ?_⟩
  cases e with
  | normal => exact h2
  | exit i => exact (hne _ _ _ hm).elim
  | ret => exact h2
@[go_sem ↓] theorem Runs_region (id : Nat) (ops : Array Oper) (draw : Bool) : Runs P md lk (.region id ops draw) σ H Q = ROps P md lk draw ops ops.toList σ H (Q .normal) := by
 apply propext
 refine ⟨fun ⟨n, e, σ', H', h1, h2⟩ => ?_, r_region⟩
 obtain ⟨m, hm⟩ := q6y h1
 change (match iops P (wrap md (q1k P md m)) lk draw ops ops.toList σ H with
  | some (σ', H') => some (Ex.normal, σ', H')
  | none => none) = _ at hm
 split at hm
 ·rename_i ha
  simp only [Option.some.injEq, Prod.mk.injEq] at hm
  obtain ⟨rfl, rfl, rfl⟩ := hm
  exact ⟨m, _, _, ha, h2⟩
 ·simp at hm
@[go_sem ↓] theorem Runs_cond (c : Operand) (a b : Code) : Runs P md lk (.cond c a b) σ H Q = gw (asB (ev σ c)) (Runs P md lk a σ H Q) (Runs P md lk b σ H Q) := by
 apply propext
 constructor
 ·rintro ⟨n, e, σ', H', h1, h2⟩
  obtain ⟨m, hm⟩ := q6y h1
  simp only [q0s] at hm
  split at hm
  ·rename_i t ht
   rw [ht]
   simp only [asB]
   cases t with
   | true => exact ⟨m, e, σ', H', by simpa using hm, h2⟩
   | false => exact ⟨m, e, σ', H', by simpa using hm, h2⟩
  ·simp at hm
 ·intro h
  unfold asB at h
  split at h
  ·rename_i t ht
   refine r_cond ht (fun h1 => ?_) (fun h1 => ?_)
   ·subst h1; exact h
   ·subst h1; exact h
  ·exact h.elim

attribute [go_sem] toLit litOp List.any_cons List.any_nil Bool.false_and Bool.true_and Bool.and_false Bool.or_false Bool.false_or
attribute [go_sem] ite_true ite_false true_and and_true false_and and_false Option.map_some Option.map_none Option.bind_some Option.bind_none List.length_cons List.length_nil List.map_cons List.map_nil Nat.reduceBEq Nat.reduceAdd Nat.reduceMul Nat.reduceSub Nat.reduceEqDiff Nat.reduceLeDiff Nat.zero_add Nat.add_zero Nat.one_mul Nat.mul_one Nat.le_refl Nat.reduceLT Option.isSome_some Option.isSome_none Bool.not_true Bool.not_false beq_true beq_false reduceCtorEq List.cons_append List.nil_append List.append_nil List.append_assoc Option.getD_some Option.getD_none Bool.and_true Bool.true_and Bool.false_and Bool.and_false Bool.or_true Bool.true_or Bool.or_false Bool.false_or Bool.false_eq_true Nat.sub_zero eq_self and_self

@[go_sem] theorem obind_some_ite {α : Type} (c : Prop) [Decidable c] (x : α) (f : α → Prop) : q2s (if c then some x else none) f = (c ∧ f x) := by rw [obind_ite, q9c]

def gval (v : Value) (want : Bool) : Option Bool := match v with
 | .bool b => some (b == want)
 | .tuple _ => some false
 | _ => none
def gslot : List Oper → Nat → Option Nat
 | [], _ => none
 | o :: _, 0 => o.dst
 | _ :: r, j + 1 => gslot r j
@[go_sem] theorem gslot_zero (d : Option Nat) (op : Op) (ty : TypeId) (pos : String) (af : Array Edge) (g : Option (Nat × Bool)) (r : List Oper) : gslot (⟨d, op, ty, pos, af, g⟩ :: r) 0 = d := rfl
@[go_sem] theorem gslot_succ (o : Oper) (r : List Oper) (j : Nat) : gslot (o :: r) (j + 1) = gslot r j := rfl
theorem gslot_eq (l : List Oper) (j : Nat) : (l[j]?).bind (·.dst) = gslot l j := by
 induction l generalizing j with
 | nil => rfl
 | cons o r ih =>
  cases j with
  | zero => rfl
  | succ j => rw [List.getElem?_cons_succ]; exact ih j
def gread (σ : Env) (d : Option Nat) (want : Bool) : Option Bool := match d with
 | some d => gval (σ d) want
 | none => some false
@[go_sem] theorem gread_some (σ : Env) (d : Nat) (want : Bool) : gread σ (some d) want = gval (σ d) want := rfl
@[go_sem] theorem gread_none (σ : Env) (want : Bool) : gread σ none want = some false := rfl
@[go_sem] theorem gwant_eq (l : List Oper) (j : Nat) (want : Bool) : gwant l.toArray (some (j, want)) σ = gread σ (gslot l j) want := by
 rw [← gslot_eq]
 unfold gwant
 simp only [List.getElem?_toArray]
 cases (l[j]?).bind (·.dst) with
 | none => rfl
 | some d => simp only [gread]; cases σ d <;> rfl
@[go_sem] theorem gval_bool (b want : Bool) : gval (.bool b) want = some (b == want) := rfl
@[go_sem] theorem gval_undef (want : Bool) : gval undef want = some false := rfl

@[go_sem] theorem iop_alloc (call : q0l) (t : TypeId) : iop P call lk (.alloc t) σ H = match q1x P t, tsz P t, q1z P t with
  | some zs, some n, some k => if zs.length = n then some (inew H zs k) else none
  | _, _, _ => none := rfl
@[go_sem] theorem iop_box (call : q0l) (t : TypeId) (x : Operand) : iop P call lk (.box t x) σ H = match q3d (ev σ x), tsz P t, q1z P t with
  | some cs, some n, some k => if cs.length = n then some (inew H cs k) else none
  | _, _, _ => none := rfl
@[go_sem] theorem inew_eq (c : List Value) (sz : Nat) : inew H c sz = (.pointer (some ⟨H.length, 0, none⟩), H ++ [⟨c, sz, false⟩]) := rfl

@[go_sem] theorem q0j (c : List Value) (k : Nat) : q0e (H ++ [⟨c, k, false⟩]) H.length = some ⟨c, k, false⟩ := by simp [q0e]
theorem ilive_old {b : Nat} {N : Heap} (h : b < H.length) : q0e (H ++ N) b = q0e H b := by unfold q0e; rw [List.getElem?_append_left h]
theorem q0w {b : Nat} {B : Blk} (h : q0e H b = some B) : b < H.length := by
 unfold q0e at h
 split at h
 ·rename_i hb; exact (List.getElem?_eq_some_iff.1 hb).1
 ·simp at h
theorem q0u {b : Nat} {B : Blk} {N : Heap} (h : q0e H b = some B) : q0e (H ++ N) b = some B := by rw [ilive_old (q0w h)]; exact h

@[go_sem] theorem iload_eq (t : TypeId) (b o : Nat) : q2n P H t (.pointer (some ⟨b, o, none⟩)) = match q0e H b, tsz P t, tagg P t with
  | some B, some n, some true => (isub B.c o n).map fun cs => .agg cs.toArray
  | some B, some _, some false => B.c[o]?
  | _, _, _ => none := rfl
@[go_sem] theorem istore_eq (t : TypeId) (b o : Nat) (v : Value) : q3c P lk H t (.pointer (some ⟨b, o, none⟩)) v = match q3d v, tsz P t with
  | some vs, some n => match q0e H b with
   | some B => if lk ≤ b ∧ vs.length = n ∧ o + n ≤ B.c.length then some (H.set b { B with c := iput B.c o vs }) else none
   | none => none
  | _, _ => none := by
 unfold q3c
 cases q3d v <;> cases tsz P t <;> rfl

@[go_sem] theorem icells_agg (cs : Array Value) : q3d (.agg cs) = some cs.toList := rfl
@[go_sem] theorem icells_bool (b : Bool) : q3d (.bool b) = some [.bool b] := rfl
@[go_sem] theorem icells_int (k : IntKind) (n : Int) : q3d (.int k n) = some [.int k n] := rfl
@[go_sem] theorem icells_string (s : ByteArray) : q3d (.string s) = some [.string s] := rfl
@[go_sem] theorem icells_pointer (a : Option Addr) : q3d (.pointer a) = some [.pointer a] := rfl
@[go_sem] theorem icells_slice (a : Option Addr) (n c : Nat) : q3d (.slice a n c) = some [.slice a n c] := rfl
def iresA (P : Program) (σ : Env) (H : Heap) (l : List ResultVar) : Option Value :=
 match l with
 | [x] => ires1 P σ H x
 | l => (iresL P σ H l).map fun vs => .tuple vs.toArray
@[go_sem] theorem ires_eq (fn : Func) : ires P fn σ H = iresA P σ H fn.results.toList := rfl
@[go_sem] theorem iresA_one (x : ResultVar) : iresA P σ H [x] = ires1 P σ H x := rfl
@[go_sem] theorem iresA_nil : iresA P σ H [] = some (.tuple #[]) := rfl
@[go_sem] theorem iresA_two (x y : ResultVar) (l : List ResultVar) : iresA P σ H (x :: y :: l) = (iresL P σ H (x :: y :: l)).map fun vs => .tuple vs.toArray := rfl
@[go_sem] theorem iresL_nil : iresL P σ H [] = some [] := rfl
@[go_sem] theorem iresL_cons (x : ResultVar) (l : List ResultVar) : iresL P σ H (x :: l) = match ires1 P σ H x, iresL P σ H l with
  | some v, some vs => some (v :: vs)
  | _, _ => none := rfl
@[go_sem] theorem ires1_tmp (t : Nat) : ires1 P σ H (.tmp t) = some (σ t) := rfl
@[go_sem] theorem ires1_cell (a : Nat) (t : TypeId) : ires1 P σ H (.cell a t) = q2n P H t (σ a) := rfl
theorem ifill_nil (place : Nat → Option (Nat × Nat)) (q0g : List Value) : q7d place q0g [] = some q0g := rfl
theorem ifill_cons (place : Nat → Option (Nat × Nat)) (q0g : List Value) (i : Nat) (v : Value) (rest : List (Nat × Value)) : q7d place q0g ((i, v) :: rest) = match place i, q3d v with
  | some (off, size), some vs => if vs.length = size ∧ off + size ≤ q0g.length then q7d place (iput q0g off vs) rest else none
  | _, _ => none := rfl
attribute [go_sem] ifill_nil ifill_cons
@[go_sem] theorem iput_zero (x : Value) (c : List Value) (v : Value) : iput (x :: c) 0 [v] = v :: c := by simp [iput]
@[go_sem] theorem iput_succ (x : Value) (c : List Value) (v : Value) (o : Nat) : iput (x :: c) (o + 1) [v] = x :: iput c o [v] := by simp [iput, Nat.add_right_comm]
@[go_sem] theorem iput_all2 (a b x y : Value) : iput [a, b] 0 [x, y] = [x, y] := rfl
@[go_sem] theorem iput_all3 (a b c x y z : Value) : iput [a, b, c] 0 [x, y, z] = [x, y, z] := rfl
@[go_sem] theorem set_last (H : Heap) (B C : Blk) : (H ++ [B]).set H.length C = H ++ [C] := by simp
@[go_sem] theorem isub_all (c : List Value) (n : Nat) (h : c.length = n) : isub c 0 n = some c := by subst h; simp [isub]
@[go_sem] theorem getL_zero (x : Nat × Nat) (l : List (Nat × Nat)) : (x :: l)[0]? = some x := rfl
@[go_sem] theorem getL_succ (x : Nat × Nat) (l : List (Nat × Nat)) (i : Nat) : (x :: l)[i + 1]? = l[i]? := rfl
@[go_sem] theorem getV_zero (x : Value) (l : List Value) : (x :: l)[0]? = some x := rfl
@[go_sem] theorem getV_succ (x : Value) (l : List Value) (i : Nat) : (x :: l)[i + 1]? = l[i]? := rfl
end
end Gx
end
