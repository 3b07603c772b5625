/- The calculus over the mini interpreter. -/
import Derived.Test.YtehnbdbhjeffaaaGreatGz4
set_option linter.all false
section
set_option autoImplicit false
namespace Gx
open Go Go.RowKit

class Tg {β : Type} (x : β) : Type where
instance {β : Type} (x : β) : Tg x := ⟨⟩

def q2s {α : Type} (o : Option α) (f : α → Prop) [Tg f] : Prop :=
 match o with
 | some v => f v
 | none => False
@[go_sem] theorem q9c {α : Type} (v : α) (f : α → Prop) : q2s (some v) f = f v := rfl
@[go_sem] theorem obind_none {α : Type} (f : α → Prop) : q2s none f = False := rfl
@[go_sem] theorem obind_ite {α : Type} (c : Prop) [Decidable c] (x : Option α) (f : α → Prop) : q2s (if c then x else none) f = (c ∧ q2s x f) := by
 by_cases h : c <;> simp [h, q2s]
@[go_sem] theorem q1s {α β : Type} (x : Option α) (g : α → β) (f : β → Prop) : q2s (x.map g) f = q2s x fun v => f (g v) := by cases x <;> rfl
def q3z (o : Option (Value × Heap)) (f : Value → Heap → Prop) [Tg f] : Prop :=
 match o with
 | some p => f p.1 p.2
 | none => False
@[go_sem] theorem obind2_some (v : Value) (H : Heap) (f : Value → Heap → Prop) : q3z (some (v, H)) f = f v H := rfl
@[go_sem] theorem obind2_none (f : Value → Heap → Prop) : q3z none f = False := rfl
@[go_sem] theorem obind2_ite (c : Prop) [Decidable c] (x : Option (Value × Heap)) (f : Value → Heap → Prop) : q3z (if c then x else none) f = (c ∧ q3z x f) := by
 by_cases h : c <;> simp [h, q3z]
theorem q3f (x : Option (Value × Heap)) (f : Value → Heap → Prop) : q3z x f = q2s x fun p => f p.1 p.2 := by cases x <;> rfl
def gw (o : Option Bool) (a b : Prop) [Tg a] [Tg b] : Prop :=
 match o with
 | some true => a
 | some false => b
 | none => False
@[go_sem] theorem gw_true (a b : Prop) : gw (some true) a b = a := rfl
@[go_sem] theorem gw_false (a b : Prop) : gw (some false) a b = b := rfl
@[go_sem] theorem gw_none (a b : Prop) : gw none a b = False := rfl
theorem gw_iff {t : Bool} {a b : Prop} (h1 : t = true → a) (h2 : t = false → b) : gw (some t) a b := by
 cases t with
 | false => exact h2 rfl
 | true => exact h1 rfl
theorem q0y {p : Prop} [Decidable p] {a b : Prop} (h1 : p → a) (h2 : ¬ p → b) : gw (some (decide p)) a b := by
 by_cases h : p
 ·rw [decide_eq_true h]; exact h1 h
 ·rw [decide_eq_false h]; exact h2 h
theorem q8c {α : Type} {o : Option α} {f : α → Prop} : q2s o f ↔ ∃ v, o = some v ∧ f v := by cases o <;> simp [q2s]

section
variable {P : Program} {md : Md} {lk : Nat}

open Classical in
noncomputable def w1j (P : Program) (md : Md) (lk : Nat) (g : FuncId) (args : List Value) (H : Heap) : Option (Value × Heap) :=
 if h : ∃ r n, wrap md (q1k P md n) lk g args H = some r then some h.choose else none

theorem q2o {g : FuncId} {args : List Value} {H : Heap} {r : Value × Heap} : w1j P md lk g args H = some r ↔ ∃ n, wrap md (q1k P md n) lk g args H = some r := by
 unfold w1j
 constructor
 ·intro h
  split at h
  ·rename_i hx
   injection h with h
   rw [← h]; exact hx.choose_spec
  ·simp at h
 ·rintro ⟨n, hn⟩
  have hx : ∃ r n, wrap md (q1k P md n) lk g args H = some r := ⟨r, n, hn⟩
  rw [dif_pos hx]
  obtain ⟨m, hm⟩ := hx.choose_spec
  have h1 := q5k (P := P) (md := md) (Nat.le_max_left n m) _ _ _ _ _ hn
  have h2 := q5k (P := P) (md := md) (Nat.le_max_right n m) _ _ _ _ _ hm
  rw [h1] at h2
  exact h2.symm

def Runs (P : Program) (md : Md) (lk : Nat) (c : Code) (σ : Env) (H : Heap) (Q : Ex → Env → Heap → Prop) : Prop :=
 ∃ n e σ' H', q0s P md n lk c σ H = some (e, σ', H') ∧ Q e σ' H'

def ROps (P : Program) (md : Md) (lk : Nat) (draw : Bool) (ops : Array Oper) (l : List Oper) (σ : Env) (H : Heap) (K : Env → Heap → Prop) : Prop :=
 ∃ n σ' H', iops P (wrap md (q1k P md n)) lk draw ops l σ H = some (σ', H') ∧ K σ' H'

def Then (P : Program) (md : Md) (lk : Nat) (b : Code) (Q : Ex → Env → Heap → Prop) : Ex → Env → Heap → Prop
 | .normal, σ, H => Runs P md lk b σ H Q
 | e, σ, H => Q e σ H
def Blk' (id : Nat) (Q : Ex → Env → Heap → Prop) : Ex → Env → Heap → Prop
 | .exit j, σ, H => if j = id then Q .normal σ H else Q (.exit j) σ H
 | e, σ, H => Q e σ H
theorem Then_normal (b : Code) (Q : Ex → Env → Heap → Prop) (σ : Env) (H : Heap) : Then P md lk b Q .normal σ H = Runs P md lk b σ H Q := rfl
theorem Then_ret (b : Code) (Q : Ex → Env → Heap → Prop) (σ : Env) (H : Heap) : Then P md lk b Q .ret σ H = Q .ret σ H := rfl
theorem Then_exit (b : Code) (Q : Ex → Env → Heap → Prop) (i : Nat) (σ : Env) (H : Heap) : Then P md lk b Q (.exit i) σ H = Q (.exit i) σ H := rfl
theorem Blk_normal (id : Nat) (Q : Ex → Env → Heap → Prop) (σ : Env) (H : Heap) : Blk' id Q .normal σ H = Q .normal σ H := rfl
theorem Blk_ret (id : Nat) (Q : Ex → Env → Heap → Prop) (σ : Env) (H : Heap) : Blk' id Q .ret σ H = Q .ret σ H := rfl
theorem w4q (id j : Nat) (Q : Ex → Env → Heap → Prop) (σ : Env) (H : Heap) : Blk' id Q (.exit j) σ H = if j = id then Q .normal σ H else Q (.exit j) σ H := rfl

variable {σ : Env} {H : Heap} {Q : Ex → Env → Heap → Prop} {K : Env → Heap → Prop}

theorem Runs.mono {c : Code} {Q' : Ex → Env → Heap → Prop} (h : Runs P md lk c σ H Q) (hq : ∀ e σ H, Q e σ H → Q' e σ H) : Runs P md lk c σ H Q' :=
 let ⟨n, e, σ', H', h1, h2⟩ := h; ⟨n, e, σ', H', h1, hq _ _ _ h2⟩

theorem r_label {l : Nat} (h : Q .normal σ H) : Runs P md lk (.label l) σ H Q := ⟨1, _, _, _, rfl, h⟩
theorem r_scope {a : Code} (h : Runs P md lk a σ H Q) : Runs P md lk (.scope a) σ H Q := by
 obtain ⟨n, e, σ1, H1, h1, h2⟩ := h
 exact ⟨n + 1, e, σ1, H1, h1, h2⟩
theorem r_skip (h : Q .normal σ H) : Runs P md lk .skip σ H Q := ⟨1, _, _, _, rfl, h⟩
theorem r_ret (h : Q .ret σ H) : Runs P md lk .ret σ H Q := ⟨1, _, _, _, rfl, h⟩
theorem r_exit {id : Nat} (h : Q (.exit id) σ H) : Runs P md lk (.exit id) σ H Q := ⟨1, _, _, _, rfl, h⟩
theorem r_seq {a b : Code} (h : Runs P md lk a σ H (Then P md lk b Q)) : Runs P md lk (.seq a b) σ H Q := by
 obtain ⟨n, e, σ1, H1, h1, h2⟩ := h
 cases e with
 | normal =>
  obtain ⟨m, e2, σ2, H2, h3, h4⟩ := h2
  refine ⟨max n m + 1, e2, σ2, H2, ?_, h4⟩
  simp only [q0s, q3b _ _ (Nat.le_max_left n m) _ _ _ _ _ h1, q3b _ _ (Nat.le_max_right n m) _ _ _ _ _ h3]
 | exit id => exact ⟨n + 1, _, _, _, by simp only [q0s, h1], h2⟩
 | ret => exact ⟨n + 1, _, _, _, by simp only [q0s, h1], h2⟩
theorem r_cond {c : Operand} {a b : Code} {t : Bool} (hc : ev σ c = .bool t) (ht : t = true → Runs P md lk a σ H Q) (hf : t = false → Runs P md lk b σ H Q) : Runs P md lk (.cond c a b) σ H Q := by
 cases t with
 | true => obtain ⟨n, e, σ1, H1, h1, h2⟩ := ht rfl; exact ⟨n + 1, e, σ1, H1, by simp only [q0s, hc, if_true, h1], h2⟩
 | false => obtain ⟨n, e, σ1, H1, h1, h2⟩ := hf rfl; exact ⟨n + 1, e, σ1, H1, by simp only [q0s, hc, Bool.false_eq_true, if_false, h1], h2⟩
theorem r_block {id : Nat} {a : Code} (h : Runs P md lk a σ H (Blk' id Q)) : Runs P md lk (.block id a) σ H Q := by
 obtain ⟨n, e, σ1, H1, h1, h2⟩ := h
 cases e with
 | normal => exact ⟨n + 1, _, _, _, by simp only [q0s, h1], h2⟩
 | exit j =>
  by_cases hj : j = id
  ·simp only [Blk', if_pos hj] at h2
   exact ⟨n + 1, _, _, _, by simp only [q0s, h1, if_pos hj], h2⟩
  ·simp only [Blk', if_neg hj] at h2
   exact ⟨n + 1, _, _, _, by simp only [q0s, h1, if_neg hj], h2⟩
 | ret => exact ⟨n + 1, _, _, _, by simp only [q0s, h1], h2⟩
theorem r_region {id : Nat} {ops : Array Oper} {draw : Bool} (h : ROps P md lk draw ops ops.toList σ H (Q .normal)) : Runs P md lk (.region id ops draw) σ H Q := by
 obtain ⟨n, σ1, H1, h1, h2⟩ := h
 refine ⟨n + 1, .normal, σ1, H1, ?_, h2⟩
 change (match iops P (wrap md (q1k P md n)) lk draw ops ops.toList σ H with
  | some (σ', H') => some (Ex.normal, σ', H')
  | none => none) = _
 rw [h1]

def Next {α : Type} (m : α → Nat) (I : α → Env → Heap → Prop) (a : α) (σ : Env) (H : Heap) [Tg m] [Tg I] : Prop := ∃ a', m a' < m a ∧ I a' σ H
theorem next {α : Type} {m : α → Nat} {I : α → Env → Heap → Prop} {a : α} {σ : Env} {H : Heap} (a' : α) (h : m a' < m a) (hI : I a' σ H) : Next m I a σ H := ⟨a', h, hI⟩
def Round {α : Type} (m : α → Nat) (I : α → Env → Heap → Prop) (a : α) (Q : Ex → Env → Heap → Prop) : Ex → Env → Heap → Prop
 | .normal, σ, H => Next m I a σ H
 | e, σ, H => Q e σ H
theorem Round_normal {α : Type} (m : α → Nat) (I : α → Env → Heap → Prop) (a : α) (σ : Env) (H : Heap) : Round m I a Q .normal σ H = Next m I a σ H := rfl
theorem Round_ret {α : Type} (m : α → Nat) (I : α → Env → Heap → Prop) (a : α) (σ : Env) (H : Heap) : Round m I a Q .ret σ H = Q .ret σ H := rfl
theorem Round_exit {α : Type} (m : α → Nat) (I : α → Env → Heap → Prop) (a : α) (i : Nat) (σ : Env) (H : Heap) : Round m I a Q (.exit i) σ H = Q (.exit i) σ H := rfl

theorem q0h {α : Type} (m : α → Nat) (I : α → Env → Heap → Prop) {c : Code} (a0 : α) (h0 : I a0 σ H) (hs : ∀ a σ H, I a σ H → Runs P md lk c σ H (Round m I a Q)) : Runs P md lk (.loop c) σ H Q := by
 have key : ∀ k a σ H, m a = k → I a σ H → Runs P md lk (.loop c) σ H Q := by
  intro k
  induction k using Nat.strongRecOn with
  | _ k ih =>
   intro a σ H hk hI
   obtain ⟨n, e, σ1, H1, h1, h2⟩ := hs a σ H hI
   cases e with
   | normal =>
    obtain ⟨a', hlt, hI'⟩ := h2
    obtain ⟨n2, e2, σ2, H2, h3, h4⟩ := ih (m a') (by omega) a' σ1 H1 rfl hI'
    refine ⟨max n n2 + 1, e2, σ2, H2, ?_, h4⟩
    simp only [q0s, q3b _ _ (Nat.le_max_left n n2) _ _ _ _ _ h1, q3b _ _ (Nat.le_max_right n n2) _ _ _ _ _ h3]
   | exit id => exact ⟨n + 1, _, _, _, by simp only [q0s, h1], h2⟩
   | ret => exact ⟨n + 1, _, _, _, by simp only [q0s, h1], h2⟩
 exact key _ a0 σ H rfl h0


theorem ro_nil {draw : Bool} {ops : Array Oper} : ROps P md lk draw ops [] σ H K = K σ H := by
 apply propext
 constructor
 ·rintro ⟨n, σ', H', h1, h2⟩
  simp only [iops, Option.some.injEq, Prod.mk.injEq] at h1
  obtain ⟨rfl, rfl⟩ := h1
  exact h2
 ·intro h
  exact ⟨0, σ, H, rfl, h⟩

def gwant (ops : Array Oper) (g : Option (Nat × Bool)) (σ : Env) : Option Bool :=
 match g with
 | none => some true
 | some (j, want) =>
  match (ops[j]?).bind (·.dst) with
  | some d => match σ d with
   | .bool b => some (b == want)
   | .tuple _ => some false
   | _ => none
  | none => some false

theorem ro_cons {draw : Bool} {ops : Array Oper} {d : Option Nat} {op : Op} {ty : TypeId} {pos : String} {af : Array Edge} {r : List Oper} :
  ROps P md lk draw ops (⟨d, op, ty, pos, af, none⟩ :: r) σ H K = ∃ n v H1, iop P (wrap md (q1k P md n)) (if draw && !loud ops op then H.length else lk) op σ H = some (v, H1) ∧ ROps P md lk draw ops r (put σ d (litR draw op (v, H1)).1) H1 K := by
 apply propext
 constructor
 ·rintro ⟨n, σ', H', h1, h2⟩
  simp only [iops] at h1
  split at h1
  ·rename_i v H1 hs
   obtain ⟨v0, h0, h3⟩ := q8e hs
   exact ⟨n, v0, H1, h0, n, σ', H', by rw [h3]; exact h1, h2⟩
  ·simp at h1
 ·rintro ⟨n, v, H1, h1, m, σ', H', h2, h3⟩
  refine ⟨max n m, σ', H', ?_, h3⟩
  have e1 := iop_le (q5k (P := P) (md := md) (Nat.le_max_left n m)) h1
  have e2 := q3i (q5k (P := P) (md := md) (Nat.le_max_right n m)) _ _ _ _ h2
  simp only [iops, q4g, w3z, e1, Option.map_some]
  have h4 := litR_2 draw op (v, H1)
  generalize litR draw op (v, H1) = q at *
  obtain ⟨q1, q2⟩ := q
  simp only at h4 e2 ⊢
  subst h4
  exact e2

theorem ro_guard {draw : Bool} {ops : Array Oper} {d : Option Nat} {op : Op} {ty : TypeId} {pos : String} {af : Array Edge} {j : Nat} {want : Bool} {r : List Oper} :
  ROps P md lk draw ops (⟨d, op, ty, pos, af, some (j, want)⟩ :: r) σ H K =
   gw (gwant ops (some (j, want)) σ) (ROps P md lk draw ops (⟨d, op, ty, pos, af, none⟩ :: r) σ H K) (ROps P md lk draw ops r (put σ d undef) H K) := by
 apply propext
 have hw : w3z ops ⟨d, op, ty, pos, af, some (j, want)⟩ σ = gwant ops (some (j, want)) σ := rfl
 generalize hg : gwant ops (some (j, want)) σ = g at hw
 cases g with
 | none =>
  simp only [gw, iff_false]
  rintro ⟨n, σ', H', h1, h2⟩
  simp only [iops, q4g, hw] at h1
  simp at h1
 | some b =>
  cases b with
  | false =>
   simp only [gw]
   constructor
   ·rintro ⟨n, σ', H', h1, h2⟩
    simp only [iops, q4g, hw] at h1
    exact ⟨n, σ', H', h1, h2⟩
   ·rintro ⟨n, σ', H', h1, h2⟩
    exact ⟨n, σ', H', by simp only [iops, q4g, hw]; exact h1, h2⟩
  | true =>
   simp only [gw]
   constructor
   ·rintro ⟨n, σ', H', h1, h2⟩
    simp only [iops, q4g, hw] at h1
    refine ⟨n, σ', H', ?_, h2⟩
    simp only [iops, q4g, w3z]; exact h1
   ·rintro ⟨n, σ', H', h1, h2⟩
    refine ⟨n, σ', H', ?_, h2⟩
    simp only [iops, q4g, w3z] at h1
    simp only [iops, q4g, hw]; exact h1

theorem q1p {draw : Bool} {ops : Array Oper} {d : Option Nat} {op : Op} {ty : TypeId} {pos : String} {af : Array Edge} {r : List Oper} {x : Option (Value × Heap)}
  (hx : ∀ call, iop P call (if draw && !loud ops op then H.length else lk) op σ H = x) (hl : ∀ r, litR draw op r = r := by intro r; rfl) :
  ROps P md lk draw ops (⟨d, op, ty, pos, af, none⟩ :: r) σ H K = q2s x fun p => ROps P md lk draw ops r (put σ d p.1) p.2 K := by
 rw [ro_cons]
 apply propext
 constructor
 ·rintro ⟨n, v, H1, h1, h2⟩
  rw [hx] at h1
  rw [hl] at h2
  rw [h1]; exact h2
 ·intro h
  obtain ⟨p, h1, h2⟩ := q8c.1 h
  exact ⟨0, p.1, p.2, by rw [hx, h1], by rw [hl]; exact h2⟩

variable {draw : Bool} {ops : Array Oper} {d : Option Nat} {ty : TypeId} {pos : String} {af : Array Edge} {r : List Oper}

@[go_sem ↓] theorem ro_move (x : Operand) : ROps P md lk draw ops (⟨d, .move x, ty, pos, af, none⟩ :: r) σ H K = q2s (some (ev σ x)) fun v => ROps P md lk draw ops r (put σ d v) H K := by
 rw [q1p (x := some (ev σ x, H)) (fun _ => rfl)]; rfl
@[go_sem ↓] theorem ro_assign (x : Operand) : ROps P md lk draw ops (⟨d, .assign x, ty, pos, af, none⟩ :: r) σ H K = q2s (some (ev σ x)) fun v => ROps P md lk draw ops r (put σ d v) H K := by
 rw [q1p (x := some (ev σ x, H)) (fun _ => rfl)]; rfl
def asB : Value → Option Bool
 | .bool b => some b
 | _ => none
@[go_sem] theorem asB_bool (b : Bool) : asB (.bool b) = some b := rfl
@[go_sem ↓] theorem ro_pick (c x y : Operand) : ROps P md lk draw ops (⟨d, .pick c x y, ty, pos, af, none⟩ :: r) σ H K = q2s ((asB (ev σ c)).map fun t => if t = true then ev σ x else ev σ y) fun v => ROps P md lk draw ops r (put σ d v) H K := by
 rw [q1p (x := (asB (ev σ c)).map fun t => (if t = true then ev σ x else ev σ y, H)) (fun _ => by
  simp only [iop]; unfold asB
  split <;> simp_all), q1s, q1s]
@[go_sem ↓] theorem ro_bin (op : BinOp) (t : TypeId) (x y : Operand) (t2 : TypeId) : ROps P md lk draw ops (⟨d, .binOp op t x y t2, ty, pos, af, none⟩ :: r) σ H K = q2s (ibin P op t (ev σ x) (ev σ y)) fun v => ROps P md lk draw ops r (put σ d v) H K := by
 rw [q1p (x := (ibin P op t (ev σ x) (ev σ y)).map fun v => (v, H)) (fun _ => rfl), q1s]
@[go_sem ↓] theorem ro_un (op : UnOp) (t : TypeId) (x : Operand) : ROps P md lk draw ops (⟨d, .unOp op t x, ty, pos, af, none⟩ :: r) σ H K = q2s (iun op (ev σ x)) fun v => ROps P md lk draw ops r (put σ d v) H K := by
 rw [q1p (x := (iun op (ev σ x)).map fun v => (v, H)) (fun _ => rfl), q1s]
@[go_sem ↓] theorem ro_load (t : TypeId) (x : Operand) : ROps P md lk draw ops (⟨d, .load t x, ty, pos, af, none⟩ :: r) σ H K = q2s (q2n P H t (ev σ x)) fun v => ROps P md lk draw ops r (put σ d v) H K := by
 rw [q1p (x := (q2n P H t (ev σ x)).map fun v => (v, H)) (fun _ => rfl), q1s]
@[go_sem ↓] theorem ro_store (t : TypeId) (x y : Operand) : ROps P md lk draw ops (⟨d, .store t x y, ty, pos, af, none⟩ :: r) σ H K = q2s (q3c P lk H t (ev σ x) (ev σ y)) fun H' => ROps P md lk draw ops r (put σ d undef) H' K := by
 rw [q1p (x := (q3c P lk H t (ev σ x) (ev σ y)).map fun H' => (undef, H')) (fun _ => by cases draw <;> rfl), q1s]
@[go_sem ↓] theorem ro_alloc (t : TypeId) : ROps P md lk draw ops (⟨d, .alloc t, ty, pos, af, none⟩ :: r) σ H K = q3z (iop P (fun _ _ _ _ => none) 0 (.alloc t) σ H) fun v H' => ROps P md lk draw ops r (put σ d v) H' K := by
 rw [q3f, q1p (x := iop P (fun _ _ _ _ => none) 0 (.alloc t) σ H) (fun _ => rfl)]
@[go_sem ↓] theorem ro_box (t : TypeId) (x : Operand) : ROps P md lk draw ops (⟨d, .box t x, ty, pos, af, none⟩ :: r) σ H K = q3z (iop P (fun _ _ _ _ => none) 0 (.box t x) σ H) fun v H' => ROps P md lk draw ops r (put σ d v) H' K := by
 rw [q3f, q1p (x := iop P (fun _ _ _ _ => none) 0 (.box t x) σ H) (fun _ => rfl)]
@[go_sem ↓] theorem ro_build (t : TypeId) (ps : Array (Nat × Operand)) : ROps P md lk draw ops (⟨d, .build t ps, ty, pos, af, none⟩ :: r) σ H K = q2s (ibuild P t (ps.toList.map fun (i, x) => (i, ev σ x))) fun v => ROps P md lk draw ops r (put σ d v) H K := by
 rw [q1p (x := (ibuild P t (ps.toList.map fun (i, x) => (i, ev σ x))).map fun v => (v, H)) (fun _ => rfl), q1s]
@[go_sem ↓] theorem ro_buildSlice (t : TypeId) (n : Nat) (ps : Array (Nat × Operand)) : ROps P md lk false ops (⟨d, .buildSlice t n ps, ty, pos, af, none⟩ :: r) σ H K = q3z (q2e P H t n (ps.toList.map fun (i, x) => (i, ev σ x))) fun v H' => ROps P md lk false ops r (put σ d v) H' K := by
 rw [q3f, q1p (x := q2e P H t n (ps.toList.map fun (i, x) => (i, ev σ x))) (fun _ => rfl) (w2w _)]
@[go_sem ↓] theorem ro_buildSlice1 (t : TypeId) (n : Nat) (ps : Array (Nat × Operand)) (h : (n == 0) = false) : ROps P md lk true ops (⟨d, .buildSlice t n ps, ty, pos, af, none⟩ :: r) σ H K = q3z (q2e P H t n (ps.toList.map fun (i, x) => (i, ev σ x))) fun v H' => ROps P md lk true ops r (put σ d v) H' K := by
 rw [q3f, q1p (x := q2e P H t n (ps.toList.map fun (i, x) => (i, ev σ x))) (fun _ => rfl) (w4k (op := .buildSlice t n ps) h)]
@[go_sem ↓] theorem ro_buildSlice0 (t : TypeId) (ps : Array (Nat × Operand)) : ROps P md lk true ops (⟨d, .buildSlice t 0 ps, ty, pos, af, none⟩ :: r) σ H K = q3z (q2e P H t 0 (ps.toList.map fun (i, x) => (i, ev σ x))) fun _ H' => ROps P md lk true ops r (put σ d lit0) H' K := by
 rw [q3f, ro_cons]
 apply propext
 have hx : ∀ call lk', iop P call lk' (.buildSlice t 0 ps) σ H = q2e P H t 0 (ps.toList.map fun (i, x) => (i, ev σ x)) := fun _ _ => rfl
 constructor
 ·rintro ⟨n, v, H1, h1, h2⟩
  rw [hx] at h1
  rw [h1]; exact h2
 ·intro h
  obtain ⟨p, h1, h2⟩ := q8c.1 h
  exact ⟨0, p.1, p.2, by rw [hx, h1], h2⟩
@[go_sem ↓] theorem ro_makeSlice (t : TypeId) (x y : Operand) : ROps P md lk draw ops (⟨d, .makeSlice t x y, ty, pos, af, none⟩ :: r) σ H K = q3z (q4h P H t (ev σ x) (ev σ y)) fun v H' => ROps P md lk draw ops r (put σ d v) H' K := by
 rw [q3f, q1p (x := q4h P H t (ev σ x) (ev σ y)) (fun _ => rfl)]
@[go_sem ↓] theorem ro_convert (s t : TypeId) (x : Operand) : ROps P md lk draw ops (⟨d, .convert s t x, ty, pos, af, none⟩ :: r) σ H K = q3z (q4p P H s t (ev σ x)) fun v H' => ROps P md lk draw ops r (put σ d v) H' K := by
 rw [q3f, q1p (x := q4p P H s t (ev σ x)) (fun _ => rfl)]
@[go_sem ↓] theorem ro_slice (t : TypeId) (x : Operand) (lo hi mx : Option Operand) : ROps P md lk draw ops (⟨d, .slice t x lo hi mx, ty, pos, af, none⟩ :: r) σ H K = q2s (q4w P H t (ev σ x) (lo.map (ev σ)) (hi.map (ev σ)) (mx.map (ev σ))) fun v => ROps P md lk draw ops r (put σ d v) H K := by
 rw [q1p (x := (q4w P H t (ev σ x) (lo.map (ev σ)) (hi.map (ev σ)) (mx.map (ev σ))).map fun v => (v, H)) (fun _ => rfl), q1s]
@[go_sem ↓] theorem ro_fieldAddr (t : TypeId) (x : Operand) (i : Nat) : ROps P md lk draw ops (⟨d, .fieldAddr t x i, ty, pos, af, none⟩ :: r) σ H K = q2s (q3l P t (ev σ x) i) fun v => ROps P md lk draw ops r (put σ d v) H K := by
 rw [q1p (x := (q3l P t (ev σ x) i).map fun v => (v, H)) (fun _ => rfl), q1s]
@[go_sem ↓] theorem ro_field (t : TypeId) (x : Operand) (i : Nat) : ROps P md lk draw ops (⟨d, .field t x i, ty, pos, af, none⟩ :: r) σ H K = q2s (w3q P t (ev σ x) i) fun v => ROps P md lk draw ops r (put σ d v) H K := by
 rw [q1p (x := (w3q P t (ev σ x) i).map fun v => (v, H)) (fun _ => rfl), q1s]
@[go_sem ↓] theorem ro_indexAddr (t : TypeId) (x y : Operand) : ROps P md lk draw ops (⟨d, .indexAddr t x y, ty, pos, af, none⟩ :: r) σ H K = q2s (q0i P t (ev σ x) (ev σ y)) fun v => ROps P md lk draw ops r (put σ d v) H K := by
 rw [q1p (x := (q0i P t (ev σ x) (ev σ y)).map fun v => (v, H)) (fun _ => rfl), q1s]
@[go_sem ↓] theorem ro_index (t : TypeId) (x y : Operand) : ROps P md lk draw ops (⟨d, .index t x y, ty, pos, af, none⟩ :: r) σ H K = q2s (w3p P t (ev σ x) (ev σ y)) fun v => ROps P md lk draw ops r (put σ d v) H K := by
 rw [q1p (x := (w3p P t (ev σ x) (ev σ y)).map fun v => (v, H)) (fun _ => rfl), q1s]
def asT : Value → Nat → Option Value
 | .tuple vs, i => vs[i]?
 | _, _ => none
@[go_sem] theorem asT_tuple (vs : List Value) (i : Nat) : asT (.tuple vs.toArray) i = vs[i]? := by simp [asT]
@[go_sem ↓] theorem ro_extract (x : Operand) (i : Nat) : ROps P md lk draw ops (⟨d, .extract x i, ty, pos, af, none⟩ :: r) σ H K = q2s (asT (ev σ x) i) fun v => ROps P md lk draw ops r (put σ d v) H K := by
 rw [q1p (x := (asT (ev σ x) i).map fun v => (v, H)) (fun _ => by
  simp only [iop]; unfold asT
  split <;> simp_all), q1s]
@[go_sem ↓] theorem ro_len (x : Operand) (t : TypeId) : ROps P md lk draw ops (⟨d, .call ⟨.builtin .len, #[x], #[t]⟩, ty, pos, af, none⟩ :: r) σ H K = q2s (ilen P t (ev σ x)) fun v => ROps P md lk draw ops r (put σ d v) H K := by
 rw [q1p (x := (ilen P t (ev σ x)).map fun v => (v, H)) (fun _ => rfl), q1s]
@[go_sem ↓] theorem ro_cap (x : Operand) (t : TypeId) : ROps P md lk draw ops (⟨d, .call ⟨.builtin .cap, #[x], #[t]⟩, ty, pos, af, none⟩ :: r) σ H K = q2s (icap P t (ev σ x)) fun v => ROps P md lk draw ops r (put σ d v) H K := by
 rw [q1p (x := (icap P t (ev σ x)).map fun v => (v, H)) (fun _ => rfl), q1s]
theorem lit_lock (x y : Operand) (t t2 : TypeId) : (draw && !loud ops (.call ⟨.builtin .append, #[x, y], #[t, t2]⟩)) = (draw && toLit ops [x, y]) := by
 show (draw && !(!toLit ops [x, y])) = _
 rw [Bool.not_not]
@[go_sem ↓] theorem ro_append (x y : Operand) (t t2 : TypeId) (h : (draw && toLit ops [x, y]) = false) : ROps P md lk draw ops (⟨d, .call ⟨.builtin .append, #[x, y], #[t, t2]⟩, ty, pos, af, none⟩ :: r) σ H K = q3z (q2u P lk H t t2 (ev σ x) (ev σ y)) fun v H' => ROps P md lk draw ops r (put σ d v) H' K := by
 rw [q3f, q1p (x := q2u P lk H t t2 (ev σ x) (ev σ y)) (fun _ => by rw [lit_lock, h]; rfl)]
@[go_sem ↓] theorem ro_append_lit (x y : Operand) (t t2 : TypeId) (h : (draw && toLit ops [x, y]) = true) : ROps P md lk draw ops (⟨d, .call ⟨.builtin .append, #[x, y], #[t, t2]⟩, ty, pos, af, none⟩ :: r) σ H K = q3z (q2u P H.length H t t2 (ev σ x) (ev σ y)) fun v H' => ROps P md lk draw ops r (put σ d v) H' K := by
 rw [q3f, q1p (x := q2u P H.length H t t2 (ev σ x) (ev σ y)) (fun _ => by rw [lit_lock, h]; rfl)]
@[go_sem ↓] theorem ro_max (x y : Operand) (ts : Array TypeId) : ROps P md lk draw ops (⟨d, .call ⟨.builtin .max, #[x, y], ts⟩, ty, pos, af, none⟩ :: r) σ H K = q2s (imax2 (ev σ x) (ev σ y)) fun v => ROps P md lk draw ops r (put σ d v) H K := by
 rw [q1p (x := (imax2 (ev σ x) (ev σ y)).map fun v => (v, H)) (fun _ => by
  simp only [iop, List.map_cons, List.map_nil, ifold]
  cases imax2 (ev σ x) (ev σ y) <;> rfl), q1s]
@[go_sem ↓] theorem ro_min (x y : Operand) (ts : Array TypeId) : ROps P md lk draw ops (⟨d, .call ⟨.builtin .min, #[x, y], ts⟩, ty, pos, af, none⟩ :: r) σ H K = q2s (imin2 (ev σ x) (ev σ y)) fun v => ROps P md lk draw ops r (put σ d v) H K := by
 rw [q1p (x := (imin2 (ev σ x) (ev σ y)).map fun v => (v, H)) (fun _ => by
  simp only [iop, List.map_cons, List.map_nil, ifold]
  cases imin2 (ev σ x) (ev σ y) <;> rfl), q1s]

noncomputable def q0c (P : Program) (md : Md) (lk : Nat) (g : FuncId) (args : List Value) (H : Heap) : Option (Value × Heap) :=
 match P.funcs[g]? with
 | none => none
 | some fn =>
  if fn.body.isSome then w1j P md lk g args H
  else if fn.origin ≠ "" then none
  else (w0p fn.name args).map fun v => (v, H)

def asF : Value → Option (FuncId × List Value)
 | .func (.func g) first cap => if first.size = 0 then some (g, cap.toList) else none
 | _ => none
@[go_sem] theorem asF_func (g : FuncId) (cap : Array Value) : asF (.func (.func g) #[] cap) = some (g, cap.toList) := rfl

theorem ro_call0 (f : Operand) (xs : Array Operand) (ts : Array TypeId) : ROps P md lk draw ops (⟨d, .call ⟨.value f, xs, ts⟩, ty, pos, af, none⟩ :: r) σ H K =
  q2s (asF (ev σ f)) fun q => q2s (q0c P md (if draw = true then H.length else lk) q.1 (xs.toList.map (ev σ) ++ q.2) H) fun p => ROps P md lk draw ops r (put σ d p.1) p.2 K := by
 rw [ro_cons]
 have hl : (if draw && !loud ops (.call ⟨.value f, xs, ts⟩) then H.length else lk) = (if draw = true then H.length else lk) := by cases draw <;> rfl
 rw [hl]
 generalize (if draw = true then H.length else lk) = lk'
 apply propext
 have hF : asF (ev σ f) = none → ∀ n, iop P (wrap md (q1k P md n)) lk' (.call ⟨.value f, xs, ts⟩) σ H = none := by
  intro h n
  simp only [iop]
  unfold asF at h
  split at h
  ·rename_i heq
   rw [heq]
   simp only
   split at h
   ·simp at h
   ·rename_i hne; rw [if_neg hne]
  ·rename_i hne
   split
   ·rename_i heq; exact (hne _ _ _ heq).elim
   ·rfl
 cases hq : asF (ev σ f) with
 | none =>
  simp only [q2s, iff_false]
  rintro ⟨n, v, H1, h1, _⟩
  rw [hF hq] at h1; simp at h1
 | some q =>
  simp only [q9c]
  have hi : ∀ n, iop P (wrap md (q1k P md n)) lk' (.call ⟨.value f, xs, ts⟩) σ H = q3g P (wrap md (q1k P md n)) lk' q.1 (xs.toList.map (ev σ) ++ q.2) H := by
   intro n
   unfold asF at hq
   split at hq
   ·rename_i g first cap heq
    split at hq
    ·rename_i hs
     injection hq with hq; subst hq
     simp only [iop, heq, if_pos hs]
    ·simp at hq
   ·simp at hq
  constructor
  ·rintro ⟨n, v, H1, h1, h2⟩
   rw [hi] at h1
   refine q8c.2 ⟨(v, H1), ?_, h2⟩
   unfold q3g at h1
   unfold q0c
   split at h1
   ·simp at h1
   ·rename_i fn hfn
    rw [hfn]
    simp only
    split at h1
    ·rename_i hb
     rw [if_pos hb]; exact q2o.2 ⟨n, h1⟩
    ·rename_i hb
     rw [if_neg hb]; exact h1
  ·intro h
   obtain ⟨p, h1, h2⟩ := q8c.1 h
   unfold q0c at h1
   split at h1
   ·simp at h1
   ·rename_i fn hfn
    split at h1
    ·rename_i hb
     obtain ⟨n, hn⟩ := q2o.1 h1
     refine ⟨n, p.1, p.2, ?_, h2⟩
     rw [hi]; unfold q3g; rw [hfn]; simp only [if_pos hb]; exact hn
    ·rename_i hb
     refine ⟨0, p.1, p.2, ?_, h2⟩
     rw [hi]; unfold q3g; rw [hfn]; simp only [if_neg hb]; exact h1
@[go_sem ↓] theorem ro_call (f : Operand) (xs : Array Operand) (ts : Array TypeId) : ROps P md lk draw ops (⟨d, .call ⟨.value f, xs, ts⟩, ty, pos, af, none⟩ :: r) σ H K =
  q2s (asF (ev σ f)) fun q => q3z (q0c P md (if draw = true then H.length else lk) q.1 (xs.toList.map (ev σ) ++ q.2) H) fun v H' => ROps P md lk draw ops r (put σ d v) H' K := by
 rw [ro_call0]
 cases asF (ev σ f) with
 | none => rfl
 | some q => rw [q9c, q9c, q3f]


@[go_sem] theorem put_some (k : Nat) (v : Value) : put σ (some k) v = upd σ k v := rfl
@[go_sem] theorem put_none (v : Value) : put σ none v = σ := rfl
@[go_sem] theorem upd_same (k : Nat) (v : Value) : upd σ k v k = v := by simp [upd]
@[go_sem] theorem upd_ne (k j : Nat) (v : Value) (h : (j == k) = false) : upd σ k v j = σ j := by
 have : j ≠ k := by simpa using h
 simp [upd, this]
@[go_sem] theorem ev_tmp (t : Nat) : ev σ (.tmp t) = σ t := rfl
@[go_sem] theorem ev_int (k : IntKind) (n : Int) : ev σ (.const (.int k n)) = .int k n := rfl
@[go_sem] theorem ev_bool (b : Bool) : ev σ (.const (.bool b)) = .bool b := rfl
@[go_sem] theorem ev_str (s : ByteArray) : ev σ (.const (.string s)) = .string s := rfl
@[go_sem] theorem ev_nils : ev σ (.const (.slice none 0 0)) = .slice none 0 0 := rfl
@[go_sem] theorem ev_func (f : FuncId) : ev σ (.func f) = .func (.func f) #[] #[] := rfl
@[go_sem] theorem args0_nil (j : Nat) : q4j [] j = undef := rfl
@[go_sem] theorem args0_zero (v : Value) (r : List Value) : q4j (v :: r) 0 = v := rfl
@[go_sem] theorem args0_succ (v : Value) (r : List Value) (j : Nat) : q4j (v :: r) (j + 1) = q4j r j := rfl
end

section
variable {P : Program} {md : Md} {lk : Nat} {g : FuncId} {fn : Func} {body : Code} {args : List Value} {H : Heap}

def Ends (P : Program) (fn : Func) (R : Value → Heap → Prop) : Ex → Env → Heap → Prop
 | .exit _, _, _ => False
 | _, σ, H => q2s (ires P fn σ H) fun v => R v H
theorem Ends_normal {R : Value → Heap → Prop} (σ : Env) (H : Heap) : Ends P fn R .normal σ H = q2s (ires P fn σ H) fun v => R v H := rfl
theorem Ends_ret {R : Value → Heap → Prop} (σ : Env) (H : Heap) : Ends P fn R .ret σ H = q2s (ires P fn σ H) fun v => R v H := rfl
theorem Ends_exit {R : Value → Heap → Prop} (i : Nat) (σ : Env) (H : Heap) : Ends P fn R (.exit i) σ H = False := rfl

theorem q7e (hg : P.funcs[g]? = some fn) (hb : fn.body = some body) {R : Value → Heap → Prop} (h : Runs P md lk body (q4j args) H (Ends P fn R)) : ∃ n v H', q1k P md n lk g args H = some (v, H') ∧ R v H' := by
 obtain ⟨n, e, σ', H', h1, h2⟩ := h
 have key : e ≠ .exit 0 ∧ (∀ i, e ≠ .exit i) := by
  constructor
  ·rintro rfl; exact h2
  ·rintro i rfl; exact h2
 have h3 : q2s (ires P fn σ' H') fun v => R v H' := by
  cases e with
  | normal => exact h2
  | exit i => exact h2.elim
  | ret => exact h2
 obtain ⟨v, h4, h5⟩ := q8c.1 h3
 refine ⟨n, v, H', ?_, h5⟩
 unfold q1k
 rw [hg]
 simp only [hb, h1]
 cases e with
 | normal => simp only [h4]
 | exit i => exact absurd rfl (key.2 i)
 | ret => simp only [h4]

theorem pcall_val (hm : md g = 1) (hg : P.funcs[g]? = some fn) (hb : fn.body = some body) {v : Value} (hk : kokV v = true) (h : Runs P md H.length body (q4j args) H (Ends P fn fun u _ => u = v)) : w1j P md lk g args H = some (v, H) := by
 obtain ⟨n, u, H', h1, rfl⟩ := q7e hg hb h
 refine q2o.2 ⟨n, ?_⟩
 unfold wrap q3q
 rw [hm]
 simp only [h1, hk, if_true]

theorem pcall_own (hm : md g = 2) (hg : P.funcs[g]? = some fn) (hb : fn.body = some body) {v : Value} {N : List Blk} (h : Runs P md H.length body (q4j args) H (Ends P fn fun u H' => q4i H' H.length u = some (v, N))) : w1j P md lk g args H = some (v, H ++ N) := by
 obtain ⟨n, u, H', h1, h2⟩ := q7e hg hb h
 refine q2o.2 ⟨n, ?_⟩
 unfold wrap q3q
 rw [hm]
 simp only [h1, h2]

theorem q0a (hm : md g = 1) (hg : P.funcs[g]? = some fn) (hb : fn.body = some body) {v : Value} (hk : kokV v = true) (h : Runs P md H.length body (q4j args) H (Ends P fn fun u _ => u = v)) : q0c P md lk g args H = some (v, H) := by
 unfold q0c
 rw [hg]
 simp only [hb, Option.isSome_some, if_true]
 exact pcall_val hm hg hb hk h
theorem q4x (hm : md g = 2) (hg : P.funcs[g]? = some fn) (hb : fn.body = some body) {v : Value} {N : List Blk} (h : Runs P md H.length body (q4j args) H (Ends P fn fun u H' => q4i H' H.length u = some (v, N))) : q0c P md lk g args H = some (v, H ++ N) := by
 unfold q0c
 rw [hg]
 simp only [hb, Option.isSome_some, if_true]
 exact pcall_own hm hg hb h
theorem w1s (hm : md g ≠ 1) (hm2 : md g ≠ 2) (hm3 : md g ≠ 3 ∧ md g ≠ 4 ∧ md g ≠ 5) (hg : P.funcs[g]? = some fn) (hb : fn.body = some body) {v : Value} {H1 : Heap} (h : Runs P md lk body (q4j args) H (Ends P fn fun u H' => u = v ∧ H' = H1)) : q0c P md lk g args H = some (v, H1) := by
 obtain ⟨n, u, H', h1, rfl, rfl⟩ := q7e hg hb h
 unfold q0c
 rw [hg]
 simp only [hb, Option.isSome_some, if_true]
 refine q2o.2 ⟨n, ?_⟩
 unfold wrap
 split
 ·rename_i h; exact absurd h hm3.2.2
 ·unfold q3q
  split
  ·rename_i h; exact absurd h hm
  ·rename_i h; exact absurd h hm2
  ·rename_i h; exact absurd h hm3.1
  ·rename_i h; exact absurd h hm3.2.1
  ·rename_i h; exact absurd h hm3.2.2
  ·exact h1
theorem gcall_ext (hg : P.funcs[g]? = some fn) (hb : fn.body = none) (ho : fn.origin = "") : q0c P md lk g args H = (w0p fn.name args).map fun v => (v, H) := by
 unfold q0c
 rw [hg]
 simp [hb, ho]
theorem pcall_raw (hm : md g ≠ 1) (hm2 : md g ≠ 2) (hm3 : md g ≠ 3 ∧ md g ≠ 4 ∧ md g ≠ 5) (hg : P.funcs[g]? = some fn) (hb : fn.body = some body) {R : Value → Heap → Prop} (h : Runs P md lk body (q4j args) H (Ends P fn R)) : ∃ v H', w1j P md lk g args H = some (v, H') ∧ R v H' := by
 obtain ⟨n, u, H', h1, h2⟩ := q7e hg hb h
 refine ⟨u, H', q2o.2 ⟨n, ?_⟩, h2⟩
 unfold wrap
 split
 ·rename_i h; exact absurd h hm3.2.2
 ·unfold q3q
  split
  ·rename_i h; exact absurd h hm
  ·rename_i h; exact absurd h hm2
  ·rename_i h; exact absurd h hm3.1
  ·rename_i h; exact absurd h hm3.2.1
  ·rename_i h; exact absurd h hm3.2.2
  ·exact h1
theorem pcall_orc (hm : md g = 5) {n : Nat} {v : Value} {H1 : Heap} (h : md.orc (q3q md (q1k P md n)) lk g args H = some (v, H1)) : w1j P md lk g args H = some (v, H1) := by
 refine q2o.2 ⟨n, ?_⟩
 unfold wrap
 rw [hm]
 exact h

theorem q7f (hg : P.funcs[g]? = some fn) (hb : fn.body.isSome = true) : q0c P md lk g args H = w1j P md lk g args H := by
 unfold q0c; rw [hg]; simp only [if_pos hb]
end
end Gx
end
