/- Lemmas for the row: plain facts, or contracts of functions. -/
import Derived.Test.YtehnbdbhjeffaaaGreatGz43
import Derived.Test.YtehnbdbhjeffaaaGreatGz44
import Derived.Test.YtehnbdbhjeffaaaGreatGz46
set_option linter.all false
section
set_option autoImplicit false
namespace Gx
open Go Go.Proofs
open Go.Proofs.Tryz (prog)
set_option maxRecDepth 10000
section
variable {P : Program} {md : Md} {lk : Nat} {σ : Env} {H : Heap} {Q : Ex → Env → Heap → Prop}
theorem w4h {c : Code} (h : Runs P md lk c σ H (Then P md lk (.loop c) Q)) : Runs P md lk (.loop c) σ H Q := by
 obtain ⟨n, e, σ1, H1, h1, h2⟩ := h
 cases e with
 | normal =>
  obtain ⟨m, e2, σ2, H2, h3, h4⟩ := h2
  refine ⟨max n m + 1, e2, σ2, H2, ?_, h4⟩
  simp only [q0s, q3b _ _ (Nat.le_max_left n m) _ _ _ _ _ h1, q3b _ _ (Nat.le_max_right n m) _ _ _ _ _ h3]
 | exit id => exact ⟨n + 1, _, _, _, by simp only [q0s, h1], h2⟩
 | ret => exact ⟨n + 1, _, _, _, by simp only [q0s, h1], h2⟩
end
section
variable {α : Type} [Enc α]
def OwnP (lo : Nat) (H : Heap) (a : Option Addr) (l : List α) : Prop := (a = none ∧ l = []) ∨ ∃ b B, a = some ⟨b, 0, none⟩ ∧ lo ≤ b ∧ q0e H b = some B ∧ B.sz = Enc.n α ∧ B.c.take (l.length * Enc.n α) = q0g l ∧ l.length * Enc.n α ≤ B.c.length
theorem SL.first {H : Heap} {a : Option Addr} {l : List α} (h : SL H a l) : q9r H (Enc.n α) l.length (.slice a l.length l.length) = some (q0g l) := by
 rcases h with ⟨rfl, rfl⟩ | ⟨b, o, B, rfl, h2, h3, h4, h5⟩
 ·rfl
 ·rw [ifirst_eq, if_pos ⟨Nat.le_refl _, rfl⟩]
  by_cases h0 : l.length = 0
  ·rw [if_pos h0, List.eq_nil_of_length_eq_zero h0]; rfl
  ·rw [if_neg h0, h2]
   simp only [h3, if_true]
   unfold isub
   rw [if_pos h5, h4]
variable {P : Program} {lk : Nat} {t t2 e e2 : TypeId} {k by_ : Nat} {zs : List Value}
theorem ap_all {H0 H : Heap} {a b : Option Addr} {l r : List α} (hE : Ext H0 H) (h : OwnP H0.length H a l) (hr : SL H b r) (hlk : lk ≤ H0.length) (he : q0z P t = some e) (he2 : q0z P t2 = some e2) (hk : tsz P e = some k) (hb : q0r P e = some by_) (hz : q1x P e = some zs)
  (hkn : k = Enc.n α) (hk0 : 0 < k) (hzs : zs.length = k) (hb0 : 0 < by_) (hle : (l.length + r.length) * by_ ≤ 70368744177664) :
  ∃ a' H', q2u P lk H t t2 (.slice a l.length l.length) (.slice b r.length r.length) = some (.slice a' (l.length + r.length) (l.length + r.length), H') ∧ Ext H0 H' ∧ Own H0.length H' a' (l ++ r) ∧ (a = none → r = [] → a' = none) := by
 subst hkn
 have hf := hr.first
 rw [q9h]
 simp only [he, he2, hk, hb, hz, w1r, hf]
 rw [if_pos ⟨hk0, hzs, hb0⟩]
 rcases h with ⟨rfl, rfl⟩ | ⟨c, B, rfl, h2, h3, h4, h5, h6⟩
 ·simp only [List.length_nil, Nat.zero_add, List.nil_append] at hle ⊢
  rw [if_pos hle]
  by_cases h0 : r.length = 0
  ·rw [if_pos h0, h0]
   have := List.eq_nil_of_length_eq_zero h0
   subst this
   exact ⟨none, H, rfl, hE, Own.nil, fun _ _ => rfl⟩
  ·rw [if_neg h0]
   exact ⟨_, _, rfl, hE.more _, .inr ⟨H.length, rfl, hE.le, q0j _ _⟩, fun _ h => absurd (by rw [h]; rfl) h0⟩
 ·simp only [h3]
  rw [if_pos ⟨trivial, h4, Nat.le_trans hlk h2, hle, by omega⟩, List.drop_zero, h5, ← w1z]
  refine ⟨_, _, rfl, (hE.set h2 _).more _, .inr ⟨H.length, rfl, hE.le, ?_⟩, fun h => by cases h⟩
  have := q0j (H := H.set c { B with dead := true }) (q0g (l ++ r)) (Enc.n α)
  rw [List.length_set] at this
  exact this
end
def q0m (g : FuncId) (args : List Value) (H : Heap) (R : Value → Heap → Prop) : Prop :=
 ∀ lk, lk ≤ H.length → ∃ v H', q0c prog md lk g args H = some (v, H') ∧ Ext H H' ∧ R v H'
theorem q0m.mono {g : FuncId} {args : List Value} {H : Heap} {R R' : Value → Heap → Prop} (h : q0m g args H R) (hr : ∀ v H', Ext H H' → R v H' → R' v H') : q0m g args H R' :=
 fun lk hl => let ⟨v, H', h1, h2, h3⟩ := h lk hl; ⟨v, H', h1, h2, hr v H' h2 h3⟩
theorem q1n {g : FuncId} {args : List Value} {H : Heap} {R : Value → Heap → Prop} {fn : Func} {body : Code} (hm : md g ≠ 1 ∧ md g ≠ 2 ∧ md g ≠ 3 ∧ md g ≠ 4 ∧ md g ≠ 5) (hg : prog.funcs[g]? = some fn) (hb : fn.body = some body)
  (h : ∀ lk, lk ≤ H.length → Runs prog md lk body (q4j args) H (Ends prog fn fun v H' => Ext H H' ∧ R v H')) : q0m g args H R := by
 intro lk hl
 obtain ⟨v, H', h1, h2, h3⟩ := pcall_raw hm.1 hm.2.1 ⟨hm.2.2.1, hm.2.2.2.1, hm.2.2.2.2⟩ hg hb (h lk hl)
 refine ⟨v, H', ?_, h2, h3⟩
 rw [q7f hg (by rw [hb]; rfl)]
 exact h1
theorem ob_y {g : FuncId} {args : List Value} {H : Heap} {R : Value → Heap → Prop} {lk : Nat} {f : Value → Heap → Prop} (h : q0m g args H R) (hl : lk ≤ H.length) (hk : ∀ v H', Ext H H' → R v H' → f v H') : q3z (q0c prog md lk g args H) f := by
 obtain ⟨v, H', h1, h2, h3⟩ := h lk hl
 rw [h1]
 exact hk v H' h2 h3
theorem y_val1 {g : FuncId} {args : List Value} {H : Heap} {R : Value → Prop} {fn : Func} {body : Code} (hm : md g = 1) (hg : prog.funcs[g]? = some fn) (hb : fn.body = some body) (hk : ∀ v, R v → kokV v = true)
  (h : Runs prog md H.length body (q4j args) H (Ends prog fn fun v _ => R v)) : ∃ v, (∀ lk, q0c prog md lk g args H = some (v, H)) ∧ R v := by
 obtain ⟨n, v, H', h1, h2⟩ := q7e hg hb h
 refine ⟨v, fun lk => ?_, h2⟩
 rw [q7f hg (by rw [hb]; rfl)]
 refine q2o.2 ⟨n, ?_⟩
 unfold wrap q3q
 rw [hm]
 simp only [h1, hk v h2, if_true]

section
variable {α : Type} [Enc α]
def LV (H : Heap) (v : Value) (l : List α) : Prop := ∃ a, v = .slice a l.length l.length ∧ SL H a l
def OV (lo : Nat) (H : Heap) (v : Value) (l : List α) : Prop := ∃ a, v = .slice a l.length l.length ∧ Own lo H a l
theorem OV.lv {lo : Nat} {H : Heap} {v : Value} {l : List α} (h : OV lo H v l) : LV H v l := let ⟨a, h1, h2⟩ := h; ⟨a, h1, h2.sl⟩
theorem LV.ext {H H' : Heap} {v : Value} {l : List α} (h : LV H v l) (hE : Ext H H') : LV H' v l := let ⟨a, h1, h2⟩ := h; ⟨a, h1, hE.sl h2⟩
theorem LV.nil {H : Heap} : LV H (.slice none 0 0) ([] : List α) := ⟨none, rfl, SL.nil⟩
theorem OV.nil {lo : Nat} {H : Heap} : OV lo H (.slice none 0 0) ([] : List α) := ⟨none, rfl, Own.nil⟩
end
theorem Ext.own {α : Type} [Enc α] {H H' : Heap} (h : Ext H H') {lo : Nat} {a : Option Addr} {l : List α} (ho : Own lo H a l) : Own lo H' a l := by
 rcases ho with h1 | ⟨b, h1, h2, h3⟩
 ·exact .inl h1
 ·exact .inr ⟨b, h1, h2, h.live h3⟩
end Gx
end
section
/- Functions of small numbers, evaluated. (Printed by gene1.py.) -/
set_option autoImplicit false
namespace Gx
open Go Go.Proofs
open Go.Proofs.Tryz (prog)
set_option maxRecDepth 100000
def noPrim : Prim := fun _ _ _ => none
theorem noPrim_ok {P : Program} {md : Md} : ∀ lk g args H r, noPrim g args H = some r → ∃ m, wrap md (q1k P md m) lk g args H = some r := fun _ _ _ _ _ h => nomatch h
noncomputable def q8r (g : Nat) (args : List Value) : Option (Value × Heap) := kgo prog noPrim md 60 0 g args []
noncomputable def w3t (g : Nat) (args : List Value) (n0 : Nat) : Option (Value × Heap) := match q8r g args with
 | some r => closeV n0 r.1 r.2
 | none => none
theorem q9l {g : Nat} {args : List Value} {v : Value} {N : List Blk} {H : Heap} {fn : Func} (lk : Nat) (hm : md g = 4) (hg : prog.funcs[g]? = some fn) (hb : fn.body.isSome = true) (hk : args.all kok1 = true) (h : w3t g args H.length = some (v, N)) : q0c prog md lk g args H = some (v, H ++ N) := by
 unfold w3t at h
 cases ha : q8r g args with
 | none => rw [ha] at h; cases h
 | some r =>
  rw [ha] at h
  simp only at h
  obtain ⟨m, h1⟩ := kgo_sound noPrim_ok 60 0 g args [] _ ha
  rw [q7f hg hb]
  refine q2o.2 ⟨m, ?_⟩
  unfold wrap q3q
  rw [hm]
  simp only [hk, if_true, h1, h]
def P9 : List Nat := [2, 3, 5, 7, 11, 13, 17, 19, 23]
theorem pr9 {p : Nat} (h : Pr p) (hp : p ≤ 23) : p ∈ P9 := by
 have key : ∀ p, p < 24 → Pr p → p ∈ P9 := by decide
 exact key p (by omega) h
theorem q3a {p : Nat} (h : p ∈ P9) : 2 ≤ p ∧ p ≤ 23 := by revert h; revert p; decide
def prt (p : Nat) : Int := match p with
 | 2 => 1
 | 3 => 2
 | 5 => 2
 | 7 => 3
 | 11 => 2
 | 13 => 2
 | 17 => 3
 | 19 => 2
 | 23 => 5
 | _ => 0
def isI (r : Option (Value × Heap)) (z : Int) : Bool := match r with
 | some (.int k' x, _) => decide (k' = .i64) && decide (x = z)
 | _ => false
def isT (r : Option (Value × Heap)) (z : Int) : Bool := match r with
 | some (.tuple vs, _) => match vs.toList with
  | [.int k x, .int k' y] => decide (k = .i64) && decide (k' = .i64) && decide (x = z) && decide (y = 0)
  | _ => false
 | _ => false
theorem isI_call {g : Nat} {args : List Value} {z : Int} {fn : Func} (H : Heap) (lk : Nat) (hm : md g = 4) (hg : prog.funcs[g]? = some fn) (hb : fn.body.isSome = true) (hk : args.all kok1 = true) (h : isI (q8r g args) z = true) : q0c prog md lk g args H = some (.int .i64 z, H) := by
 have hh : w3t g args H.length = some (.int .i64 z, []) := by
  unfold isI at h
  split at h
  ·rename_i k' x H' he
   rw [Bool.and_eq_true, decide_eq_true_iff, decide_eq_true_iff] at h
   obtain ⟨rfl, rfl⟩ := h
   unfold w3t
   rw [he]
   rfl
  ·cases h
 have := q9l lk hm hg hb hk hh
 rw [List.append_nil] at this
 exact this
theorem isT_call {g : Nat} {args : List Value} {z : Int} {fn : Func} (H : Heap) (lk : Nat) (hm : md g = 4) (hg : prog.funcs[g]? = some fn) (hb : fn.body.isSome = true) (hk : args.all kok1 = true) (h : isT (q8r g args) z = true) : q0c prog md lk g args H = some (.tuple #[.int .i64 z, .int .i64 0], H) := by
 have hh : w3t g args H.length = some (.tuple #[.int .i64 z, .int .i64 0], []) := by
  unfold isT at h
  split at h
  ·rename_i vs H' he
   split at h
   ·rename_i k x k' y hv
    rw [Bool.and_eq_true, Bool.and_eq_true, Bool.and_eq_true, decide_eq_true_iff, decide_eq_true_iff, decide_eq_true_iff, decide_eq_true_iff] at h
    obtain ⟨⟨⟨rfl, rfl⟩, rfl⟩, rfl⟩ := h
    have e : vs = #[.int .i64 x, .int .i64 0] := by
     have := congrArg List.toArray hv
     simpa using this
    subst e
    unfold w3t
    rw [he]
    rfl
   ·cases h
  ·cases h
 have := q9l lk hm hg hb hk hh
 rw [List.append_nil] at this
 exact this
set_option maxHeartbeats 0
theorem tPR : P9.all (fun p => isT (q8r 154 [.int .i64 (p : Int)]) (prt p)) = true := by kernel_rfl
theorem p_resPR {p : Nat} (hp : p ∈ P9) (lk : Nat) (H : Heap) : q0c prog md lk 154 [.int .i64 (p : Int)] H = some (.tuple #[.int .i64 (prt p), .int .i64 0], H) :=
 isT_call H lk (by decide) Tryz.func154 rfl rfl (List.all_eq_true.1 tPR p hp)
def legT (p a : Nat) : Int := if a % p = 0 then 0 else if (List.range p).any (fun x => x * x % p == a % p) = true then 1 else -1
theorem tLP : P9.all (fun p => p == 2 || (List.range p).all fun a => isT (q8r 59 [.int .i64 (a : Int), .int .i64 (p : Int)]) (legT p a)) = true := by kernel_rfl
theorem tLR : P9.all (fun p => p == 2 || (List.range p).all fun a => isI (q8r 40 [.int .i64 (a : Int), .int .i64 (p : Int)]) (legT p a)) = true := by kernel_rfl
theorem p_resLeg {p a : Nat} (hp : p ∈ P9) (h2 : p ≠ 2) (ha : a < p) (lk : Nat) (H : Heap) : q0c prog md lk 59 [.int .i64 (a : Int), .int .i64 (p : Int)] H = some (.tuple #[.int .i64 (legT p a), .int .i64 0], H) := by
 have := List.all_eq_true.1 tLP p hp
 rw [Bool.or_eq_true, beq_iff_eq] at this
 rcases this with h | h
 ·exact absurd h h2
 ·exact isT_call H lk (by decide) Tryz.func59 rfl rfl (List.all_eq_true.1 h a (List.mem_range.2 ha))
theorem r4_Leg {p a : Nat} (hp : p ∈ P9) (h2 : p ≠ 2) (ha : a < p) (lk : Nat) (H : Heap) : q0c prog md lk 40 [.int .i64 (a : Int), .int .i64 (p : Int)] H = some (.int .i64 (legT p a), H) := by
 have := List.all_eq_true.1 tLR p hp
 rw [Bool.or_eq_true, beq_iff_eq] at this
 rcases this with h | h
 ·exact absurd h h2
 ·exact isI_call H lk (by decide) Tryz.func40 rfl rfl (List.all_eq_true.1 h a (List.mem_range.2 ha))
theorem tMP : P9.all (fun p => isI (q8r 124 [.int .i64 (p : Int)]) (-1)) = true := by kernel_rfl
theorem tM1 : isI (q8r 124 [.int .i64 1]) 1 = true := by kernel_rfl
theorem r4_Moe {p : Nat} (hp : p ∈ P9) (lk : Nat) (H : Heap) : q0c prog md lk 124 [.int .i64 (p : Int)] H = some (.int .i64 (-1), H) :=
 isI_call H lk (by decide) Tryz.func124 rfl rfl (List.all_eq_true.1 tMP p hp)
theorem r4_Moe1 (lk : Nat) (H : Heap) : q0c prog md lk 124 [.int .i64 1] H = some (.int .i64 1, H) :=
 isI_call H lk (by decide) Tryz.func124 rfl rfl tM1
theorem r4_PR {p : Nat} (hp : p ∈ P9) (lk : Nat) (H : Heap) : q0c prog md lk 87 [.int .i64 (p : Int)] H = some (.tuple #[.int .i64 (prt p), .bool true], H) := by
 have key : ∀ n0, w3t 87 [.int .i64 (p : Int)] n0 = some (.tuple #[.int .i64 (prt p), .bool true], []) := by
  intro n0
  simp only [P9, List.mem_cons, List.not_mem_nil, or_false] at hp
  rcases hp with rfl | rfl | rfl | rfl | rfl | rfl | rfl | rfl | rfl <;> kernel_rfl
 have := q9l (H := H) lk (by decide) Tryz.func87 rfl rfl (key H.length)
 rw [List.append_nil] at this
 exact this
def mis (l : List Int) : List MI := l.map fun x => ⟨x⟩
theorem lists_call {g : Nat} {args : List Value} {l : List Int} {fn : Func} (hm : md g = 4) (hg : prog.funcs[g]? = some fn) (hb : fn.body.isSome = true) (hk : args.all kok1 = true) (h : ∀ n0, w3t g args n0 = some (.slice (some ⟨n0 + 0, 0, none⟩) l.length l.length, [⟨q0g (mis l), 1, false⟩])) (H : Heap) : q0m g args H fun v H' => OV H.length H' v (mis l) := by
 intro lk hl
 refine ⟨_, _, q9l lk hm hg hb hk (h H.length), Ext.app _ _, some ⟨H.length, 0, none⟩, by simp [mis], .inr ⟨H.length, rfl, Nat.le_refl _, q0j _ _⟩⟩
theorem p_phi {p : Nat} (hp : p ∈ P9) (H : Heap) : q0m 146 [.int .i64 (p : Int)] H fun v H' => OV H.length H' v (mis (List.replicate p 1)) := by
 refine lists_call (by decide) Tryz.func146 rfl rfl (fun n0 => ?_) H
 simp only [P9, List.mem_cons, List.not_mem_nil, or_false] at hp
 rcases hp with rfl | rfl | rfl | rfl | rfl | rfl | rfl | rfl | rfl <;> kernel_rfl
def unitsL (p : Nat) : List Int := (List.range (p - 1)).map fun i => ((i + 1 : Nat) : Int)
theorem p_units {p : Nat} (hp : p ∈ P9) (H : Heap) : q0m 142 [.int .i64 (p : Int)] H fun v H' => OV H.length H' v (mis (unitsL p)) := by
 refine lists_call (by decide) Tryz.func142 rfl rfl (fun n0 => ?_) H
 simp only [P9, List.mem_cons, List.not_mem_nil, or_false] at hp
 rcases hp with rfl | rfl | rfl | rfl | rfl | rfl | rfl | rfl | rfl <;> kernel_rfl
end Gx
end
section
/- Polynomials over a commutative ring, as sequences of coefficients: sums and products. -/
set_option autoImplicit false
namespace Gx.A
section
abbrev R : Type := Rat
def sm (G : Nat → R) : Nat → R
 | 0 => 0
 | n + 1 => sm G n + G n
theorem sm_congr {G F : Nat → R} {n : Nat} (h : ∀ i, i < n → G i = F i) : sm G n = sm F n := by
 induction n with
 | zero => rfl
 | succ n ih => rw [sm, sm, ih fun i hi => h i (by omega), h n (by omega)]
theorem sm_zero (n : Nat) : sm (fun _ => (0 : R)) n = 0 := by
 induction n with
 | zero => rfl
 | succ n ih => rw [sm, ih]; grind
theorem sm_zero' {G : Nat → R} {n : Nat} (h : ∀ i, i < n → G i = 0) : sm G n = 0 := by rw [sm_congr h, sm_zero]
theorem sm_add (G F : Nat → R) (n : Nat) : sm (fun i => G i + F i) n = sm G n + sm F n := by
 induction n with
 | zero => simp only [sm]; grind
 | succ n ih => rw [sm, sm, sm, ih]; grind
theorem sm_sub (G F : Nat → R) (n : Nat) : sm (fun i => G i - F i) n = sm G n - sm F n := by
 induction n with
 | zero => simp only [sm]; grind
 | succ n ih => rw [sm, sm, sm, ih]; grind
theorem sm_mul (c : R) (G : Nat → R) (n : Nat) : sm (fun i => c * G i) n = c * sm G n := by
 induction n with
 | zero => simp only [sm]; grind
 | succ n ih => rw [sm, sm, ih]; grind
theorem sm_mulr (G : Nat → R) (c : R) (n : Nat) : sm (fun i => G i * c) n = sm G n * c := by
 induction n with
 | zero => simp only [sm]; grind
 | succ n ih => rw [sm, sm, ih]; grind
theorem sm_front (G : Nat → R) (n : Nat) : sm G (n + 1) = G 0 + sm (fun i => G (i + 1)) n := by
 induction n with
 | zero => simp only [sm]; grind
 | succ n ih => rw [sm, ih, sm]; grind
theorem sm_rev (G : Nat → R) (n : Nat) : sm G n = sm (fun i => G (n - 1 - i)) n := by
 induction n with
 | zero => rfl
 | succ n ih =>
  rw [sm_front (fun i => G (n + 1 - 1 - i)), sm, ih]
  have : sm (fun i => G (n + 1 - 1 - (i + 1))) n = sm (fun i => G (n - 1 - i)) n := sm_congr fun i hi => by congr 1; omega
  rw [this]
  simp only [Nat.add_sub_cancel, Nat.sub_zero]
  grind
theorem sm_one (G : Nat → R) (n k : Nat) (hk : k < n) (h : ∀ i, i < n → i ≠ k → G i = 0) : sm G n = G k := by
 induction n with
 | zero => omega
 | succ n ih =>
  rw [sm]
  by_cases hn : k = n
  ·subst hn
   rw [sm_zero' fun i hi => h i (by omega) (by omega)]; grind
  ·rw [ih (by omega) fun i hi => h i (by omega), h n (by omega) (fun e => hn e.symm)]; grind
theorem sm_more (G : Nat → R) (n m : Nat) (hm : n ≤ m) (h : ∀ i, n ≤ i → i < m → G i = 0) : sm G m = sm G n := by
 induction m with
 | zero => have : n = 0 := by omega
           subst this; rfl
 | succ m ih =>
  by_cases hn : n = m + 1
  ·subst hn; rfl
  ·rw [sm, ih (by omega) fun i h1 h2 => h i h1 (by omega), h m (by omega) (by omega)]; grind
def conv (a b : Nat → R) (k : Nat) : R := sm (fun i => a i * b (k - i)) (k + 1)
theorem conv_zero (a b : Nat → R) : conv a b 0 = a 0 * b 0 := by simp only [conv, sm, Nat.sub_self]; grind
theorem conv_succ (a b : Nat → R) (k : Nat) : conv a b (k + 1) = a 0 * b (k + 1) + conv (fun i => a (i + 1)) b k := by
 unfold conv
 rw [sm_front]
 have : sm (fun i => a (i + 1) * b (k + 1 - (i + 1))) (k + 1) = sm (fun i => a (i + 1) * b (k - i)) (k + 1) := sm_congr fun i _ => by congr 2; omega
 rw [this, Nat.sub_zero]
theorem conv_comm (a b : Nat → R) (k : Nat) : conv a b k = conv b a k := by
 unfold conv
 rw [sm_rev]
 refine sm_congr fun i hi => ?_
 have e1 : k + 1 - 1 - i = k - i := by omega
 have e2 : k - (k - i) = i := by omega
 rw [e1, e2]; grind
theorem conv_congr {a b c d : Nat → R} {k : Nat} (h1 : ∀ i, i ≤ k → a i = c i) (h2 : ∀ i, i ≤ k → b i = d i) : conv a b k = conv c d k :=
 sm_congr fun i hi => by rw [h1 i (by omega), h2 (k - i) (by omega)]
theorem conv_add (a b c : Nat → R) (k : Nat) : conv (fun i => a i + b i) c k = conv a c k + conv b c k := by
 unfold conv
 rw [← sm_add]
 exact sm_congr fun i _ => by grind
theorem conv_sub (a b c : Nat → R) (k : Nat) : conv (fun i => a i - b i) c k = conv a c k - conv b c k := by
 unfold conv
 rw [← sm_sub]
 exact sm_congr fun i _ => by grind
theorem conv_mul (x : R) (a b : Nat → R) (k : Nat) : conv (fun i => x * a i) b k = x * conv a b k := by
 unfold conv
 rw [← sm_mul]
 exact sm_congr fun i _ => by grind
theorem conv_nil (b : Nat → R) (k : Nat) : conv (fun _ => 0) b k = 0 := sm_zero' fun i _ => by grind
theorem conv_assoc (a b c : Nat → R) (k : Nat) : conv (conv a b) c k = conv a (conv b c) k := by
 induction k generalizing a b c with
 | zero => simp only [conv_zero]; grind
 | succ k ih =>
  rw [conv_succ (conv a b), conv_succ a (conv b c)]
  have h : (fun i => conv a b (i + 1)) = fun i => a 0 * b (i + 1) + conv (fun i => a (i + 1)) b i := funext fun i => conv_succ a b i
  rw [h, conv_add, conv_mul, ih, conv_zero, conv_succ b c]
  grind
theorem conv_one (a : Nat → R) (k : Nat) : conv (fun i => if i = 0 then 1 else 0) a k = a k := by
 unfold conv
 rw [sm_one _ _ 0 (by omega) fun i _ hi => by simp only []; rw [if_neg hi]; grind]
 simp only [if_true, Nat.sub_zero]; grind
theorem conv_shift (n : Nat) (c : R) (a : Nat → R) (k : Nat) : conv (fun i => if i = n then c else 0) a k = if n ≤ k then c * a (k - n) else 0 := by
 unfold conv
 split
 ·rename_i h
  rw [sm_one _ _ n (by omega) fun i _ hi => by simp only []; rw [if_neg hi]; grind]
  simp only [if_true]
 ·rename_i h
  exact sm_zero' fun i hi => by simp only []; rw [if_neg (by omega)]; grind
def Below (n : Nat) (a : Nat → R) : Prop := ∀ i, n ≤ i → a i = 0
theorem Below.mono {n m : Nat} {a : Nat → R} (h : Below n a) (hm : n ≤ m) : Below m a := fun i hi => h i (by omega)
theorem Below.conv {m n : Nat} {a b : Nat → R} (ha : Below m a) (hb : Below n b) : Below (m + n - 1) (conv a b) := fun k hk => by
 refine sm_zero' fun i hi => ?_
 by_cases h : m ≤ i
 ·rw [ha i h]; grind
 ·rw [hb (k - i) (by omega)]; grind
theorem conv_top {m n : Nat} {a b : Nat → R} (ha : Below (m + 1) a) (hb : Below (n + 1) b) : conv a b (m + n) = a m * b n := by
 unfold A.conv
 rw [sm_one _ _ m (by omega) fun i hi hne => ?_]
 ·congr 2; omega
 ·by_cases h : m + 1 ≤ i
  ·rw [ha i h]; grind
  ·rw [hb (m + n - i) (by omega)]; grind
theorem conv_len {m n : Nat} {a b : Nat → R} (ha : Below m a) (hb : Below n b) (k : Nat) : conv a b k = sm (fun i => if i ≤ k ∧ k - i < n then a i * b (k - i) else 0) m := by
 unfold A.conv
 have h1 : sm (fun i => a i * b (k - i)) (k + 1) = sm (fun i => if i ≤ k ∧ k - i < n then a i * b (k - i) else 0) (k + 1) := sm_congr fun i hi => by
  split
  ·rfl
  ·rename_i h; rw [hb (k - i) (by omega)]; grind
 rw [h1]
 have h2 : ∀ i, k + 1 ≤ i → (if i ≤ k ∧ k - i < n then a i * b (k - i) else 0) = 0 := fun i hi => if_neg (by omega)
 have h3 : ∀ i, m ≤ i → (if i ≤ k ∧ k - i < n then a i * b (k - i) else 0) = 0 := fun i hi => by
  split
  ·rw [ha i hi]; grind
  ·rfl
 by_cases h : m ≤ k + 1
 ·exact sm_more _ _ _ h fun i hi _ => h3 i hi
 ·exact (sm_more _ _ _ (by omega) fun i hi _ => h2 i hi).symm
theorem quot_zero {n m : Nat} {d g s : Nat → R} (hreg : ∀ x : R, x * g n = 0 → x = 0) (hg : Below (n + 1) g) (hs : Below n s) (h : ∀ k, conv d g k = s k) (hd : Below m d) : ∀ k, d k = 0 := by
 induction m with
 | zero => exact fun k => hd k (Nat.zero_le _)
 | succ m ih =>
  refine ih fun i hi => ?_
  by_cases hm : i = m
  ·subst hm
   refine hreg _ ?_
   rw [← conv_top hd hg, h]
   exact hs _ (by omega)
  ·exact hd i (by omega)
theorem div_uniq {n m : Nat} {q q' g r r' : Nat → R} (hreg : ∀ x : R, x * g n = 0 → x = 0) (hg : Below (n + 1) g) (hr : Below n r) (hr' : Below n r') (hq : Below m q) (hq' : Below m q') (h : ∀ k, conv q g k + r k = conv q' g k + r' k) : (∀ k, q k = q' k) ∧ ∀ k, r k = r' k := by
 have hz := quot_zero (d := fun i => q i - q' i) (s := fun i => r' i - r i) (m := m) hreg hg (fun i hi => by simp only []; rw [hr i hi, hr' i hi]; grind) (fun k => by rw [conv_sub]; have := h k; grind) (fun i hi => by simp only []; rw [hq i hi, hq' i hi]; grind)
 have hqq : ∀ k, q k = q' k := fun k => by have := hz k; grind
 refine ⟨hqq, fun k => ?_⟩
 have := h k
 rw [conv_congr (fun i _ => hqq i) (fun i _ => rfl)] at this
 grind
end
end Gx.A
end
section
/- Lists of fractions that grow; the reference's polynomials: what is dropped, read and added. -/
set_option autoImplicit false
namespace Gx
open Go Go.Proofs
open Go.Proofs.Tryz (prog)
set_option maxRecDepth 10000
section
variable {α : Type} [Enc α] {P : Program} {lk : Nat} {t t2 : TypeId}
theorem ap_ownN {lo : Nat} {H : Heap} {a : Option Addr} {l : List α} {n : Nat} (h : Own lo H a l) (hlk : lk ≤ lo) (hn : n = l.length) (N : List Blk) (j : Nat) (new : List Value) (k : Nat) (hk : k = Enc.n α) (hnew : new.length = k) (hj : N[j]? = some ⟨new, k, false⟩) :
  q2u P lk (H ++ N) t t2 (.slice a n n) (.slice (some ⟨H.length + j, 0, none⟩) 1 1) = match q0z P t, q0z P t2 with
 | some e, some _ =>
  match tsz P e, q0r P e, q1x P e with
  | some k', some by_, some zs => if k' = k ∧ 0 < k ∧ zs.length = k ∧ 0 < by_ ∧ (n + 1) * by_ ≤ 70368744177664 then
    some (.slice (some ⟨H.length + N.length, 0, none⟩) (n + 1) (n + 1), kill (H ++ N) a ++ [⟨q0g l ++ new, k, false⟩]) else none
  | _, _, _ => none
 | some e, none => q5j P (H ++ N) e t2 (.slice a n n) (.slice (some ⟨H.length + j, 0, none⟩) 1 1)
 | none, _ => none := by
 subst hn
 rw [q9h]
 cases q0z P t with
 | none => rfl
 | some e =>
 cases q0z P t2 with
 | none => rfl
 | some e2 =>
 cases htz : tsz P e with
 | none => simp [htz]
 | some k' =>
 cases htb : q0r P e with
 | none => simp [htz, htb]
 | some by_ =>
 cases htzz : q1x P e with
 | none => simp [htz, htb, htzz]
 | some zs =>
 have hl : q0e (H ++ N) (H.length + j) = some ⟨new, k, false⟩ := by
  unfold q0e; rw [get_appN, hj]; rfl
 simp only [htz, htb, htzz, w1r, ifirst_eq, hl, Nat.le_refl, true_and, if_true, Nat.one_mul]
 by_cases hkk : k' = k
 ·subst hkk
  have hs : isub new 0 k' = some new := isub_all _ _ hnew
  simp only [Nat.succ_ne_zero, if_false, if_true, hs]
  rcases h with ⟨rfl, rfl⟩ | ⟨b, rfl, h2, h3⟩
  ·simp only [List.length_nil, Nat.zero_add, Nat.one_mul, Gx.kill, cells_nil, List.nil_append, List.length_append]
   by_cases hc : 0 < k' ∧ zs.length = k' ∧ 0 < by_
   ·rw [if_pos hc]
    by_cases hb : by_ ≤ 70368744177664
    ·rw [if_pos hb, if_pos ⟨trivial, hc.1, hc.2.1, hc.2.2, hb⟩]
    ·rw [if_neg hb, if_neg (fun x => hb x.2.2.2.2)]
   ·rw [if_neg hc, if_neg (fun x => hc ⟨x.2.1, x.2.2.1, x.2.2.2.1⟩)]
  ·have hg : q0e (H ++ N) b = some (lblk l) := q0u h3
   simp only [hg, Gx.kill, q2y hg, w2x, q6s, List.drop_zero, Nat.zero_add]
   by_cases hc : 0 < k' ∧ zs.length = k' ∧ 0 < by_
   ·rw [if_pos hc]
    by_cases hb : (l.length + 1) * by_ ≤ 70368744177664
    ·rw [if_pos ⟨trivial, hk.symm, Nat.le_trans hlk h2, hb, by rw [q1l, hk]; exact Nat.le_refl _⟩, if_pos ⟨trivial, hc.1, hc.2.1, hc.2.2, hb⟩]
     rw [List.take_of_length_le (by rw [q1l, hk]; exact Nat.le_refl _)]
     simp [lblk]
    ·rw [if_neg (fun x => hb x.2.2.2.1), if_neg (fun x => hb x.2.2.2.2)]
   ·rw [if_neg hc, if_neg (fun x => hc ⟨x.2.1, x.2.2.1, x.2.2.2.1⟩)]
 ·rw [if_neg (show ¬ k = k' from fun x => hkk x.symm)]
  simp only [hkk, false_and, if_false, Nat.succ_ne_zero]
end
abbrev rC (q : Rat) : List Value := [.bool (decide (q.num < 0)), .string (mkS (q0b q.num.natAbs)), .string (mkS (q0b q.den))]
section
variable {lk : Nat} {H0 H : Heap} {a : Option Addr} {l : List Rat} {n : Nat}
theorem q2w (hE : Ext H0 H) (hO : Own H0.length H a l) (q : Rat) (N : List Blk) : Own H0.length (kill (H ++ N) a ++ [⟨q0g l ++ rC q, 3, false⟩]) (some ⟨H.length + N.length, 0, none⟩) (l ++ [q]) :=
 q9p (lo := H0.length) (H := H) (a := a) (l := l) q N (by have := hE.le; omega)
theorem q2r (hE : Ext H0 H) (hO : Own H0.length H a l) (N M : List Blk) : Ext H0 (kill (H ++ N) a ++ M) := ((hO.more N).kill (hE.more N)).more M
variable {t t2 : TypeId}
theorem q5w (he : q0z prog t = some 55) (he2 : q0z prog t2 = some 55) (hO : Own H0.length H a l) (hlk : lk ≤ H0.length) (hn : n = l.length) (hle : n ≤ 1000000) (q : Rat) :
  q2u prog lk (H ++ [⟨rC q, 3, false⟩]) t t2 (.slice a n n) (.slice (some ⟨H.length, 0, none⟩) 1 1) = some (.slice (some ⟨H.length + 1, 0, none⟩) (n + 1) (n + 1), kill (H ++ [⟨rC q, 3, false⟩]) a ++ [⟨q0g l ++ rC q, 3, false⟩]) := by
 have := ap_ownN (P := prog) (lk := lk) (t := t) (t2 := t2) hO hlk hn [⟨rC q, 3, false⟩] 0 (rC q) 3 rfl rfl rfl
 refine this.trans ?_
 rw [he, he2]
 simp only [go_sem]
 rw [if_pos (by omega)]
theorem ap_rat' (he : q0z prog t = some 55) (he2 : q0z prog t2 = some 55) (hO : Own H0.length H a l) (hlk : lk ≤ H0.length) (hn : n = l.length) (hle : n ≤ 1000000) (q : Rat) (B : Blk) :
  q2u prog lk (H ++ [B, ⟨rC q, 3, false⟩]) t t2 (.slice a n n) (.slice (some ⟨H.length + 1, 0, none⟩) 1 1) = some (.slice (some ⟨H.length + 2, 0, none⟩) (n + 1) (n + 1), kill (H ++ [B, ⟨rC q, 3, false⟩]) a ++ [⟨q0g l ++ rC q, 3, false⟩]) := by
 have := ap_ownN (P := prog) (lk := lk) (t := t) (t2 := t2) hO hlk hn [B, ⟨rC q, 3, false⟩] 1 (rC q) 3 rfl rfl rfl
 refine this.trans ?_
 rw [he, he2]
 simp only [go_sem]
 rw [if_pos (by omega)]
theorem app_rats {b : Option Addr} {r : List Rat} (he : q0z prog t = some 55) (he2 : q0z prog t2 = some 55) (hE : Ext H0 H) (hO : OwnP H0.length H a l) (hr : SL H b r) (hlk : lk ≤ H0.length) (hle : l.length + r.length ≤ 1000000) :
  ∃ a' H', q2u prog lk H t t2 (.slice a l.length l.length) (.slice b r.length r.length) = some (.slice a' (l.length + r.length) (l.length + r.length), H') ∧ Ext H0 H' ∧ Own H0.length H' a' (l ++ r) ∧ (a = none → r = [] → a' = none) :=
 ap_all (P := prog) hE hO hr hlk he he2 (k := 3) (by_ := 40) (zs := [.bool false, .string ByteArray.empty, .string ByteArray.empty]) (by simp only [go_sem]) (by simp only [go_sem]) (by kernel_rfl) rfl (by decide) rfl (by decide) (by omega)
end
def mapR (F : Nat → Rat) (n : Nat) : List Rat := (List.range n).map F
theorem q0d (F : Nat → Rat) (n : Nat) : (mapR F n).length = n := by simp [mapR]
theorem q2d (F : Nat → Rat) (n : Nat) : mapR F (n + 1) = mapR F n ++ [F n] := by simp [mapR, List.range_succ]
def qf (f : List Rat) (i : Nat) : Rat := f.getD i 0
theorem q1y {f : List Rat} {i : Nat} (h : i < f.length) : qf f i = f[i] := by simp [qf, h]
theorem q2a {f : List Rat} {i : Nat} (h : f.length ≤ i) : qf f i = 0 := by simp [qf, h]
def trm (f : List Rat) : List Rat := f.take (q2m f f.length)
theorem w2i (f : List Rat) : (trm f).length = q2m f f.length := by
 unfold trm; rw [List.length_take]; have := q6v f f.length; omega
theorem q7j (f : List Rat) : (trm f).length ≤ f.length := by rw [w2i]; exact q6v _ _
abbrev Sz (q : Rat) : Prop := Sm 4800000 q
def SzL (f : List Rat) : Prop := ∀ x ∈ f, Sz x
theorem SzL.get {f : List Rat} (h : SzL f) {i : Nat} (hi : i < f.length) : Sz f[i] := h _ (List.getElem_mem hi)
theorem SzL.qf {f : List Rat} (h : SzL f) (i : Nat) : Sz (qf f i) := by
 by_cases hi : i < f.length
 ·rw [q1y hi]; exact h.get hi
 ·rw [q2a (by omega)]; exact sm_zero.mono (by decide)
theorem sgn_zero (q : Rat) : (sgn q.num = 0) = (q = 0) := by
 unfold sgn
 apply propext
 constructor
 ·intro h
  split at h
  ·omega
  ·split at h
   ·rename_i h2; exact Rat.num_eq_zero.1 h2
   ·omega
 ·rintro rfl; rfl
theorem q6f (lk : Nat) (H : Heap) : q0c prog md lk 28 [.int .i64 0] H = some (vR 0, H) := q3k lk H 0 (by omega)
theorem r3_one (lk : Nat) (H : Heap) : q0c prog md lk 28 [.int .i64 1] H = some (vR 1, H) := q3k lk H 1 (by omega)
theorem r3_mone (lk : Nat) (H : Heap) : q0c prog md lk 28 [.int .i64 (-1)] H = some (vR (-1), H) := q3k lk H (-1) (by omega)
theorem q0n : q0z prog 23 = some 55 := by simp only [go_sem]
theorem q0o : q0z prog 22 = some 55 := by simp only [go_sem]
theorem SL.ix {H : Heap} {a : Option Addr} {f : List Rat} (hs : SL H a f) (i : Nat) (hi : i < f.length) {t : TypeId} (he : q0z prog t = some 55) :
  ∃ p, q0i prog t (.slice a f.length f.length) (.int .i64 (i : Int)) = some p ∧ ∀ H', Ext H H' → q2n prog H' 55 p = some (vR f[i]) := by
 obtain ⟨b, o, B, rfl, hB, hz, hg⟩ := hs.rat i hi
 refine ⟨.pointer (some ⟨b, o + i * 3, none⟩), ?_, fun H' hE => ?_⟩
 ·have h1 : (i : Int) < (f.length : Int) := by omega
  simp -dsimp only [go_sem, he, hi]
 ·have hB' := hE.live hB
  simp -dsimp only [go_sem, hB', hg]
theorem SL.cut {H : Heap} {a : Option Addr} {f : List Rat} (hs : SL H a f) (k : Nat) (hk : k ≤ f.length) {t : TypeId} (he : q0z prog t = some 55) :
  ∀ H', Ext H H' → q4w prog H' t (.slice a f.length f.length) none (some (.int .i64 (k : Int))) none = some (.slice a k k) := by
 intro H' hE
 rcases hs with ⟨rfl, rfl⟩ | ⟨b, o, B, rfl, h2, h3, _⟩
 ·have : k = 0 := by simpa using hk
  subst this
  simp [q4w, q2l, he, go_sem]
 ·have h4 := q2y (hE.live h2)
  have h5 : B.sz = 3 := h3
  simp [q4w, q2l, he, go_sem, h4, h5, hk]
theorem w0h {H : Heap} {v : Value} {f : List Rat} (hl : f.length ≤ 1000000) (hv : LV H v f) : q0m 79 [v] H (fun v H' => OV H.length H' v (trm f)) := by
 obtain ⟨a, rfl, hs⟩ := hv
 refine q1n (by decide) Tryz.func79 rfl ?_
 intro lk hlk
 simp -dsimp only [go_sem]
 refine q0h (m := id) (I := fun k σ H' => k ≤ f.length ∧ q2m f k = q2m f f.length ∧ H = H' ∧ σ 0 = .slice a f.length f.length ∧ σ 3 = .int .i64 (k : Int)) f.length ⟨Nat.le_refl _, rfl, rfl, rfl, rfl⟩ ?_
 rintro k σ H' ⟨h1, h2, rfl, h0, h3⟩
 have hcut := hs.cut k h1 q0n (H ++ [⟨[], 3, false⟩]) (Ext.app H _)
 have fin : q2m f f.length = k → ∃ a' H2, q2u prog lk (H ++ [⟨[], 3, false⟩]) 23 23 (.slice (some ⟨H.length, 0, none⟩) 0 0) (.slice a k k) = some (.slice a' k k, H2) ∧ Ext H H2 ∧ OV H.length H2 (.slice a' k k) (trm f) := by
  intro hk
  have hO : OwnP H.length (H ++ [⟨[], 3, false⟩]) (some ⟨H.length, 0, none⟩) ([] : List Rat) := .inr ⟨_, _, rfl, Nat.le_refl _, q0j _ _, rfl, rfl, Nat.zero_le _⟩
  have hlen : (trm f).length = k := by rw [w2i, hk]
  have hsb : SL H a (trm f) := by unfold trm; rw [hk]; exact hs.take k h1
  obtain ⟨a', H2, q1, q2, q3, _⟩ := app_rats (lk := lk) (t := 23) (t2 := 23) q0n q0n (Ext.app H _) hO ((Ext.app H [⟨[], 3, false⟩]).sl hsb) hlk (by rw [hlen]; simp only [List.length_nil]; omega)
  rw [hlen, List.length_nil, Nat.zero_add] at q1
  exact ⟨a', H2, q1, q2, a', by rw [hlen], q3⟩
 rcases Nat.eq_zero_or_pos k with hk | hk
 ·subst hk
  rw [Int.natCast_zero] at h3 hcut
  obtain ⟨a', H2, q1, q2, q3⟩ := fin h2.symm
  simp -dsimp only [go_sem, h0, h3, reps, Int.lt_irrefl, hcut, q1]
  exact ⟨q2, q3⟩
 ·obtain ⟨j, rfl⟩ : ∃ j, k = j + 1 := ⟨k - 1, by omega⟩
  have hj : j < f.length := by omega
  obtain ⟨p, hp, hld⟩ := hs.ix j hj q0n
  have hld := hld H (Ext.refl H)
  have e1 : IntKind.i64.wrap (((j + 1 : Nat) : Int) - 1) = (j : Int) := by rw [w64 (by omega) (by omega)]; omega
  have hpos : (0 < ((j + 1 : Nat) : Int)) = True := by simp
  have e3 : q2m f (j + 1) = if f[j] = 0 then q2m f j else j + 1 := by simp [q2m, List.getD, hj]
  have kz := fun lk H' => r3_Sign lk H' f[j]
  have sz := sgn_zero f[j]
  by_cases hz0 : f[j] = 0
  ·rw [if_pos hz0] at e3
   rw [eq_true hz0] at sz
   simp -dsimp only [go_sem, h0, h3, hpos, e1, hp, hld, kz, sz]
   exact next j (by show j < j + 1; omega) ⟨by omega, by rw [← e3, h2], rfl, h0, rfl⟩
  ·rw [if_neg hz0] at e3
   rw [eq_false hz0] at sz
   obtain ⟨a', H2, q1, q2, q3⟩ := fin (by rw [← h2, e3])
   simp -dsimp only [go_sem, h0, h3, hpos, e1, hp, hld, kz, sz, reps, hcut, q1]
   exact ⟨q2, q3⟩
theorem r6_at {H : Heap} {v : Value} {f : List Rat} (hv : LV H v f) (i : Nat) (lk : Nat) : q0c prog md lk 78 [v, .int .i64 (i : Int)] H = some (vR (qf f i), H) := by
 obtain ⟨a, rfl, hs⟩ := hv
 refine q0a rfl Tryz.func78 rfl rfl ?_
 by_cases hi : i < f.length
 ·obtain ⟨p, hp, hld⟩ := hs.ix i hi q0n
  have hld := fun N => hld (H ++ N) (Ext.app H N)
  have f1 : ((i : Int) < (f.length : Int)) = True := eq_true (by omega)
  rw [q1y hi]
  simp -dsimp only [go_sem, f1, hp, hld]
 ·have f1 : ((i : Int) < (f.length : Int)) = False := eq_false (by omega)
  rw [q2a (by omega)]
  simp -dsimp only [go_sem, f1, q6f]
theorem r6_Lead {H : Heap} {v : Value} {f : List Rat} (hv : LV H v f) (hl : f.length ≤ 1000000) (lk : Nat) : q0c prog md lk 120 [v] H = some (vR (qf f (f.length - 1)), H) := by
 obtain ⟨a, rfl, hs⟩ := hv
 refine q0a rfl Tryz.func120 rfl rfl ?_
 by_cases hi : f.length = 0
 ·have f1 : ((f.length : Int) = 0) = True := eq_true (by omega)
  rw [q2a (by omega)]
  simp -dsimp only [go_sem, f1, q6f]
 ·obtain ⟨p, hp, hld⟩ := hs.ix (f.length - 1) (by omega) q0n
  have hld := fun N => hld (H ++ N) (Ext.app H N)
  have f1 : ((f.length : Int) = 0) = False := eq_false (by omega)
  have e1 : IntKind.i64.wrap ((f.length : Int) - 1) = ((f.length - 1 : Nat) : Int) := by rw [w64 (by omega) (by omega)]; omega
  rw [q1y (by omega)]
  simp -dsimp only [go_sem, f1, e1, hp, hld]
theorem imax_nat (a b : Nat) : imax2 (.int .i64 (a : Int)) (.int .i64 (b : Int)) = some (.int .i64 ((max a b : Nat) : Int)) := by
 rw [imax2_eq]; congr 2; split <;> omega
def pAdd (f g : List Rat) : List Rat := trm (mapR (fun i => qf f i + qf g i) (max f.length g.length))
theorem r6_Add {H : Heap} {v w : Value} {f g : List Rat} (hv : LV H v f) (hw : LV H w g) (zf : SzL f) (zg : SzL g) (lf : f.length ≤ 500000) (lg : g.length ≤ 500000) :
  q0m 29 [v, w] H (fun v H' => OV H.length H' v (pAdd f g)) := by
 obtain ⟨a, rfl, hs⟩ := hv
 obtain ⟨b, rfl, ht⟩ := hw
 refine q1n (by decide) Tryz.func29 rfl ?_
 intro lk hlk
 simp -dsimp only [go_sem]
 have hmx := imax_nat f.length g.length
 have hm1 : max f.length g.length ≤ 500000 := by omega
 unfold pAdd
 generalize max f.length g.length = mx at hmx hm1
 obtain ⟨F, hF⟩ : ∃ F : Nat → Rat, F = fun i => qf f i + qf g i := ⟨_, rfl⟩
 rw [← hF]
 refine q0h (m := fun (s : Nat × Option Addr) => mx - s.1) (I := fun s σ H' => s.1 ≤ mx ∧ Ext H H' ∧ Own H.length H' s.2 (mapR F s.1) ∧ σ 0 = .slice a f.length f.length ∧ σ 1 = .slice b g.length g.length ∧ σ 5 = .slice s.2 s.1 s.1 ∧ σ 6 = .int .i64 (s.1 : Int)) (0, none) ⟨Nat.zero_le _, Ext.refl _, Own.nil, rfl, rfl, rfl, rfl⟩ ?_
 rintro ⟨i, c⟩ σ H' ⟨h1, hE, hO, s0, s1, s5, s6⟩
 simp only at h1 hO s5 s6
 have hlen := q0d F i
 by_cases hi : i < mx
 ·have f1 : ((i : Int) < ((mx : Nat) : Int)) = True := eq_true (by omega)
  have e7 : IntKind.i64.wrap ((i : Int) + 1) = ((i + 1 : Nat) : Int) := by rw [w64 (by omega) (by omega)]; omega
  have k1 := r6_at (v := .slice a f.length f.length) ⟨a, rfl, hE.sl hs⟩ i
  have k2 := r6_at (v := .slice b g.length g.length) ⟨b, rfl, hE.sl ht⟩ i
  have k3 := fun lk H' => w2m lk H' (qf f i) (qf g i) (zf.qf i) (zg.qf i)
  have hFi : qf f i + qf g i = F i := by rw [hF]
  rw [hFi] at k3
  have hap := q5w (lk := lk) (t := 23) (t2 := 23) q0n q0n hO hlk hlen.symm (by omega) (F i)
  have hO2 := q2w hE hO (F i) [⟨rC (F i), 3, false⟩]
  rw [← q2d] at hO2
  simp -dsimp only [go_sem, s0, s1, s5, s6, hmx, f1, k1, k2, k3, reps, hap, e7]
  exact next (i + 1, _) (by show mx - (i + 1) < mx - i; omega) ⟨hi, q2r hE hO _ _, hO2, s0, s1, rfl, rfl⟩
 ·have hi' : i = mx := by omega
  subst hi'
  have f1 : ((i : Int) < ((i : Nat) : Int)) = False := eq_false (by omega)
  simp -dsimp only [go_sem, s0, s1, s5, s6, hmx, f1]
  refine ob_y (w0h (f := mapR F i) (by omega) ⟨c, by rw [hlen], hO.sl⟩) (by have := hE.le; omega) ?_
  rintro v H2 hE2 ⟨a', rfl, hO'⟩
  simp -dsimp only [go_sem]
  exact ⟨hE.trans hE2, a', rfl, hO'.low hE.le⟩
def q6b (f : List Rat) (c : Rat) : List Rat := trm (f.map (· * c))
theorem r6_Scale {H : Heap} {v : Value} {f : List Rat} {c : Rat} (hv : LV H v f) (zf : SzL f) (zc : Sz c) (lf : f.length ≤ 1000000) :
  q0m 30 [v, vR c] H (fun v H' => OV H.length H' v (q6b f c)) := by
 obtain ⟨a, rfl, hs⟩ := hv
 refine q1n (by decide) Tryz.func30 rfl ?_
 intro lk hlk
 simp -dsimp only [go_sem]
 unfold q6b
 obtain ⟨F, hF⟩ : ∃ F : Nat → Rat, F = fun i => qf f i * c := ⟨_, rfl⟩
 have hmap : f.map (· * c) = mapR F f.length := by
  apply List.ext_getElem (by simp [mapR])
  intro i h1 h2
  simp only [List.length_map] at h1
  simp [mapR, hF, q1y h1]
 rw [hmap]
 obtain ⟨H1, hH1⟩ : ∃ H1, H1 = H ++ [⟨rC c, 3, false⟩] := ⟨_, rfl⟩
 have hE0 : Ext H H1 := by rw [hH1]; exact Ext.app _ _
 have hb : q0e H1 H.length = some ⟨rC c, 3, false⟩ := by rw [hH1]; exact q0j _ _
 have hl0 := hE0.le
 rw [← hH1]
 refine q0h (m := fun (s : Nat × Option Addr) => f.length - s.1) (I := fun s σ H' => s.1 ≤ f.length ∧ Ext H1 H' ∧ Own H1.length H' s.2 (mapR F s.1) ∧ σ 3 = .pointer (some ⟨H.length, 0, none⟩) ∧ σ 8 = .slice a f.length f.length ∧ σ 9 = .int .i64 (f.length : Int) ∧ σ 5 = .slice s.2 s.1 s.1 ∧ σ 10 = .int .i64 (s.1 : Int)) (0, none) ⟨Nat.zero_le _, Ext.refl _, Own.nil, rfl, rfl, rfl, rfl, rfl⟩ ?_
 rintro ⟨i, c2⟩ σ H' ⟨h1, hE, hO, s3, s8, s9, s5, s10⟩
 simp only at h1 hO s5 s10
 have hlen := q0d F i
 by_cases hi : i < f.length
 ·have f1 : ((i : Int) < (f.length : Int)) = True := eq_true (by omega)
  have e7 : IntKind.i64.wrap ((i : Int) + 1) = ((i + 1 : Nat) : Int) := by rw [w64 (by omega) (by omega)]; omega
  obtain ⟨p, hp, hld⟩ := hs.ix i hi q0n
  have hld := hld H' (hE0.trans hE)
  have hb' := fun N => q0u (N := N) (hE.live hb)
  have k3 := fun lk H' => w3l lk H' f[i] c (zf.get hi) zc
  have hFi : f[i] * c = F i := by rw [hF, ← q1y hi]
  rw [hFi] at k3
  have hap := ap_rat' (lk := lk) (t := 23) (t2 := 23) q0n q0n hO (by omega) hlen.symm (by omega) (F i) ⟨rC f[i], 3, false⟩
  have hO2 := q2w hE hO (F i) [⟨rC f[i], 3, false⟩, ⟨rC (F i), 3, false⟩]
  rw [← q2d] at hO2
  simp -dsimp only [go_sem, s3, s5, s8, s9, s10, f1, hp, hld, hb', k3, reps, hap, e7]
  refine ⟨by have := hE.le; omega, ?_⟩
  exact next (i + 1, _) (by show f.length - (i + 1) < f.length - i; omega) ⟨hi, q2r hE hO _ _, hO2, s3, s8, s9, rfl, rfl⟩
 ·have hi' : i = f.length := by omega
  subst hi'
  have f1 : ((f.length : Int) < (f.length : Int)) = False := eq_false (by omega)
  simp -dsimp only [go_sem, s3, s5, s8, s9, s10, f1]
  refine ob_y (w0h (f := mapR F f.length) (by omega) ⟨c2, by rw [hlen], hO.sl⟩) (by have := hE.le; omega) ?_
  rintro v H2 hE2 ⟨a', rfl, hO'⟩
  simp -dsimp only [go_sem]
  exact ⟨hE0.trans (hE.trans hE2), a', rfl, hO'.low (by have := hE.le; omega)⟩
def pSub (f g : List Rat) : List Rat := pAdd f (q6b g (-1))
theorem szL_trm {f : List Rat} (h : SzL f) : SzL (trm f) := fun x hx => h x (List.mem_of_mem_take hx)
theorem sz_mone : Sz (-1) := Sm.mono (k := 1) ⟨w0w (by decide), w0w (by decide)⟩ (by decide)
theorem szL_scale_neg {f : List Rat} (h : SzL f) : SzL (q6b f (-1)) := by
 refine szL_trm fun x hx => ?_
 obtain ⟨y, hy, rfl⟩ := List.mem_map.1 hx
 have : y * (-1 : Rat) = -y := by rw [Rat.mul_neg, Rat.mul_one]
 rw [this]; exact sm_neg (h y hy)
theorem q6r (f : List Rat) (c : Rat) : (q6b f c).length ≤ f.length := by
 have := q7j (f.map (· * c)); rw [List.length_map] at this; exact this
theorem r6_Sub {H : Heap} {v w : Value} {f g : List Rat} (hv : LV H v f) (hw : LV H w g) (zf : SzL f) (zg : SzL g) (lf : f.length ≤ 500000) (lg : g.length ≤ 500000) :
  q0m 42 [v, w] H (fun v H' => OV H.length H' v (pSub f g)) := by
 refine q1n (by decide) Tryz.func42 rfl ?_
 intro lk hlk
 simp -dsimp only [go_sem, r3_mone]
 refine ob_y (r6_Scale hw zg sz_mone (by omega)) hlk ?_
 rintro w2 H2 hE2 hO2
 simp -dsimp only [go_sem]
 refine ob_y (r6_Add (hv.ext hE2) hO2.lv zf (szL_scale_neg zg) lf (Nat.le_trans (q6r _ _) lg)) (by have := hE2.le; omega) ?_
 rintro w3 H3 hE3 ⟨a', rfl, hO'⟩
 simp -dsimp only [go_sem]
 exact ⟨hE2.trans hE3, a', rfl, hO'.low hE2.le⟩
def q3y (c : Rat) (n : Nat) : List Rat := trm (List.replicate n 0 ++ [c])
theorem q6z {H : Heap} (c : Rat) (n : Nat) (hn : n ≤ 500000) : q0m 110 [vR c, .int .i64 (n : Int)] H (fun v H' => OV H.length H' v (q3y c n)) := by
 refine q1n (by decide) Tryz.func110 rfl ?_
 intro lk hlk
 simp -dsimp only [go_sem]
 obtain ⟨H1, hH1⟩ : ∃ H1, H1 = H ++ [⟨rC c, 3, false⟩] := ⟨_, rfl⟩
 have hE0 : Ext H H1 := by rw [hH1]; exact Ext.app _ _
 have hb : q0e H1 H.length = some ⟨rC c, 3, false⟩ := by rw [hH1]; exact q0j _ _
 have hl0 := hE0.le
 rw [← hH1]
 have hrep : ∀ i, List.replicate i (0 : Rat) = mapR (fun _ => 0) i := fun i => by
  apply List.ext_getElem (by simp [mapR])
  intro j h1 h2
  simp [mapR]
 refine q0h (m := fun (s : Nat × Option Addr) => n - s.1) (I := fun s σ H' => s.1 ≤ n ∧ Ext H1 H' ∧ Own H1.length H' s.2 (mapR (fun _ => 0) s.1) ∧ σ 2 = .pointer (some ⟨H.length, 0, none⟩) ∧ σ 1 = .int .i64 (n : Int) ∧ σ 5 = .slice s.2 s.1 s.1 ∧ σ 6 = .int .i64 (s.1 : Int)) (0, none) ⟨Nat.zero_le _, Ext.refl _, Own.nil, rfl, rfl, rfl, rfl⟩ ?_
 rintro ⟨i, c2⟩ σ H' ⟨h1, hE, hO, s2, s1, s5, s6⟩
 simp only at h1 hO s5 s6
 have hlen := q0d (fun _ => 0) i
 by_cases hi : i < n
 ·have f1 : ((i : Int) < (n : Int)) = True := eq_true (by omega)
  have e7 : IntKind.i64.wrap ((i : Int) + 1) = ((i + 1 : Nat) : Int) := by rw [w64 (by omega) (by omega)]; omega
  have hap := q5w (lk := lk) (t := 23) (t2 := 23) q0n q0n hO (by omega) hlen.symm (by omega) 0
  have hO2 := q2w hE hO 0 [⟨rC 0, 3, false⟩]
  rw [← q2d (fun _ => 0)] at hO2
  simp -dsimp only [go_sem, s1, s2, s5, s6, f1, q6f, reps, hap, e7]
  exact next (i + 1, _) (by show n - (i + 1) < n - i; omega) ⟨hi, q2r hE hO _ _, hO2, s2, s1, rfl, rfl⟩
 ·have hi' : i = n := by omega
  subst hi'
  have f1 : ((i : Int) < (i : Int)) = False := eq_false (by omega)
  have hb' := fun N => q0u (N := N) (hE.live hb)
  have hb2 := hE.live hb
  have hap := q5w (lk := lk) (t := 23) (t2 := 23) q0n q0n hO (by omega) hlen.symm (by omega) c
  have hO2 := q2w hE hO c [⟨rC c, 3, false⟩]
  have hE2 := q2r hE hO [⟨rC c, 3, false⟩] [⟨q0g (mapR (fun _ => 0) i) ++ rC c, 3, false⟩]
  simp -dsimp only [go_sem, s1, s2, s5, s6, f1, hb2, reps, hap]
  simp only [List.length_cons, List.length_nil, Nat.zero_add] at hO2
  refine ob_y (w0h (f := mapR (fun _ => 0) i ++ [c]) (by simp [mapR]; omega) ⟨some ⟨H'.length + 1, 0, none⟩, by rw [List.length_append, hlen]; rfl, hO2.sl⟩) (by have := hE2.le; omega) ?_
  rintro v H2 hE3 ⟨a', rfl, hO'⟩
  simp -dsimp only [go_sem]
  unfold q3y
  rw [hrep]
  exact ⟨hE0.trans (hE2.trans hE3), a', rfl, hO'.low (by have := hE2.le; omega)⟩
def q2b (f g : List Rat) (k : Nat) : Nat → Rat
 | 0 => 0
 | i + 1 => if i ≤ k ∧ k - i < g.length then q2b f g k i + qf f i * qf g (k - i) else q2b f g k i
def pMul (f g : List Rat) : List Rat := trm (mapR (fun k => q2b f g k f.length) (f.length + g.length - 1))
structure MulOk (f g : List Rat) : Prop where
 zf : SzL f
 zg : SzL g
 p : ∀ i j, Sz (qf f i * qf g j)
 s : ∀ k i, Sz (q2b f g k i)
theorem r6_Mul {H : Heap} {v w : Value} {f g : List Rat} (hv : LV H v f) (hw : LV H w g) (ok : MulOk f g) (lf : f.length ≤ 400000) (lg : g.length ≤ 400000) :
  q0m 82 [v, w] H (fun v H' => OV H.length H' v (pMul f g)) := by
 obtain ⟨a, rfl, hs⟩ := hv
 obtain ⟨b, rfl, ht⟩ := hw
 refine q1n (by decide) Tryz.func82 rfl ?_
 intro lk hlk
 simp -dsimp only [go_sem]
 unfold pMul
 obtain ⟨F, hF⟩ : ∃ F : Nat → Rat, F = fun k => q2b f g k f.length := ⟨_, rfl⟩
 rw [← hF]
 have w1 : IntKind.i64.wrap ((f.length : Int) + (g.length : Int)) = (f.length : Int) + (g.length : Int) := by rw [w64 (by omega) (by omega)]
 have w2 : IntKind.i64.wrap ((f.length : Int) + (g.length : Int) - 1) = (f.length : Int) + (g.length : Int) - 1 := by rw [w64 (by omega) (by omega)]
 refine q0h (m := fun (s : Nat × Option Addr) => f.length + g.length - 1 - s.1) (I := fun s σ H' => s.1 ≤ f.length + g.length - 1 ∧ Ext H H' ∧ Own H.length H' s.2 (mapR F s.1) ∧ σ 0 = .slice a f.length f.length ∧ σ 1 = .slice b g.length g.length ∧ σ 5 = .slice s.2 s.1 s.1 ∧ σ 6 = .int .i64 (s.1 : Int)) (0, none) ⟨Nat.zero_le _, Ext.refl _, Own.nil, rfl, rfl, rfl, rfl⟩ ?_
 rintro ⟨k, c⟩ σ H' ⟨h1, hE, hO, s0, s1, s5, s6⟩
 simp only at h1 hO s5 s6
 have hlen := q0d F k
 by_cases hi : k < f.length + g.length - 1
 ·have f1 : ((k : Int) < (f.length : Int) + (g.length : Int) - 1) = True := eq_true (by omega)
  have hlo : lk ≤ H'.length := Nat.le_trans hlk hE.le
  simp -dsimp only [go_sem, s0, s1, s5, s6, w1, w2, f1, q6f, hlo]
  refine q0h (m := fun (i : Nat) => f.length - i) (I := fun i σ H2 => i ≤ f.length ∧ H2 = H' ++ [⟨rC (q2b f g k i), 3, false⟩] ∧ σ 0 = .slice a f.length f.length ∧ σ 1 = .slice b g.length g.length ∧ σ 5 = .slice c k k ∧ σ 6 = .int .i64 (k : Int) ∧ σ 7 = .pointer (some ⟨H'.length, 0, none⟩) ∧ σ 21 = .int .i64 (f.length : Int) ∧ σ 22 = .int .i64 (i : Int)) 0 ⟨Nat.zero_le _, rfl, s0, s1, s5, s6, rfl, rfl, rfl⟩ ?_
  clear s0 s1 s5 s6
  rintro i σ H2 ⟨h2, rfl, s0, s1, s5, s6, s7, s21, s22⟩
  have e7 : IntKind.i64.wrap ((i : Int) + 1) = ((i + 1 : Nat) : Int) := by rw [w64 (by omega) (by omega)]; omega
  by_cases hil : i < f.length
  ·have f2 : ((i : Int) < (f.length : Int)) = True := eq_true (by omega)
   by_cases hik : i ≤ k
   ·have e8 : IntKind.i64.wrap ((k : Int) - (i : Int)) = ((k - i : Nat) : Int) := by rw [w64 (by omega) (by omega)]; omega
    have f3 : (0 ≤ ((k - i : Nat) : Int)) = True := eq_true (by omega)
    by_cases hkg : k - i < g.length
    ·have f4 : (((k - i : Nat) : Int) < (g.length : Int)) = True := eq_true (by omega)
     obtain ⟨p, hp, hld⟩ := hs.ix i hil q0n
     obtain ⟨q, hq, hld2⟩ := ht.ix (k - i) hkg q0n
     have hld := hld _ (hE.more [⟨rC (q2b f g k i), 3, false⟩])
     have hld2 := hld2 _ (hE.more [⟨rC (q2b f g k i), 3, false⟩])
     rw [← q1y hil] at hld
     rw [← q1y hkg] at hld2
     have k1 := fun lk H' => w3l lk H' (qf f i) (qf g (k - i)) (ok.zf.qf _) (ok.zg.qf _)
     have k2 := fun lk H' => w2m lk H' (q2b f g k i) (qf f i * qf g (k - i)) (ok.s _ _) (ok.p _ _)
     have hst : q2b f g k i + qf f i * qf g (k - i) = q2b f g k (i + 1) := by rw [q2b, if_pos ⟨hik, hkg⟩]
     rw [hst] at k2
     simp -dsimp only [go_sem, s0, s1, s5, s6, s7, s21, s22, f2, f3, f4, e7, e8, hp, hld, hq, hld2, k1, k2, hlo]
     exact next (i + 1) (by show f.length - (i + 1) < f.length - i; omega) ⟨hil, rfl, s0, s1, s5, s6, s7, s21, rfl⟩
    ·have f4 : (((k - i : Nat) : Int) < (g.length : Int)) = False := eq_false (by omega)
     simp -dsimp only [go_sem, s0, s1, s5, s6, s7, s21, s22, f2, f3, f4, e7, e8]
     exact next (i + 1) (by show f.length - (i + 1) < f.length - i; omega) ⟨hil, by rw [q2b, if_neg (fun h => hkg h.2)], s0, s1, s5, s6, s7, s21, rfl⟩
   ·have e8 : IntKind.i64.wrap ((k : Int) - (i : Int)) = (k : Int) - (i : Int) := by rw [w64 (by omega) (by omega)]
    have f3 : (0 ≤ (k : Int) - (i : Int)) = False := eq_false (by omega)
    simp -dsimp only [go_sem, s0, s1, s5, s6, s7, s21, s22, f2, f3, e7, e8]
    exact next (i + 1) (by show f.length - (i + 1) < f.length - i; omega) ⟨hil, by rw [q2b, if_neg (fun h => hik h.1)], s0, s1, s5, s6, s7, s21, rfl⟩
  ·have hi' : i = f.length := by omega
   subst hi'
   have f2 : ((f.length : Int) < (f.length : Int)) = False := eq_false (by omega)
   have hFk : q2b f g k f.length = F k := by rw [hF]
   rw [hFk]
   have hap := ap_rat' (lk := lk) (t := 23) (t2 := 23) q0n q0n hO hlk hlen.symm (by omega) (F k) ⟨rC (F k), 3, false⟩
   have hO2 := q2w hE hO (F k) [⟨rC (F k), 3, false⟩, ⟨rC (F k), 3, false⟩]
   rw [← q2d] at hO2
   have e9 : IntKind.i64.wrap ((k : Int) + 1) = ((k + 1 : Nat) : Int) := by rw [w64 (by omega) (by omega)]; omega
   simp -dsimp only [go_sem, s0, s1, s5, s6, s7, s21, s22, f2, reps, hap, e9]
   exact next (k + 1, _) (by show f.length + g.length - 1 - (k + 1) < f.length + g.length - 1 - k; omega) ⟨hi, q2r hE hO _ _, hO2, s0, s1, rfl, rfl⟩
 ·have hi' : k = f.length + g.length - 1 := by omega
  subst hi'
  have f1 : (((f.length + g.length - 1 : Nat) : Int) < (f.length : Int) + (g.length : Int) - 1) = False := eq_false (by omega)
  simp -dsimp only [go_sem, s0, s1, s5, s6, w1, w2, f1]
  refine ob_y (w0h (f := mapR F (f.length + g.length - 1)) (by omega) ⟨c, by rw [hlen], hO.sl⟩) (by have := hE.le; omega) ?_
  rintro v H2 hE2 ⟨a', rfl, hO'⟩
  simp -dsimp only [go_sem]
  exact ⟨hE.trans hE2, a', rfl, hO'.low hE.le⟩
def pDer (f : List Rat) : List Rat := trm (mapR (fun i => qf f (i + 1) * ((i + 1 : Nat) : Int)) (f.length - 1))
theorem sz_nat {n : Nat} (h : n ≤ 1000000) : Sz (((n : Nat) : Int) : Rat) := (sm_i64 (x := (n : Int)) (by omega)).mono (by decide)
theorem r6_Derivative {H : Heap} {v : Value} {f : List Rat} (hv : LV H v f) (zf : SzL f) (lf : f.length ≤ 1000000) :
  q0m 114 [v] H (fun v H' => OV H.length H' v (pDer f)) := by
 obtain ⟨a, rfl, hs⟩ := hv
 refine q1n (by decide) Tryz.func114 rfl ?_
 intro lk hlk
 simp -dsimp only [go_sem]
 unfold pDer
 obtain ⟨F, hF⟩ : ∃ F : Nat → Rat, F = fun i => qf f (i + 1) * ((i + 1 : Nat) : Int) := ⟨_, rfl⟩
 rw [← hF]
 refine q0h (m := fun (s : Nat × Option Addr) => f.length - 1 - s.1) (I := fun s σ H' => s.1 ≤ f.length - 1 ∧ Ext H H' ∧ Own H.length H' s.2 (mapR F s.1) ∧ σ 0 = .slice a f.length f.length ∧ σ 3 = .slice s.2 s.1 s.1 ∧ σ 4 = .int .i64 ((s.1 + 1 : Nat) : Int)) (0, none) ⟨Nat.zero_le _, Ext.refl _, Own.nil, rfl, rfl, rfl⟩ ?_
 rintro ⟨i, c⟩ σ H' ⟨h1, hE, hO, s0, s3, s4⟩
 simp only at h1 hO s3 s4
 have hlen := q0d F i
 by_cases hi : i < f.length - 1
 ·have f1 : (((i + 1 : Nat) : Int) < (f.length : Int)) = True := eq_true (by omega)
  have e7 : IntKind.i64.wrap (((i + 1 : Nat) : Int) + 1) = ((i + 1 + 1 : Nat) : Int) := by rw [w64 (by omega) (by omega)]; omega
  obtain ⟨p, hp, hld⟩ := hs.ix (i + 1) (by omega) q0n
  have hld := hld H' hE
  rw [← q1y (show i + 1 < f.length by omega)] at hld
  have k1 := fun lk H' => q3k lk H' ((i + 1 : Nat) : Int) (by omega)
  have k3 := fun lk H' => w3l lk H' (qf f (i + 1)) (((i + 1 : Nat) : Int) : Rat) (zf.qf _) (sz_nat (by omega))
  have hFi : qf f (i + 1) * (((i + 1 : Nat) : Int) : Rat) = F i := by rw [hF]
  rw [hFi] at k3
  have hap := q5w (lk := lk) (t := 23) (t2 := 23) q0n q0n hO hlk hlen.symm (by omega) (F i)
  have hO2 := q2w hE hO (F i) [⟨rC (F i), 3, false⟩]
  rw [← q2d] at hO2
  simp -dsimp only [go_sem, s0, s3, s4, f1, hp, hld, k1, k3, reps, hap, e7]
  exact next (i + 1, _) (by show f.length - 1 - (i + 1) < f.length - 1 - i; omega) ⟨hi, q2r hE hO _ _, hO2, s0, rfl, rfl⟩
 ·have hi' : i = f.length - 1 := by omega
  subst hi'
  have f1 : (((f.length - 1 + 1 : Nat) : Int) < (f.length : Int)) = False := eq_false (by omega)
  simp -dsimp only [go_sem, s0, s3, s4, f1]
  refine ob_y (w0h (f := mapR F (f.length - 1)) (by omega) ⟨c, by rw [hlen], hO.sl⟩) (by have := hE.le; omega) ?_
  rintro v H2 hE2 ⟨a', rfl, hO'⟩
  simp -dsimp only [go_sem]
  exact ⟨hE.trans hE2, a', rfl, hO'.low hE.le⟩
def q3v (f : List Rat) : List Rat := if f = [] then [] else q6b f (qf f (f.length - 1))⁻¹
theorem r6_Monic {H : Heap} {v : Value} {f : List Rat} (hv : LV H v f) (zf : SzL f) (lf : f.length ≤ 1000000) (h0 : f ≠ [] → qf f (f.length - 1) ≠ 0) :
  q0m 111 [v] H (fun v H' => OV H.length H' v (q3v f)) := by
 obtain ⟨a, rfl, hs⟩ := hv
 refine q1n (by decide) Tryz.func111 rfl ?_
 intro lk hlk
 unfold q3v
 by_cases hf : f = []
 ·have f1 : ((f.length : Int) = 0) = True := eq_true (by rw [hf]; rfl)
  rw [if_pos hf]
  simp -dsimp only [go_sem, f1]
  exact ⟨Ext.refl _, OV.nil⟩
 ·have f1 : ((f.length : Int) = 0) = False := eq_false (fun h => hf (List.eq_nil_of_length_eq_zero (by omega)))
  rw [if_neg hf]
  have k1 := r6_Lead (v := .slice a f.length f.length) ⟨a, rfl, hs⟩ lf
  have k2 := fun lk H' => w2l lk H' (qf f (f.length - 1)) (h0 hf)
  simp -dsimp only [go_sem, f1, k1, k2]
  refine ob_y (r6_Scale ⟨a, rfl, hs⟩ zf (sm_inv (zf.qf _) (by decide)) lf) hlk ?_
  rintro w2 H2 hE2 hO2
  simp -dsimp only [go_sem]
  exact ⟨hE2, hO2⟩
theorem w2k {H : Heap} {v w : Value} {f g : List Rat} (hv : LV H v f) (hw : LV H w g) (lf : f.length ≤ 1000000) (lg : g.length ≤ 1000000) (lk : Nat) : q0c prog md lk 13 [v, w] H = some (.bool (decide (f = g)), H) := by
 obtain ⟨a, rfl, hs⟩ := hv
 obtain ⟨b, rfl, ht⟩ := hw
 refine q0a rfl Tryz.func13 rfl rfl ?_
 by_cases hl : f.length = g.length
 ·have f1 : ((f.length : Int) = (g.length : Int)) = True := eq_true (by omega)
  simp -dsimp only [go_sem, f1]
  refine q0h (m := fun (i : Nat) => f.length - i) (I := fun i σ H2 => i ≤ f.length ∧ f.take i = g.take i ∧ H2 = H ∧ σ 0 = .slice a f.length f.length ∧ σ 1 = .slice b g.length g.length ∧ σ 12 = .int .i64 (f.length : Int) ∧ σ 13 = .int .i64 (i : Int)) 0 ⟨Nat.zero_le _, rfl, rfl, rfl, rfl, rfl, rfl⟩ ?_
  rintro i σ H2 ⟨h2, h3, rfl, s0, s1, s12, s13⟩
  by_cases hi : i < f.length
  ·have f2 : ((i : Int) < (f.length : Int)) = True := eq_true (by omega)
   have e7 : IntKind.i64.wrap ((i : Int) + 1) = ((i + 1 : Nat) : Int) := by rw [w64 (by omega) (by omega)]; omega
   obtain ⟨p, hp, hld⟩ := hs.ix i hi q0n
   obtain ⟨q, hq, hld2⟩ := ht.ix i (by omega) q0n
   have hld := hld _ (Ext.refl _)
   have hld2 := hld2 _ (Ext.refl _)
   by_cases he : f[i] = g[i]
   ·simp -dsimp only [go_sem, s0, s1, s12, s13, f2, e7, hp, hld, hq, hld2, he]
    refine next (i + 1) (by show f.length - (i + 1) < f.length - i; omega) ⟨hi, ?_, rfl, s0, s1, s12, rfl⟩
    rw [List.take_add_one, List.take_add_one, List.getElem?_eq_getElem hi, List.getElem?_eq_getElem (show i < g.length by omega), h3, he]
   ·have hne : (f = g) = False := eq_false (fun h => he (by subst h; rfl))
    simp -dsimp only [go_sem, s0, s1, s12, s13, f2, e7, hp, hld, hq, hld2, he, hne]
  ·have hi' : i = f.length := by omega
   subst hi'
   have f2 : ((f.length : Int) < (f.length : Int)) = False := eq_false (by omega)
   have he : (f = g) = True := eq_true (by rw [List.take_length, hl, List.take_length] at h3; exact h3)
   simp -dsimp only [go_sem, s0, s1, s12, s13, f2, he]
 ·have f1 : ((f.length : Int) = (g.length : Int)) = False := eq_false (by omega)
  have hne : (f = g) = False := eq_false (fun h => hl (by rw [h]))
  simp -dsimp only [go_sem, f1, hne]
theorem qf_take {f : List Rat} {n : Nat} (h : ∀ i, n ≤ i → qf f i = 0) (i : Nat) : qf (f.take n) i = qf f i := by
 by_cases hi : i < n
 ·unfold qf; simp only [List.getD_eq_getElem?_getD, List.getElem?_take, if_pos hi]
 ·rw [h i (by omega)]; unfold qf; simp only [List.getD_eq_getElem?_getD, List.getElem?_take, if_neg hi, Option.getD_none]
theorem trimQ_zero (f : List Rat) : ∀ k i, q2m f k ≤ i → i < k → qf f i = 0
 | 0, i, _, h => by omega
 | k + 1, i, h1, h2 => by
  unfold q2m at h1
  split at h1
  ·rename_i h0
   by_cases hik : i = k
   ·subst hik; exact h0
   ·exact trimQ_zero f k i h1 (by omega)
  ·omega
theorem q6p (f : List Rat) (i : Nat) : qf (trm f) i = qf f i := by
 refine qf_take (fun j hj => ?_) i
 by_cases h : j < f.length
 ·exact trimQ_zero f f.length j hj h
 ·exact q2a (by omega)
theorem trimQ_bound (f : List Rat) (k : Nat) (hk : ∀ i, k ≤ i → qf f i = 0) : ∀ m, q2m f m ≤ k
 | 0 => Nat.zero_le _
 | m + 1 => by
  unfold q2m
  split
  ·exact trimQ_bound f k hk m
  ·rename_i h
   apply Nat.le_of_not_lt
   intro hlt
   exact h (hk m (by omega))
theorem trm_bound {f : List Rat} {k : Nat} (hk : ∀ i, k ≤ i → qf f i = 0) : (trm f).length ≤ k := by rw [w2i]; exact trimQ_bound f k hk _
def Nrm (f : List Rat) : Prop := f ≠ [] → qf f (f.length - 1) ≠ 0
theorem trimQ_last (f : List Rat) : ∀ k, q2m f k ≠ 0 → qf f (q2m f k - 1) ≠ 0
 | 0, h => absurd rfl h
 | k + 1, h => by
  unfold q2m at h ⊢
  split
  ·rename_i h0
   rw [if_pos h0] at h
   exact trimQ_last f k h
  ·rename_i h0; exact h0
theorem q6g (f : List Rat) : Nrm (trm f) := by
 intro h
 rw [q6p, w2i]
 exact trimQ_last f _ (fun h0 => h (List.eq_nil_of_length_eq_zero (by rw [w2i, h0])))
theorem nrm_nil : Nrm [] := fun h => absurd rfl h
theorem trimQ_full (f : List Rat) (h : Nrm f) : q2m f f.length = f.length := by
 cases hl : f.length with
 | zero => rfl
 | succ k =>
  have h1 := h (by intro h2; subst h2; cases hl)
  rw [hl, Nat.add_sub_cancel] at h1
  unfold q2m; exact if_neg h1
theorem trm_id {f : List Rat} (h : Nrm f) : trm f = f := by unfold trm; rw [trimQ_full f h, List.take_length]
theorem nrm_ext {f g : List Rat} (hf : Nrm f) (hg : Nrm g) (h : ∀ i, qf f i = qf g i) : f = g := by
 have key : ∀ {f g : List Rat}, Nrm f → (∀ i, qf f i = qf g i) → f.length ≤ g.length := fun {f g} hf h => by
  apply Nat.le_of_not_lt
  intro hlt
  have h1 := hf (by intro h0; subst h0; simp at hlt)
  rw [h, q2a (by omega)] at h1
  exact h1 rfl
 have hl : f.length = g.length := Nat.le_antisymm (key hf h) (key hg fun i => (h i).symm)
 refine List.ext_getElem hl fun i h1 h2 => ?_
 have := h i
 rwa [q1y h1, q1y h2] at this
theorem q5b (F : Nat → Rat) (n i : Nat) : qf (mapR F n) i = if i < n then F i else 0 := by
 by_cases hi : i < n
 ·rw [if_pos hi, q1y (by rw [q0d]; exact hi)]; simp [mapR]
 ·rw [if_neg hi, q2a (by rw [q0d]; omega)]
theorem qf_add (f g : List Rat) (i : Nat) : qf (pAdd f g) i = qf f i + qf g i := by
 unfold pAdd
 rw [q6p, q5b]
 split
 ·rfl
 ·rw [q2a (f := f) (by omega), q2a (f := g) (by omega), Rat.add_zero]
theorem qf_map (f : List Rat) (c : Rat) (i : Nat) : qf (f.map (· * c)) i = qf f i * c := by
 by_cases hi : i < f.length
 ·rw [q1y (by rw [List.length_map]; exact hi), q1y hi, List.getElem_map]
 ·rw [q2a (by rw [List.length_map]; omega), q2a (by omega), Rat.zero_mul]
theorem qf_scale (f : List Rat) (c : Rat) (i : Nat) : qf (q6b f c) i = qf f i * c := by unfold q6b; rw [q6p, qf_map]
theorem qf_sub (f g : List Rat) (i : Nat) : qf (pSub f g) i = qf f i - qf g i := by
 unfold pSub; rw [qf_add, qf_scale, Rat.sub_eq_add_neg, Rat.mul_neg, Rat.mul_one]
theorem w0k (c : Rat) (n i : Nat) : qf (q3y c n) i = if i = n then c else 0 := by
 unfold q3y
 rw [q6p]
 by_cases h1 : i < n
 ·rw [if_neg (by omega), q1y (by simp; omega), List.getElem_append_left (by simpa using h1)]; simp
 ·by_cases h2 : i = n
  ·subst h2
   rw [if_pos rfl, q1y (by simp), List.getElem_append_right (by simp)]; simp
  ·rw [if_neg h2, q2a (by simp; omega)]
theorem qf_pMul (f g : List Rat) (k : Nat) : qf (pMul f g) k = q2b f g k f.length := by
 unfold pMul
 rw [q6p, q5b]
 split
 ·rfl
 ·rename_i hk
  have key : ∀ i, i ≤ f.length → q2b f g k i = 0 := by
   intro i
   induction i with
   | zero => intro _; rfl
   | succ i ih =>
    intro hi
    rw [q2b]
    split
    ·omega
    ·exact ih (by omega)
  exact (key _ (Nat.le_refl _)).symm
theorem mulTo_one {f g : List Rat} {n : Nat} (hf : ∀ i, i ≠ n → qf f i = 0) (k : Nat) : ∀ i, q2b f g k i = if n < i ∧ n ≤ k then qf f n * qf g (k - n) else 0
 | 0 => by rw [if_neg (by omega)]; rfl
 | i + 1 => by
  rw [q2b, mulTo_one hf k i]
  by_cases hin : i = n
  ·subst hin
   rw [if_neg (by omega : ¬ (i < i ∧ i ≤ k))]
   by_cases hik : i ≤ k
   ·rw [if_pos (⟨by omega, hik⟩ : i < i + 1 ∧ i ≤ k)]
    by_cases hg : k - i < g.length
    ·rw [if_pos ⟨hik, hg⟩, Rat.zero_add]
    ·rw [if_neg (fun h => hg h.2), q2a (f := g) (by omega), Rat.mul_zero]
   ·rw [if_neg (fun h => hik h.1), if_neg (fun h => hik h.2)]
  ·rw [hf i hin, Rat.zero_mul, Rat.add_zero, ite_self]
   by_cases h : n < i ∧ n ≤ k
   ·rw [if_pos h, if_pos ⟨by omega, h.2⟩]
   ·rw [if_neg h, if_neg (fun h2 => h ⟨by omega, h2.2⟩)]
theorem qf_mono_mul (c : Rat) (n : Nat) (g : List Rat) (k : Nat) : qf (pMul (q3y c n) g) k = if n ≤ k then c * qf g (k - n) else 0 := by
 rw [qf_pMul, mulTo_one (n := n) (fun i hi => by rw [w0k, if_neg hi])]
 rw [w0k, if_pos rfl]
 by_cases h : n ≤ k
 ·by_cases hl : n < (q3y c n).length
  ·rw [if_pos ⟨hl, h⟩, if_pos h]
  ·have : c = 0 := by
    have := w0k c n n
    rw [if_pos rfl, q2a (by omega)] at this
    exact this.symm
   rw [if_neg (fun x => hl x.1), if_pos h, this, Rat.zero_mul]
 ·rw [if_neg (fun x => h x.2), if_neg h]
theorem nrm_add (f g : List Rat) : Nrm (pAdd f g) := q6g _
theorem nrm_scale (f : List Rat) (c : Rat) : Nrm (q6b f c) := q6g _
theorem nrm_sub (f g : List Rat) : Nrm (pSub f g) := q6g _
theorem w2r (f g : List Rat) : Nrm (pMul f g) := q6g _
theorem nrm_der (f : List Rat) : Nrm (pDer f) := q6g _
theorem nrm_monic (f : List Rat) : Nrm (q3v f) := by
 unfold q3v; split
 ·exact nrm_nil
 ·exact nrm_scale _ _
theorem w0n (f g : List Rat) : (pAdd f g).length ≤ max f.length g.length := by
 have := q7j (mapR (fun i => qf f i + qf g i) (max f.length g.length)); rw [q0d] at this; exact this
theorem pSub_le (f g : List Rat) : (pSub f g).length ≤ max f.length g.length := by
 have h1 := w0n f (q6b g (-1)); have h2 := q6r g (-1); unfold pSub; omega
theorem q7a (f g : List Rat) : (pMul f g).length ≤ f.length + g.length - 1 := by
 have := q7j (mapR (fun k => q2b f g k f.length) (f.length + g.length - 1)); rw [q0d] at this; exact this
theorem q6c (c : Rat) (n : Nat) : (q3y c n).length ≤ n + 1 := by
 have := q7j (List.replicate n 0 ++ [c]); simpa [q3y] using this
theorem pDer_le (f : List Rat) : (pDer f).length ≤ f.length - 1 := by
 have := q7j (mapR (fun i => qf f (i + 1) * ((i + 1 : Nat) : Int)) (f.length - 1)); rw [q0d] at this; exact this
theorem pMonic_le (f : List Rat) : (q3v f).length ≤ f.length := by
 unfold q3v; split
 ·exact Nat.zero_le _
 ·exact q6r _ _
def dvM (g r : List Rat) : List Rat := q3y (qf r (r.length - 1) / qf g (g.length - 1)) (r.length - g.length)
def q3n (g : List Rat) : Nat → List Rat → List Rat → List Rat × List Rat
 | 0, q, r => (q, r)
 | n + 1, q, r => if g.length ≤ r.length then q3n g n (pAdd q (dvM g r)) (pSub r (pMul (dvM g r) g)) else (q, r)
def q8b (f g : List Rat) : List Rat × List Rat := q3n g (f.length + 1) [] (trm f)
def DvOkL (g : List Rat) : Nat → List Rat → List Rat → Prop
 | 0, _, _ => True
 | n + 1, q, r => if g.length ≤ r.length then SzL q ∧ SzL r ∧ SzL (dvM g r) ∧ MulOk (dvM g r) g ∧ SzL (pMul (dvM g r) g) ∧ DvOkL g n (pAdd q (dvM g r)) (pSub r (pMul (dvM g r) g)) else True
def DvOk (f g : List Rat) : Prop := SzL g ∧ DvOkL g (f.length + 1) [] (trm f)
theorem dv_short {g r : List Rat} (hg0 : g ≠ []) (hg : Nrm g) (hl : g.length ≤ r.length) : (pSub r (pMul (dvM g r) g)).length < r.length := by
 have hgl : 0 < g.length := List.length_pos_iff.2 hg0
 have : (pSub r (pMul (dvM g r) g)).length ≤ r.length - 1 := by
  unfold pSub
  refine trm_bound fun i hi => ?_
  have h1 := qf_sub r (pMul (dvM g r) g) i
  unfold pSub at h1
  unfold pAdd at h1
  rw [q6p] at h1
  rw [h1]
  unfold dvM
  rw [qf_mono_mul]
  rw [if_pos (by omega)]
  by_cases hi2 : i = r.length - 1
  ·subst hi2
   have e : r.length - 1 - (r.length - g.length) = g.length - 1 := by omega
   rw [e, Rat.div_mul_cancel (hg hg0), Rat.sub_self]
  ·rw [q2a (f := r) (i := i) (by omega), q2a (f := g) (i := i - (r.length - g.length)) (by omega), Rat.mul_zero, Rat.sub_self]
 omega
theorem dvLoop_done {g : List Rat} {n : Nat} {q r : List Rat} (h : ¬ g.length ≤ r.length) : q3n g n q r = (q, r) := by
 cases n with
 | zero => rfl
 | succ n => rw [q3n, if_neg h]
theorem r6_DivMod {H : Heap} {v w : Value} {f g : List Rat} (hv : LV H v f) (hw : LV H w g) (hg0 : g ≠ []) (hg : Nrm g) (ok : DvOk f g) (lf : f.length ≤ 200000) (lg : g.length ≤ 200000) :
  q0m 168 [v, w] H (fun v H' => ∃ q r, v = .tuple #[q, r] ∧ LV H' q (q8b f g).1 ∧ OV H.length H' r (q8b f g).2) := by
 obtain ⟨zg, ok⟩ := ok
 obtain ⟨b, rfl, ht⟩ := hw
 have hk2 : ∀ H', Ext H H' → ∀ lk, q0c prog md lk 120 [.slice b g.length g.length] H' = some (vR (qf g (g.length - 1)), H') := fun H' hE lk => r6_Lead ⟨b, rfl, hE.sl ht⟩ (by omega) lk
 refine q1n (by decide) Tryz.func168 rfl ?_
 intro lk hlk
 simp -dsimp only [go_sem]
 refine ob_y (w0h (by omega) hv) hlk ?_
 rintro v1 H1 hE1 hO1
 simp -dsimp only [go_sem]
 unfold q8b
 refine q0h (m := fun (s : Nat × List Rat × List Rat × Value × Value) => s.2.2.1.length) (I := fun s σ H' => s.2.1.length ≤ 200000 ∧ s.2.2.1.length < s.1 ∧ s.2.2.1.length ≤ f.length ∧ Ext H H' ∧ LV H' s.2.2.2.1 s.2.1 ∧ OV H.length H' s.2.2.2.2 s.2.2.1 ∧ DvOkL g s.1 s.2.1 s.2.2.1 ∧ q3n g s.1 s.2.1 s.2.2.1 = q3n g (f.length + 1) [] (trm f) ∧ σ 1 = .slice b g.length g.length ∧ σ 6 = s.2.2.2.1 ∧ σ 7 = s.2.2.2.2) (f.length + 1, [], trm f, .slice none 0 0, v1) ⟨Nat.zero_le _, by have := q7j f; simp only; omega, q7j f, hE1, LV.nil, hO1, ok, rfl, rfl, rfl, rfl⟩ ?_
 rintro ⟨n, q, r, vq, vr⟩ σ H' ⟨h1, h2, h3, hE, hq, hr, ok, he, s1, s6, s7⟩
 simp only at h1 h2 h3 hq hr ok he s6 s7
 obtain ⟨c, rfl, hO⟩ := hr
 have hgl : 0 < g.length := List.length_pos_iff.2 hg0
 have hlo := hE.le
 by_cases hlen : g.length ≤ r.length
 ·have f1 : ((g.length : Int) ≤ (r.length : Int)) = True := eq_true (by omega)
  obtain ⟨n, rfl⟩ : ∃ n', n = n' + 1 := ⟨n - 1, by omega⟩
  rw [DvOkL, if_pos hlen] at ok
  rw [q3n, if_pos hlen] at he
  obtain ⟨zq, zr, zm, om, zp, ok⟩ := ok
  have hsh := dv_short hg0 hg hlen
  have kr := fun lk => r6_Lead (v := .slice c r.length r.length) ⟨c, rfl, hO.sl⟩ (by omega) lk
  have kg := hk2 H' hE
  have kd := fun lk H' => r3_Div lk H' (qf r (r.length - 1)) (qf g (g.length - 1)) (zr.qf _) (zg.qf _) (hg hg0)
  have e1 : IntKind.i64.wrap ((r.length : Int) - (g.length : Int)) = ((r.length - g.length : Nat) : Int) := by rw [w64 (by omega) (by omega)]; omega
  simp -dsimp only [go_sem, s1, s6, s7, f1, kr, kg, kd, e1]
  have hml := q6c (qf r (r.length - 1) / qf g (g.length - 1)) (r.length - g.length)
  refine ob_y (q6z (qf r (r.length - 1) / qf g (g.length - 1)) (r.length - g.length) (by omega)) (by omega) ?_
  change (dvM g r).length ≤ _ at hml
  rw [show q3y (qf r (r.length - 1) / qf g (g.length - 1)) (r.length - g.length) = dvM g r from rfl]
  rintro vm H2 hE2 hm
  have hl2 := hE2.le
  simp -dsimp only [go_sem, s1, s6, s7]
  refine ob_y (r6_Add (hq.ext hE2) hm.lv zq zm (by omega) (by omega)) (by omega) ?_
  rintro vq2 H3 hE3 hq3
  have hl3 := hE3.le
  simp -dsimp only [go_sem, s1, s7]
  refine ob_y (r6_Mul (hm.lv.ext hE3) ⟨b, rfl, (hE.trans (hE2.trans hE3)).sl ht⟩ om (by omega) (by omega)) (by omega) ?_
  rintro vp H4 hE4 hp4
  have hl4 := hE4.le
  simp -dsimp only [go_sem, s1, s7]
  have hpl := q7a (dvM g r) g
  refine ob_y (r6_Sub ⟨c, rfl, (hE2.trans (hE3.trans hE4)).sl hO.sl⟩ hp4.lv zr zp (by omega) (by omega)) (by omega) ?_
  rintro vr2 H5 hE5 ⟨c5, rfl, hO5⟩
  have hl5 := hE5.le
  simp -dsimp only [go_sem, s1]
  have hal := w0n q (dvM g r)
  exact next (n, pAdd q (dvM g r), pSub r (pMul (dvM g r) g), vq2, _) hsh ⟨by show (pAdd q (dvM g r)).length ≤ _; omega, by show (pSub r (pMul (dvM g r) g)).length < n; omega, by show (pSub r (pMul (dvM g r) g)).length ≤ _; omega, hE.trans (hE2.trans (hE3.trans (hE4.trans hE5))), hq3.lv.ext (hE4.trans hE5), ⟨c5, rfl, hO5.low (by omega)⟩, ok, he, s1, rfl, rfl⟩
 ·have f1 : ((g.length : Int) ≤ (r.length : Int)) = False := eq_false (by omega)
  rw [dvLoop_done hlen] at he
  rw [← he]
  simp -dsimp only [go_sem, s1, s6, s7, f1]
  exact ⟨hE, vq, _, rfl, hq, c, rfl, hO⟩
def pDiv (f g : List Rat) : List Rat := (q8b f g).1
def pMod (f g : List Rat) : List Rat := (q8b f g).2
theorem r6_Div {H : Heap} {v w : Value} {f g : List Rat} (hv : LV H v f) (hw : LV H w g) (hg0 : g ≠ []) (hg : Nrm g) (ok : DvOk f g) (lf : f.length ≤ 200000) (lg : g.length ≤ 200000) :
  q0m 112 [v, w] H (fun v H' => LV H' v (pDiv f g)) := by
 refine q1n (by decide) Tryz.func112 rfl ?_
 intro lk hlk
 simp -dsimp only [go_sem]
 refine ob_y (r6_DivMod hv hw hg0 hg ok lf lg) hlk ?_
 rintro u H1 hE1 ⟨q, r, rfl, hq, hr⟩
 simp -dsimp only [go_sem]
 exact ⟨hE1, hq⟩
theorem r6_Mod {H : Heap} {v w : Value} {f g : List Rat} (hv : LV H v f) (hw : LV H w g) (hg0 : g ≠ []) (hg : Nrm g) (ok : DvOk f g) (lf : f.length ≤ 200000) (lg : g.length ≤ 200000) :
  q0m 136 [v, w] H (fun v H' => OV H.length H' v (pMod f g)) := by
 refine q1n (by decide) Tryz.func136 rfl ?_
 intro lk hlk
 simp -dsimp only [go_sem]
 refine ob_y (r6_DivMod hv hw hg0 hg ok lf lg) hlk ?_
 rintro u H1 hE1 ⟨q, r, rfl, hq, hr⟩
 simp -dsimp only [go_sem]
 exact ⟨hE1, hr⟩
theorem dvLoop_rest {g : List Rat} (hg0 : g ≠ []) (hg : Nrm g) : ∀ (n : Nat) (q r : List Rat), r.length < n → Nrm r → (q3n g n q r).2.length < g.length ∧ (q3n g n q r).2.length ≤ r.length ∧ Nrm (q3n g n q r).2
 | 0, _, _, h, _ => by omega
 | n + 1, q, r, h, hr => by
  rw [q3n]
  split
  ·rename_i hl
   have hs := dv_short hg0 hg hl
   have := dvLoop_rest hg0 hg n (pAdd q (dvM g r)) (pSub r (pMul (dvM g r) g)) (by omega) (nrm_sub _ _)
   exact ⟨this.1, by omega, this.2.2⟩
  ·exact ⟨by simp only; omega, Nat.le_refl _, hr⟩
theorem q4n {f g : List Rat} (hg0 : g ≠ []) (hg : Nrm g) : (pMod f g).length < g.length ∧ (pMod f g).length ≤ f.length ∧ Nrm (pMod f g) := by
 have := dvLoop_rest hg0 hg (f.length + 1) [] (trm f) (by have := q7j f; omega) (q6g f)
 exact ⟨this.1, Nat.le_trans this.2.1 (q7j f), this.2.2⟩
theorem dvLoop_quo {g : List Rat} (hg0 : g ≠ []) (hg : Nrm g) : ∀ (n : Nat) (q r : List Rat) (B : Nat), q.length ≤ B → r.length ≤ B → Nrm q → (q3n g n q r).1.length ≤ B ∧ Nrm (q3n g n q r).1
 | 0, _, _, _, h, _, h3 => ⟨h, h3⟩
 | n + 1, q, r, B, h, h2, h3 => by
  rw [q3n]
  split
  ·rename_i hl
   have hs := dv_short hg0 hg hl
   have hgl : 0 < g.length := List.length_pos_iff.2 hg0
   have h4 := q6c (qf r (r.length - 1) / qf g (g.length - 1)) (r.length - g.length)
   change (dvM g r).length ≤ _ at h4
   have h5 := w0n q (dvM g r)
   exact dvLoop_quo hg0 hg n _ _ B (by omega) (by omega) (nrm_add _ _)
  ·exact ⟨h, h3⟩
theorem pDiv_len {f g : List Rat} (hg0 : g ≠ []) (hg : Nrm g) : (pDiv f g).length ≤ f.length ∧ Nrm (pDiv f g) :=
 dvLoop_quo hg0 hg (f.length + 1) [] (trm f) f.length (Nat.zero_le _) (q7j f) nrm_nil
def w1t : Nat → List Rat → List Rat → List Rat
 | 0, f, _ => f
 | n + 1, f, g => if g = [] then f else w1t n g (q3v (pMod f g))
def pGcd (f g : List Rat) : List Rat := q3v (w1t (g.length + 1) f g)
def GcOkL : Nat → List Rat → List Rat → Prop
 | 0, _, _ => True
 | n + 1, f, g => if g = [] then SzL f else DvOk f g ∧ SzL (pMod f g) ∧ GcOkL n g (q3v (pMod f g))
def GcOk (f g : List Rat) : Prop := GcOkL (g.length + 1) f g
theorem r6_Gcd {H : Heap} {v w : Value} {f g : List Rat} (hv : LV H v f) (hw : LV H w g) (nf : Nrm f) (ng : Nrm g) (ok : GcOk f g) (lf : f.length ≤ 200000) (lg : g.length ≤ 200000) :
  q0m 113 [v, w] H (fun v H' => OV H.length H' v (pGcd f g)) := by
 refine q1n (by decide) Tryz.func113 rfl ?_
 intro lk hlk
 simp -dsimp only [go_sem]
 unfold pGcd
 refine q0h (m := fun (s : Nat × List Rat × List Rat × Value × Value) => s.2.2.1.length) (I := fun s σ H' => s.2.2.1.length < s.1 ∧ s.2.1.length ≤ 200000 ∧ s.2.2.1.length ≤ 200000 ∧ Nrm s.2.1 ∧ Nrm s.2.2.1 ∧ Ext H H' ∧ LV H' s.2.2.2.1 s.2.1 ∧ LV H' s.2.2.2.2 s.2.2.1 ∧ GcOkL s.1 s.2.1 s.2.2.1 ∧ w1t s.1 s.2.1 s.2.2.1 = w1t (g.length + 1) f g ∧ σ 0 = s.2.2.2.1 ∧ σ 1 = s.2.2.2.2) (g.length + 1, f, g, v, w) ⟨Nat.lt_succ_self _, lf, lg, nf, ng, Ext.refl _, hv, hw, ok, rfl, rfl, rfl⟩ ?_
 rintro ⟨n, x, y, vx, vy⟩ σ H' ⟨h1, h2, h3, nx, ny, hE, hx, hy, ok, he, s0, s1⟩
 simp only at h1 h2 h3 nx ny hx hy ok he s0 s1
 obtain ⟨n, rfl⟩ : ∃ n', n = n' + 1 := ⟨n - 1, by omega⟩
 obtain ⟨b, rfl, hS⟩ := hy
 have hlo := hE.le
 rw [GcOkL] at ok
 rw [w1t] at he
 by_cases hy0 : y = []
 ·have f1 : (0 < (y.length : Int)) = False := eq_false (by rw [hy0]; simp)
  rw [if_pos hy0] at ok he
  rw [← he]
  simp -dsimp only [go_sem, s0, s1, f1]
  refine ob_y (r6_Monic hx ok (by omega) nx) (by omega) ?_
  rintro v1 H1 hE1 ⟨c, rfl, hO1⟩
  simp -dsimp only [go_sem]
  exact ⟨hE.trans hE1, c, rfl, hO1.low hlo⟩
 ·have hyl := List.length_pos_iff.2 hy0
  have f1 : (0 < (y.length : Int)) = True := eq_true (by omega)
  rw [if_neg hy0] at ok he
  obtain ⟨ok1, zm, ok2⟩ := ok
  have hm := q4n (f := x) hy0 ny
  simp -dsimp only [go_sem, s0, s1, f1]
  refine ob_y (r6_Mod hx ⟨b, rfl, hS⟩ hy0 ny ok1 h2 h3) (by omega) ?_
  rintro v1 H1 hE1 hO1
  have hl1 := hE1.le
  simp -dsimp only [go_sem]
  refine ob_y (r6_Monic hO1.lv zm (by omega) hm.2.2) (by omega) ?_
  rintro v2 H2 hE2 hO2
  simp -dsimp only [go_sem]
  have hml := pMonic_le (pMod x y)
  exact next (n, y, q3v (pMod x y), _, v2) (by show (q3v (pMod x y)).length < y.length; omega) ⟨by show (q3v (pMod x y)).length < n; omega, h3, by show (q3v (pMod x y)).length ≤ _; omega, ny, nrm_monic _, hE.trans (hE1.trans hE2), ⟨b, rfl, (hE1.trans hE2).sl hS⟩, hO2.lv, ok2, he, rfl, rfl⟩
theorem gcLoop_len : ∀ (n : Nat) (f g : List Rat) (B : Nat), f.length ≤ B → g.length ≤ B → Nrm g → Nrm f → (w1t n f g).length ≤ B ∧ Nrm (w1t n f g) ∧ (f ≠ [] → w1t n f g ≠ [])
 | 0, f, g, B, h1, _, _, h3 => ⟨h1, h3, id⟩
 | n + 1, f, g, B, h1, h2, h3, h4 => by
  rw [w1t]
  split
  ·exact ⟨h1, h4, id⟩
  ·rename_i hg
   have hm := q4n (f := f) hg h3
   have hml := pMonic_le (pMod f g)
   have := gcLoop_len n g (q3v (pMod f g)) B h2 (by omega) (nrm_monic _) h3
   exact ⟨this.1, this.2.1, fun _ => this.2.2 hg⟩
theorem pMonic_ne {f : List Rat} (h : f ≠ []) (hn : Nrm f) : q3v f ≠ [] := by
 intro h0
 have hl := List.length_pos_iff.2 h
 have h1 : qf (q3v f) (f.length - 1) = 1 := by
  unfold q3v
  rw [if_neg h, qf_scale, Rat.mul_inv_cancel _ (hn h)]
 rw [h0, q2a (by simp)] at h1
 exact absurd h1 (by decide)
theorem pGcd_len {f g : List Rat} (nf : Nrm f) (ng : Nrm g) : (pGcd f g).length ≤ max f.length g.length ∧ Nrm (pGcd f g) ∧ (f ≠ [] → pGcd f g ≠ []) := by
 have h := gcLoop_len (g.length + 1) f g (max f.length g.length) (by omega) (by omega) ng nf
 exact ⟨Nat.le_trans (pMonic_le _) h.1, nrm_monic _, fun hf => pMonic_ne (h.2.2 hf) h.2.1⟩
def pRad (f : List Rat) : List Rat := q3v (pDiv f (pGcd f (pDer f)))
structure RadOk (f : List Rat) : Prop where
 zf : SzL f
 g : GcOk f (pDer f)
 d : DvOk f (pGcd f (pDer f))
 z : SzL (pDiv f (pGcd f (pDer f)))
theorem r6_Radical {H : Heap} {v : Value} {f : List Rat} (hv : LV H v f) (h0 : f ≠ []) (nf : Nrm f) (ok : RadOk f) (lf : f.length ≤ 200000) :
  q0m 62 [v] H (fun v H' => OV H.length H' v (pRad f)) := by
 refine q1n (by decide) Tryz.func62 rfl ?_
 intro lk hlk
 simp -dsimp only [go_sem]
 have hdl := pDer_le f
 refine ob_y (r6_Derivative hv ok.zf (by omega)) hlk ?_
 rintro v1 H1 hE1 hO1
 have l1 := hE1.le
 simp -dsimp only [go_sem]
 have hg := pGcd_len nf (nrm_der f)
 refine ob_y (r6_Gcd (hv.ext hE1) hO1.lv nf (nrm_der f) ok.g lf (by omega)) (by omega) ?_
 rintro v2 H2 hE2 hO2
 have l2 := hE2.le
 simp -dsimp only [go_sem]
 have hd := pDiv_len (f := f) (hg.2.2 h0) hg.2.1
 refine ob_y (r6_Div (hv.ext (hE1.trans hE2)) hO2.lv (hg.2.2 h0) hg.2.1 ok.d lf (by omega)) (by omega) ?_
 rintro v3 H3 hE3 hO3
 have l3 := hE3.le
 simp -dsimp only [go_sem]
 refine ob_y (r6_Monic hO3 ok.z (by omega) hd.2) (by omega) ?_
 rintro v4 H4 hE4 ⟨c, rfl, hO4⟩
 simp -dsimp only [go_sem]
 exact ⟨hE1.trans (hE2.trans (hE3.trans hE4)), c, rfl, hO4.low (by omega)⟩
end Gx
end
section
/- Polynomials over the fractions, as lists and as sequences. -/
set_option autoImplicit false
namespace Gx
open A
theorem mulTo_sm (f g : List Rat) (k : Nat) : ∀ i, q2b f g k i = sm (fun i => if i ≤ k ∧ k - i < g.length then qf f i * qf g (k - i) else 0) i
 | 0 => rfl
 | i + 1 => by
  rw [q2b, sm, mulTo_sm f g k i]
  split
  ·rfl
  ·exact (Rat.add_zero _).symm
theorem q8v (f : List Rat) : Below f.length (qf f) := fun _ hi => q2a hi
theorem qf_mul (f g : List Rat) (k : Nat) : qf (pMul f g) k = conv (qf f) (qf g) k := by
 rw [qf_pMul, mulTo_sm, conv_len (q8v f) (q8v g)]
theorem pMul_comm (f g : List Rat) : pMul f g = pMul g f := nrm_ext (w2r _ _) (w2r _ _) fun k => by rw [qf_mul, qf_mul, conv_comm]
theorem pMul_nil (g : List Rat) : pMul [] g = [] := nrm_ext (w2r _ _) nrm_nil fun k => by
 rw [qf_mul, q2a (by simp)]
 exact (conv_congr (fun i _ => q2a (by simp)) (fun _ _ => rfl)).trans (conv_nil _ _)
theorem dvLoop_sum (g : List Rat) : ∀ (n : Nat) (q r : List Rat) (k : Nat), conv (qf (q3n g n q r).1) (qf g) k + qf (q3n g n q r).2 k = conv (qf q) (qf g) k + qf r k
 | 0, _, _, _ => rfl
 | n + 1, q, r, k => by
  rw [q3n]
  split
  ·rw [dvLoop_sum g n, conv_congr (fun i _ => qf_add q (dvM g r) i) (fun _ _ => rfl), conv_add, qf_sub, qf_mul]
   grind
  ·rfl
theorem pDivMod_sum (f g : List Rat) (k : Nat) : conv (qf (pDiv f g)) (qf g) k + qf (pMod f g) k = qf f k := by
 unfold pDiv pMod q8b
 rw [dvLoop_sum, q6p, conv_congr (fun i _ => q2a (f := []) (by simp)) (fun _ _ => rfl), conv_nil]
 exact Rat.zero_add _
theorem w3n {f g : List Rat} {m : Nat} {q r : Nat → Rat} (hg0 : g ≠ []) (hg : Nrm g) (hq : Below m q) (hr : Below (g.length - 1) r) (h : ∀ k, conv q (qf g) k + r k = qf f k) : (∀ k, qf (pDiv f g) k = q k) ∧ ∀ k, qf (pMod f g) k = r k := by
 have hl := List.length_pos_iff.2 hg0
 have h1 := (q4n (f := f) hg0 hg).1
 have hm1 : Below (max m (pDiv f g).length) (qf (pDiv f g)) := (q8v _).mono (by omega)
 refine div_uniq (n := g.length - 1) (m := max m (pDiv f g).length) (g := qf g) (fun x hx => ?_) ((q8v g).mono (by omega)) ((q8v _).mono (by omega)) hr hm1 (hq.mono (by omega)) fun k => by rw [pDivMod_sum, h]
 rcases Rat.mul_eq_zero.1 hx with h | h
 ·exact h
 ·exact absurd h (hg hg0)
def q9z (F : Nat → Rat) (g : List Rat) (k : Nat) (c : Rat) (I : Nat) : Nat → Rat := fun i => if k ≤ i ∧ i < k + I then F i - c * qf g (i - k) else F i
def q4z (f g : List Rat) : Nat → Nat → Rat
 | 0 => qf f
 | j + 1 => q9z (q4z f g j) g (f.length - g.length - j) (q4z f g j (f.length - g.length - j + g.length - 1) * (qf g (g.length - 1))⁻¹) g.length
def xQ (f g : List Rat) (j : Nat) : Rat := q4z f g j (f.length - g.length - j + g.length - 1) * (qf g (g.length - 1))⁻¹
theorem q6l (f g : List Rat) (j : Nat) : q4z f g (j + 1) = q9z (q4z f g j) g (f.length - g.length - j) (xQ f g j) g.length := rfl
theorem xStep_zero (F : Nat → Rat) (g : List Rat) (k : Nat) (c : Rat) : q9z F g k c 0 = F := by
 funext i; unfold q9z; rw [if_neg (by omega)]
theorem xStep_nought (F : Nat → Rat) (g : List Rat) (k I : Nat) : q9z F g k 0 I = F := by
 funext i; unfold q9z
 split
 ·grind
 ·rfl
theorem xStep_succ (F : Nat → Rat) (g : List Rat) (k : Nat) (c : Rat) (I : Nat) : (fun i => if i = k + I then F (k + I) - c * qf g I else q9z F g k c I i) = q9z F g k c (I + 1) := by
 funext i
 unfold q9z
 by_cases h : i = k + I
 ·rw [if_pos h, if_pos (by omega), h, Nat.add_sub_cancel_left]
 ·rw [if_neg h]
  by_cases h2 : k ≤ i ∧ i < k + I
  ·rw [if_pos h2, if_pos (by omega)]
  ·rw [if_neg h2, if_neg (by omega)]
theorem xStep_at (F : Nat → Rat) (g : List Rat) (k : Nat) (c : Rat) (I : Nat) : q9z F g k c I (k + I) = F (k + I) := by
 unfold q9z; rw [if_neg (by omega)]
def xQs (f g : List Rat) (j : Nat) : Nat → Rat := fun i => if i < f.length - g.length + 1 ∧ f.length - g.length + 1 ≤ i + j then xQ f g (f.length - g.length - i) else 0
theorem xQs_zero (f g : List Rat) : xQs f g 0 = fun _ => 0 := by
 funext i; unfold xQs; rw [if_neg (by omega)]
theorem xQs_succ (f g : List Rat) (j : Nat) (hj : j < f.length - g.length + 1) : xQs f g (j + 1) = fun i => xQs f g j i + if i = f.length - g.length - j then xQ f g j else 0 := by
 funext i
 unfold xQs
 by_cases h : i = f.length - g.length - j
 ·rw [if_pos (by omega), if_neg (by omega), if_pos h, Rat.zero_add]
  congr 1; omega
 ·rw [if_neg h, Rat.add_zero]
  by_cases h2 : i < f.length - g.length + 1 ∧ f.length - g.length + 1 ≤ i + j
  ·rw [if_pos h2, if_pos (by omega)]
  ·rw [if_neg h2, if_neg (by omega)]
theorem xRest_sum {f g : List Rat} (hl : g.length ≤ f.length) : ∀ j, j ≤ f.length - g.length + 1 → ∀ k, conv (xQs f g j) (qf g) k + q4z f g j k = qf f k
 | 0, _, k => by rw [xQs_zero, conv_nil]; exact Rat.zero_add _
 | j + 1, hj, k => by
  have ih := xRest_sum hl j (by omega) k
  rw [xQs_succ f g j (by omega), conv_add, conv_shift, q6l]
  unfold q9z
  by_cases h1 : f.length - g.length - j ≤ k
  ·rw [if_pos h1]
   by_cases h2 : k < f.length - g.length - j + g.length
   ·rw [if_pos ⟨h1, h2⟩]; grind
   ·rw [if_neg (fun h => h2 h.2), q2a (f := g) (by omega)]; grind
  ·rw [if_neg h1, if_neg (fun h => h1 h.1)]; grind
theorem xRest_top {f g : List Rat} (hg0 : g ≠ []) (hg : Nrm g) (hl : g.length ≤ f.length) : ∀ j, j ≤ f.length - g.length + 1 → ∀ i, f.length ≤ i + j → q4z f g j i = 0
 | 0, _, i, hi => q2a (by omega)
 | j + 1, hj, i, hi => by
  have ih := xRest_top hg0 hg hl j (by omega)
  have hgl := List.length_pos_iff.2 hg0
  rw [q6l]
  unfold q9z
  by_cases h : i = f.length - g.length - j + g.length - 1
  ·rw [if_pos (by omega)]
   have e : i - (f.length - g.length - j) = g.length - 1 := by omega
   rw [e, h]
   unfold xQ
   rw [Rat.mul_assoc, Rat.inv_mul_cancel _ (hg hg0), Rat.mul_one, Rat.sub_self]
  ·rw [if_neg (by omega)]
   exact ih i (by omega)
theorem xDiv_eq {f g : List Rat} (hg0 : g ≠ []) (hg : Nrm g) (hl : g.length ≤ f.length) :
  trm (mapR (fun i => xQ f g (f.length - g.length - i)) (f.length - g.length + 1)) = pDiv f g ∧ trm (mapR (q4z f g (f.length - g.length + 1)) (g.length - 1)) = pMod f g := by
 have hs := xRest_sum (f := f) (g := g) hl _ (Nat.le_refl _)
 have ht := xRest_top hg0 hg hl _ (Nat.le_refl _)
 have hgl := List.length_pos_iff.2 hg0
 have hu := w3n (f := f) (m := f.length - g.length + 1) (q := xQs f g (f.length - g.length + 1)) (r := q4z f g (f.length - g.length + 1)) hg0 hg (fun i hi => by unfold xQs; rw [if_neg (by omega)]) (fun i hi => ht i (by omega)) hs
 constructor
 ·refine nrm_ext (q6g _) (pDiv_len hg0 hg).2 fun i => ?_
  rw [hu.1, q6p, q5b]
  unfold xQs
  by_cases h : i < f.length - g.length + 1
  ·rw [if_pos h, if_pos (by omega)]
  ·rw [if_neg h, if_neg (by omega)]
 ·refine nrm_ext (q6g _) (q4n hg0 hg).2.2 fun i => ?_
  rw [hu.2, q6p, q5b]
  split
  ·rfl
  ·exact (ht i (by omega)).symm
theorem pMod_small {f g : List Rat} (nf : Nrm f) (h : f.length < g.length) : q8b f g = ([], f) := by
 unfold q8b
 rw [trm_id nf, dvLoop_done (by omega)]
end Gx
end
section
/- Matrices in memory: slices of slices of fractions. -/
set_option autoImplicit false
namespace Gx
open Go Go.Proofs
open Go.Proofs.Tryz (prog)
set_option maxRecDepth 10000
structure Sx where
 a : Option Addr
 n : Nat
instance : Enc Sx := ⟨fun x => [.slice x.a x.n x.n], 1, fun _ => rfl⟩
def q9y (H : Heap) (xs : List Sx) (M : List (List Rat)) : Prop :=
 xs.length = M.length ∧ ∀ i (h1 : i < xs.length) (h2 : i < M.length), xs[i].n = M[i].length ∧ SL H xs[i].a M[i]
theorem q9y.ext {H H' : Heap} {xs : List Sx} {M : List (List Rat)} (h : q9y H xs M) (hE : Ext H H') : q9y H' xs M :=
 ⟨h.1, fun i h1 h2 => ⟨(h.2 i h1 h2).1, hE.sl (h.2 i h1 h2).2⟩⟩
def MV (H : Heap) (v : Value) (M : List (List Rat)) : Prop := ∃ a xs, v = .slice a M.length M.length ∧ SL H a xs ∧ q9y H xs M
theorem MV.ext {H H' : Heap} {v : Value} {M : List (List Rat)} (h : MV H v M) (hE : Ext H H') : MV H' v M := let ⟨a, xs, h1, h2, h3⟩ := h; ⟨a, xs, h1, hE.sl h2, h3.ext hE⟩
structure RowT (t te : TypeId) : Prop where
 e : q0z prog t = some te
 s : tsz prog te = some 1
 b : q0r prog te = some 24
 z : q1x prog te = some [.slice none 0 0]
 g : tagg prog te = some false
 r : q0z prog te = some 55
theorem q2c : RowT 28 22 := ⟨by simp only [go_sem], by simp only [go_sem], by simp only [go_sem], by simp only [go_sem], by simp only [go_sem], by simp only [go_sem]⟩
section
variable {t te : TypeId}
theorem q9y.ix {H : Heap} {a : Option Addr} {xs : List Sx} {M : List (List Rat)} (T : RowT t te) (hs : SL H a xs) (hr : q9y H xs M) (i : Nat) (hi : i < M.length) :
  ∃ p c, q0i prog t (.slice a M.length M.length) (.int .i64 (i : Int)) = some p ∧ (∀ H', Ext H H' → q2n prog H' te p = some (.slice c M[i].length M[i].length)) ∧ SL H c M[i] := by
 obtain ⟨hl, hr⟩ := hr
 have hi2 : i < xs.length := by omega
 obtain ⟨r1, r2⟩ := hr i hi2 hi
 obtain ⟨b, o, B, rfl, hB, hz, hg⟩ := hs.get1 rfl i hi2 (.slice xs[i].a xs[i].n xs[i].n) rfl
 refine ⟨.pointer (some ⟨b, o + i * 1, none⟩), xs[i].a, ?_, fun H' hE => ?_, r2⟩
 ·have h1 : (i : Int) < (M.length : Int) := by omega
  simp -dsimp only [go_sem, T.e, T.s, hi]
 ·have hB' := hE.live hB
  have hs1 := T.s
  have hg1 := T.g
  rw [r1] at hg
  simp -dsimp only [go_sem, hB', hs1, hg1, hg]
theorem MV.ix {H : Heap} {v : Value} {M : List (List Rat)} (T : RowT t te) (h : MV H v M) (i : Nat) (hi : i < M.length) :
  ∃ p c, q0i prog t v (.int .i64 (i : Int)) = some p ∧ (∀ H', Ext H H' → q2n prog H' te p = some (.slice c M[i].length M[i].length)) ∧ SL H c M[i] := by
 obtain ⟨a, xs, rfl, hs, hr⟩ := h
 exact q9y.ix T hs hr i hi
theorem w3g {lk : Nat} {H0 H : Heap} {a : Option Addr} {xs : List Sx} {n : Nat} (T : RowT t te) {t2 : TypeId} (he2 : q0z prog t2 = some te) (hO : Own H0.length H a xs) (hlk : lk ≤ H0.length) (hn : n = xs.length) (hle : n ≤ 1000000) (x : Sx) :
  q2u prog lk (H ++ [⟨[.slice x.a x.n x.n], 1, false⟩]) t t2 (.slice a n n) (.slice (some ⟨H.length, 0, none⟩) 1 1) = some (.slice (some ⟨H.length + 1, 0, none⟩) (n + 1) (n + 1), kill (H ++ [⟨[.slice x.a x.n x.n], 1, false⟩]) a ++ [⟨q0g xs ++ [.slice x.a x.n x.n], 1, false⟩]) := by
 have := ap_ownN (P := prog) (lk := lk) (t := t) (t2 := t2) hO hlk hn [⟨[.slice x.a x.n x.n], 1, false⟩] 0 [.slice x.a x.n x.n] 1 rfl rfl rfl
 refine this.trans ?_
 have h1 := T.s
 have h2 := T.b
 have h3 := T.z
 rw [T.e, he2]
 simp only [h1, h2, h3, List.length_cons, List.length_nil, Nat.zero_add]
 rw [if_pos (by refine ⟨trivial, by omega, trivial, by omega, by omega⟩)]
end
theorem own_sx {H0 H : Heap} {a : Option Addr} {xs : List Sx} (hE : Ext H0 H) (x : Sx) (N : List Blk) : Own H0.length (kill (H ++ N) a ++ [⟨q0g xs ++ [.slice x.a x.n x.n], 1, false⟩]) (some ⟨H.length + N.length, 0, none⟩) (xs ++ [x]) :=
 q9p (lo := H0.length) (H := H) (a := a) (l := xs) x N (by have := hE.le; omega)
theorem sl_kill {lo : Nat} {H : Heap} {a c : Option Addr} {xs : List Sx} {r : List Rat} (hO : Own lo H a xs) (hr : SL H c r) : SL (kill H a) c r := by
 rcases hr with hr | ⟨b, o, B, rfl, h2, h3, h4⟩
 ·exact .inl hr
 ·refine .inr ⟨b, o, B, rfl, q4f h2 ?_, h3, h4⟩
  rintro c o' e rfl
  rcases hO with ⟨h, _⟩ | ⟨b', h, _, h5⟩
  ·cases h
  ·cases h
   rintro rfl
   rw [h2] at h5
   injection h5 with h5
   rw [h5] at h3
   have h6 : (1 : Nat) = 3 := h3
   omega
structure MGrow (lo : Nat) (H : Heap) (v : Value) (M : List (List Rat)) (a : Option Addr) (xs : List Sx) : Prop where
 v : v = .slice a M.length M.length
 own : Own lo H a xs
 rows : q9y H xs M
theorem MGrow.nil {lo : Nat} {H : Heap} : MGrow lo H (.slice none 0 0) [] none [] := ⟨rfl, Own.nil, rfl, fun i h => by simp at h⟩
theorem MGrow.mv {lo : Nat} {H : Heap} {v : Value} {M : List (List Rat)} {a : Option Addr} {xs : List Sx} (h : MGrow lo H v M a xs) : MV H v M := ⟨a, xs, h.v, h.own.sl, h.rows⟩
theorem MGrow.ext {lo : Nat} {H H' : Heap} {v : Value} {M : List (List Rat)} {a : Option Addr} {xs : List Sx} (h : MGrow lo H v M a xs) (hE : Ext H H') : MGrow lo H' v M a xs := ⟨h.v, hE.own h.own, h.rows.ext hE⟩
theorem MGrow.app {H0 H : Heap} {v : Value} {M : List (List Rat)} {a : Option Addr} {xs : List Sx} (h : MGrow H0.length H v M a xs) (hE : Ext H0 H) {c : Option Addr} {r : List Rat} (hr : SL H c r) :
  MGrow H0.length (kill (H ++ [⟨[.slice c r.length r.length], 1, false⟩]) a ++ [⟨q0g xs ++ [.slice c r.length r.length], 1, false⟩]) (.slice (some ⟨H.length + 1, 0, none⟩) (M.length + 1) (M.length + 1)) (M ++ [r]) (some ⟨H.length + 1, 0, none⟩) (xs ++ [⟨c, r.length⟩]) ∧
  Ext H0 (kill (H ++ [⟨[.slice c r.length r.length], 1, false⟩]) a ++ [⟨q0g xs ++ [.slice c r.length r.length], 1, false⟩]) := by
 have hown := own_sx (a := a) (xs := xs) hE ⟨c, r.length⟩ [⟨[.slice c r.length r.length], 1, false⟩]
 have hm := h.own.more [⟨[.slice c r.length r.length], 1, false⟩]
 refine ⟨⟨by rw [List.length_append]; rfl, hown, by rw [List.length_append, List.length_append, h.rows.1]; rfl, fun i h1 h2 => ?_⟩, (hm.kill (hE.more _)).more _⟩
 by_cases hi : i < xs.length
 ·have hi2 : i < M.length := by rw [← h.rows.1]; exact hi
  rw [List.getElem_append_left hi, List.getElem_append_left hi2]
  obtain ⟨r1, r2⟩ := h.rows.2 i hi hi2
  exact ⟨r1, (Ext.app _ _).sl (sl_kill hm ((Ext.app _ _).sl r2))⟩
 ·have e1 : i = xs.length := by rw [List.length_append] at h1; simp at h1; omega
  have e2 : i = M.length := by rw [e1]; exact h.rows.1
  subst e1
  rw [List.getElem_append_right (Nat.le_refl _), List.getElem_append_right (by omega)]
  simp only [Nat.sub_self, List.getElem_cons_zero, e2]
  exact ⟨trivial, (Ext.app _ _).sl (sl_kill hm ((Ext.app _ _).sl hr))⟩
structure MOwn (lo : Nat) (H : Heap) (a : Option Addr) (xs : List Sx) (M : List (List Rat)) : Prop where
 out : Own lo H a xs
 len : xs.length = M.length
 row : ∀ i (h1 : i < xs.length) (h2 : i < M.length), xs[i].n = M[i].length ∧ Own lo H xs[i].a M[i]
 ne : ∀ i j (hi : i < xs.length) (hj : j < xs.length), i ≠ j → xs[i].a = xs[j].a → xs[i].a = none
def OM (lo : Nat) (H : Heap) (v : Value) (M : List (List Rat)) : Prop := ∃ a xs, v = .slice a M.length M.length ∧ MOwn lo H a xs M
section
variable {lo : Nat} {H : Heap} {a : Option Addr} {xs : List Sx} {M : List (List Rat)}
theorem MOwn.rows (h : MOwn lo H a xs M) : q9y H xs M := ⟨h.len, fun i h1 h2 => ⟨(h.row i h1 h2).1, (h.row i h1 h2).2.sl⟩⟩
theorem OM.mv {v : Value} (h : OM lo H v M) : MV H v M := let ⟨a, xs, h1, h2⟩ := h; ⟨a, xs, h1, h2.out.sl, h2.rows⟩
theorem MOwn.ext {H' : Heap} (h : MOwn lo H a xs M) (hE : Ext H H') : MOwn lo H' a xs M :=
 ⟨hE.own h.out, h.len, fun i h1 h2 => ⟨(h.row i h1 h2).1, hE.own (h.row i h1 h2).2⟩, h.ne⟩
theorem MOwn.low {lo' : Nat} (h : MOwn lo H a xs M) (hl : lo' ≤ lo) : MOwn lo' H a xs M :=
 ⟨h.out.low hl, h.len, fun i h1 h2 => ⟨(h.row i h1 h2).1, (h.row i h1 h2).2.low hl⟩, h.ne⟩
theorem OM.ext {H' : Heap} {v : Value} (h : OM lo H v M) (hE : Ext H H') : OM lo H' v M := let ⟨a, xs, h1, h2⟩ := h; ⟨a, xs, h1, h2.ext hE⟩
theorem OM.low {lo' : Nat} {v : Value} (h : OM lo H v M) (hl : lo' ≤ lo) : OM lo' H v M := let ⟨a, xs, h1, h2⟩ := h; ⟨a, xs, h1, h2.low hl⟩
theorem MOwn.nil : MOwn lo H none [] [] := ⟨Own.nil, rfl, fun i h => by simp at h, fun i j h => by simp at h⟩
theorem own_kill {b : Option Addr} {r : List Rat} (hO : Own lo H a xs) (h : Own lo H b r) : Own lo (kill H a) b r := by
 rcases h with h | ⟨c, rfl, h2, h3⟩
 ·exact .inl h
 ·refine .inr ⟨c, rfl, h2, q4f h3 ?_⟩
  rintro c' o e rfl
  rcases hO with ⟨h, _⟩ | ⟨b', h, _, h5⟩
  ·cases h
  ·cases h
   rintro rfl
   rw [h3] at h5
   injection h5 with h5
   have h6 : (lblk r).sz = (lblk xs).sz := by rw [h5]
   have h7 : (3 : Nat) = 1 := h6
   omega
theorem MOwn.app {H0 H2 : Heap} (h : MOwn H0.length H a xs M) (hE0 : Ext H0 H) (hE : Ext H H2) {c : Option Addr} {r : List Rat} (hr : Own H.length H2 c r) :
  MOwn H0.length (kill (H2 ++ [⟨[.slice c r.length r.length], 1, false⟩]) a ++ [⟨q0g xs ++ [.slice c r.length r.length], 1, false⟩]) (some ⟨H2.length + 1, 0, none⟩) (xs ++ [⟨c, r.length⟩]) (M ++ [r]) ∧
  Ext H0 (kill (H2 ++ [⟨[.slice c r.length r.length], 1, false⟩]) a ++ [⟨q0g xs ++ [.slice c r.length r.length], 1, false⟩]) := by
 have hE2 := hE0.trans hE
 have h2 := h.ext hE
 have hown := own_sx (a := a) (xs := xs) hE2 ⟨c, r.length⟩ [⟨[.slice c r.length r.length], 1, false⟩]
 have hm := h2.out.more [⟨[.slice c r.length r.length], 1, false⟩]
 have hN : ∀ {b : Option Addr} {q : List Rat}, Own H0.length H2 b q → Own H0.length (kill (H2 ++ [⟨[.slice c r.length r.length], 1, false⟩]) a ++ [⟨q0g xs ++ [.slice c r.length r.length], 1, false⟩]) b q := fun hq => (own_kill hm (hq.more _)).more _
 have hold : ∀ i (h1 : i < xs.length) b o e, xs[i].a = some ⟨b, o, e⟩ → b < H.length := fun i h1 b o e he => by
  rcases (h.row i h1 (by rw [← h.len]; exact h1)).2 with ⟨h3, _⟩ | ⟨b', h3, _, h4⟩
  ·rw [h3] at he; cases he
  ·rw [h3] at he; cases he; exact q0w h4
 have hnew : ∀ b o e, c = some ⟨b, o, e⟩ → H.length ≤ b := fun b o e he => by
  rcases hr with ⟨h3, _⟩ | ⟨b', h3, h4, _⟩
  ·rw [h3] at he; cases he
  ·rw [h3] at he; cases he; exact h4
 have hlen := h.len
 refine ⟨⟨hown, by rw [List.length_append, List.length_append, h.len]; rfl, fun i h1 h3 => ?_, fun i j hi hj hij he => ?_⟩, (hm.kill (hE2.more _)).more _⟩
 ·by_cases hi : i < xs.length
  ·have hi2 : i < M.length := by omega
   rw [List.getElem_append_left hi, List.getElem_append_left hi2]
   obtain ⟨r1, r2⟩ := h2.row i hi hi2
   exact ⟨r1, hN r2⟩
  ·have e1 : i = xs.length := by rw [List.length_append] at h1; simp at h1; omega
   have e2 : i = M.length := by omega
   subst e1
   rw [List.getElem_append_right (Nat.le_refl _), List.getElem_append_right (by omega)]
   simp only [Nat.sub_self, List.getElem_cons_zero, e2]
   exact ⟨trivial, hN (hr.low hE0.le)⟩
 ·rw [List.length_append] at hi hj
  simp only [List.length_cons, List.length_nil] at hi hj
  by_cases hi2 : i < xs.length
  ·rw [List.getElem_append_left hi2] at he ⊢
   by_cases hj2 : j < xs.length
   ·rw [List.getElem_append_left hj2] at he
    exact h.ne i j hi2 hj2 hij he
   ·rw [List.getElem_append_right (by omega)] at he
    have : j - xs.length = 0 := by omega
    simp only [this, List.getElem_cons_zero] at he
    cases hx : xs[i].a with
    | none => rfl
    | some A =>
     obtain ⟨b, o, e⟩ := A
     have h3 := hold i hi2 b o e hx
     have h4 := hnew b o e (by rw [← he]; exact hx)
     omega
  ·by_cases hj2 : j < xs.length
   ·rw [List.getElem_append_right (by omega), List.getElem_append_left hj2] at he
    rw [List.getElem_append_right (by omega)]
    have : i - xs.length = 0 := by omega
    simp only [this, List.getElem_cons_zero] at he ⊢
    cases hx : c with
    | none => rfl
    | some A =>
     obtain ⟨b, o, e⟩ := A
     have h3 := hold j hj2 b o e (by rw [← he]; exact hx)
     have h4 := hnew b o e hx
     omega
   ·omega
theorem own_ne {b c : Option Addr} {r q : List Rat} {lb : Nat} (h : Own lo H b r) (hb : b = some ⟨lb, 0, none⟩) (hc : Own lo H c q) (hne : c = b → c = none) (B : Blk) : Own lo (H.set lb B) c q := by
 refine hc.set ?_
 rintro d o e rfl hd
 rcases hc with ⟨h1, _⟩ | ⟨b', h1, _, _⟩
 ·cases h1
 ·cases h1
  subst hd
  have := hne hb.symm
  cases this
theorem MOwn.put {lk : Nat} {t te : TypeId} (T : RowT t te) (h : MOwn lo H a xs M) (i j : Nat) (hi : i < M.length) (hj : j < M[i].length) (hlk : lk ≤ lo) (q : Rat) :
  ∃ p c p2 H2, q0i prog t (.slice a M.length M.length) (.int .i64 (i : Int)) = some p ∧ q2n prog H te p = some (.slice c M[i].length M[i].length) ∧
   q0i prog te (.slice c M[i].length M[i].length) (.int .i64 (j : Int)) = some p2 ∧ q2n prog H 55 p2 = some (vR M[i][j]) ∧ q3c prog lk H 55 p2 (vR q) = some H2 ∧
   MOwn lo H2 a xs (M.set i (M[i].set j q)) ∧ (∀ H0 : Heap, H0.length ≤ lo → Ext H0 H → Ext H0 H2) := by
 have hi2 : i < xs.length := by rw [h.len]; exact hi
 obtain ⟨p, c, h1, h2, _⟩ := q9y.ix T h.out.sl h.rows i hi
 have h2 := h2 H (Ext.refl H)
 have hrow := (h.row i hi2 hi)
 have hc : xs[i].a = c := by
  obtain ⟨b, o, B, rfl, hB, hz, hg⟩ := h.out.sl.get1 rfl i hi2 (.slice xs[i].a xs[i].n xs[i].n) rfl
  have hs1 := T.s
  have hg1 := T.g
  have he1 := T.e
  simp -dsimp only [go_sem, he1, hs1, hi] at h1
  injection h1 with h1
  subst h1
  simp -dsimp only [go_sem, hB, hs1, hg1, hg] at h2
  injection h2 with h2
  injection h2 with h2
 obtain ⟨r1, r2⟩ := hrow
 rw [hc] at r2
 obtain ⟨p2, h3, h4⟩ := r2.sl.ix j hj T.r
 have h4 := h4 H (Ext.refl H)
 rcases r2 with ⟨_, h0⟩ | ⟨b, rfl, hb1, hb2⟩
 ·rw [h0] at hj; simp at hj
 ·refine ⟨p, _, p2, H.set b (lblk (M[i].set j q)), h1, h2, h3, h4, ?_, ?_, ?_⟩
  ·have hjl : (j : Int) < (M[i].length : Int) := by omega
   have he := T.r
   simp -dsimp only [go_sem, he, hj] at h3
   injection h3 with h3
   subst h3
   have hput := w1x M[i] j q hj
   have hput : iput (q0g M[i]) (j * 3) (rC q) = q0g (M[i].set j q) := hput
   have hcl : (q0g M[i]).length = M[i].length * 3 := q1l _
   have hle : lk ≤ b := by omega
   simp -dsimp only [go_sem, hb2, q6s, hput, hle, hcl]
   have : j * 3 + 2 < M[i].length * 3 := by omega
   rw [if_pos this]
   rfl
  ·refine ⟨?_, by rw [List.length_set]; exact h.len, fun k h5 h6 => ?_, h.ne⟩
   ·rcases h.out with ho | ⟨b', ho1, ho2, ho3⟩
    ·exact .inl ho
    ·refine .inr ⟨b', ho1, ho2, ?_⟩
     have : b ≠ b' := by
      rintro rfl
      rw [hb2] at ho3
      injection ho3 with ho3
      have h6 : (lblk M[i]).sz = (lblk xs).sz := by rw [ho3]
      have h7 : (3 : Nat) = 1 := h6
      omega
     rw [q0t this]; exact ho3
   ·rw [List.length_set] at h6
    by_cases hk : i = k
    ·subst hk
     rw [List.getElem_set_self, List.length_set]
     refine ⟨r1, ?_⟩
     rw [hc]
     exact .inr ⟨b, rfl, hb1, q0x (q0w hb2) rfl⟩
    ·rw [List.getElem_set_ne hk]
     obtain ⟨r3, r4⟩ := h.row k h5 h6
     refine ⟨r3, own_ne (.inr ⟨b, rfl, hb1, hb2⟩) rfl r4 (fun he => ?_) _⟩
     exact h.ne k i h5 hi2 (fun h => hk h.symm) (by rw [he, hc])
  ·intro H0 hl hE
   exact hE.set (by omega) _
end
def mx (r c : Nat) (E : Nat → Nat → Rat) : List (List Rat) := (List.range r).map fun i => mapR (E i) c
theorem q1v (r c : Nat) (E : Nat → Nat → Rat) : (mx r c E).length = r := by simp [mx]
theorem mx_row (r c : Nat) (E : Nat → Nat → Rat) (i : Nat) (h : i < (mx r c E).length) : (mx r c E)[i] = mapR (E i) c := by simp [mx]
theorem q4u (r c : Nat) (E : Nat → Nat → Rat) (i : Nat) (h : i < (mx r c E).length) : (mx r c E)[i].length = c := by rw [mx_row, q0d]
theorem q1u (F : Nat → Rat) (n i : Nat) (h : i < (mapR F n).length) : (mapR F n)[i] = F i := by simp [mapR]
theorem mx_get (r c : Nat) (E : Nat → Nat → Rat) (i j : Nat) (h : i < (mx r c E).length) (h2 : j < (mx r c E)[i].length) : (mx r c E)[i][j] = E i j := by
 simp only [mx_row] at h2 ⊢; exact q1u _ _ _ _
theorem mx_succ (r c : Nat) (E : Nat → Nat → Rat) : mx (r + 1) c E = mx r c E ++ [mapR (E r) c] := by simp [mx, List.range_succ]
theorem q1w {F G : Nat → Rat} {n : Nat} (h : ∀ i, i < n → F i = G i) : mapR F n = mapR G n := by
 unfold mapR; exact List.map_congr_left fun i hi => h i (List.mem_range.1 hi)
theorem q7b {E F : Nat → Nat → Rat} {r c : Nat} (h : ∀ i j, i < r → j < c → E i j = F i j) : mx r c E = mx r c F := by
 unfold mx; exact List.map_congr_left fun i hi => q1w fun j hj => h i j (List.mem_range.1 hi) hj
theorem mx_put (r c : Nat) (E : Nat → Nat → Rat) (i j : Nat) (q : Rat) (hi : i < (mx r c E).length) : (mx r c E).set i ((mx r c E)[i].set j q) = mx r c (fun i' j' => if i' = i ∧ j' = j then q else E i' j') := by
 refine List.ext_getElem (by simp [mx]) fun k h1 h2 => ?_
 simp only [mx_row, List.getElem_set]
 by_cases hk : i = k
 ·subst hk
  rw [if_pos rfl]
  refine List.ext_getElem (by simp [mapR]) fun l h3 h4 => ?_
  rw [q1u, List.getElem_set]
  by_cases hl : j = l
  ·subst hl; simp
  ·rw [if_neg hl, q1u, if_neg (fun h => hl h.2.symm)]
 ·rw [if_neg hk]
  exact q1w fun l _ => by rw [if_neg (fun h => hk h.1.symm)]
theorem q1m {i n : Nat} (h : i < n) (hn : n ≤ 1000000) : IntKind.i64.wrap ((i : Int) + 1) = ((i + 1 : Nat) : Int) := by rw [w64 (by omega) (by omega)]; omega
theorem ltI {i n : Nat} (h : i < n) : ((i : Int) < (n : Int)) = True := eq_true (by omega)
theorem nltI (n : Nat) : ((n : Int) < (n : Int)) = False := eq_false (by omega)
theorem r5_Zero {H : Heap} (r c : Nat) (hr : r ≤ 1000000) (hc : c ≤ 1000000) : q0m 169 [.int .i64 (r : Int), .int .i64 (c : Int)] H (fun v H' => OM H.length H' v (mx r c fun _ _ => 0)) := by
 refine q1n (by decide) Tryz.func169 rfl ?_
 intro lk hlk
 simp -dsimp only [go_sem]
 refine q0h (m := fun (s : Nat × Option Addr × List Sx) => r - s.1) (I := fun s σ H' => s.1 ≤ r ∧ Ext H H' ∧ MOwn H.length H' s.2.1 s.2.2 (mx s.1 c fun _ _ => 0) ∧ σ 0 = .int .i64 (r : Int) ∧ σ 1 = .int .i64 (c : Int) ∧ σ 5 = .slice s.2.1 s.1 s.1 ∧ σ 6 = .int .i64 (s.1 : Int)) (0, none, []) ⟨Nat.zero_le _, Ext.refl _, MOwn.nil, rfl, rfl, rfl, rfl⟩ ?_
 rintro ⟨i, a, xs⟩ σ H' ⟨h1, hE, hM, s0, s1, s5, s6⟩
 simp only at h1 hM s5 s6
 by_cases hi : i < r
 ·have f1 := ltI hi
  simp -dsimp only [go_sem, s0, s1, s5, s6, f1]
  refine q0h (m := fun (s : Nat × Option Addr) => c - s.1) (I := fun s σ H2 => s.1 ≤ c ∧ Ext H' H2 ∧ Own H'.length H2 s.2 (mapR (fun _ => 0) s.1) ∧ σ 0 = .int .i64 (r : Int) ∧ σ 1 = .int .i64 (c : Int) ∧ σ 5 = .slice a i i ∧ σ 6 = .int .i64 (i : Int) ∧ σ 7 = .slice s.2 s.1 s.1 ∧ σ 8 = .int .i64 (s.1 : Int)) (0, none) ⟨Nat.zero_le _, Ext.refl _, Own.nil, s0, s1, s5, s6, rfl, rfl⟩ ?_
  clear s0 s1 s5 s6
  rintro ⟨j, d⟩ σ H2 ⟨h2, hE2, hO, s0, s1, s5, s6, s7, s8⟩
  simp only at h2 hO s7 s8
  have hlen := q0d (fun _ => (0 : Rat)) j
  have hlo := hE.le
  by_cases hj : j < c
  ·have f2 := ltI hj
   have e7 := q1m hj hc
   have hap := q5w (lk := lk) (t := 22) (t2 := 22) q0o q0o hO (by omega) hlen.symm (by omega) 0
   have hO2 := q2w hE2 hO 0 [⟨rC 0, 3, false⟩]
   rw [← q2d (fun _ => 0)] at hO2
   simp -dsimp only [go_sem, s0, s1, s5, s6, s7, s8, f2, q6f, reps, hap, e7]
   exact next (j + 1, _) (by show c - (j + 1) < c - j; omega) ⟨hj, q2r hE2 hO _ _, hO2, s0, s1, s5, s6, rfl, rfl⟩
  ·have hj' : j = c := by omega
   subst hj'
   have f2 := nltI j
   have e9 := q1m hi hr
   have hxl := hM.len
   rw [q1v] at hxl
   obtain ⟨hM2, hE3⟩ := hM.app hE hE2 hO
   rw [← mx_succ i j (fun _ _ => 0), hlen] at hM2
   rw [hlen] at hE3
   have hap := w3g (lk := lk) (t := 28) (t2 := 28) q2c q2c.e ((hM.ext hE2).out) (by omega) hxl.symm (by omega) ⟨d, j⟩
   simp -dsimp only [go_sem, s0, s1, s5, s6, s7, s8, f2, reps, hap, e9]
   exact next (i + 1, _, _) (by show r - (i + 1) < r - i; omega) ⟨hi, hE3, hM2, s0, s1, rfl, rfl⟩
 ·have hi' : i = r := by omega
  subst hi'
  have f1 := nltI i
  simp -dsimp only [go_sem, s0, s1, s5, s6, f1]
  exact ⟨hE, a, xs, by rw [q1v], hM⟩
theorem r5_Identity {H : Heap} (n : Nat) (hn : n ≤ 1000000) : q0m 173 [.int .i64 (n : Int)] H (fun v H' => OM H.length H' v (mx n n fun i j => if i = j then 1 else 0)) := by
 refine q1n (by decide) Tryz.func173 rfl ?_
 intro lk hlk
 simp -dsimp only [go_sem]
 refine ob_y (r5_Zero n n hn hn) hlk ?_
 rintro v H1 hE1 ⟨a, xs, rfl, hM⟩
 have hlo := hE1.le
 simp -dsimp only [go_sem]
 refine q0h (m := fun (i : Nat) => n - i) (I := fun i σ H' => i ≤ n ∧ Ext H H' ∧ MOwn H.length H' a xs (mx n n fun k j => if k = j ∧ k < i then 1 else 0) ∧ σ 0 = .int .i64 (n : Int) ∧ σ 3 = .slice a n n ∧ σ 4 = .int .i64 (i : Int)) 0 ⟨Nat.zero_le _, hE1, by rw [q7b (F := fun _ _ => 0) (fun i j _ _ => if_neg (by omega))]; exact hM, rfl, by rw [q1v]; rfl, rfl⟩ ?_
 rintro i σ H' ⟨h1, hE, hM, s0, s3, s4⟩
 by_cases hi : i < n
 ·have f1 := ltI hi
  have e7 := q1m hi hn
  obtain ⟨p, c, p2, H2, q1, q2, q3, _, q5, q6, q7⟩ := hM.put (lk := lk) q2c i i (by rw [q1v]; exact hi) (by rw [q4u]; exact hi) hlk 1
  rw [q1v] at q1
  rw [q4u] at q2 q3
  rw [mx_put] at q6
  simp -dsimp only [go_sem, s0, s3, s4, f1, e7, q1, q2, q3, q5, r3_one]
  refine next (i + 1) (by show n - (i + 1) < n - i; omega) ⟨hi, q7 H (Nat.le_refl _) hE, ?_, s0, s3, rfl⟩
  rw [q7b (F := fun k j => if k = j ∧ k < i + 1 then 1 else 0)] at q6
  ·exact q6
  ·intro k j _ _
   by_cases hk : k = i ∧ j = i
   ·rw [if_pos hk, if_pos ⟨by omega, by omega⟩]
   ·rw [if_neg hk]
    by_cases h : k = j ∧ k < i
    ·rw [if_pos h, if_pos ⟨h.1, by omega⟩]
    ·rw [if_neg h, if_neg (by omega)]
 ·have hi' : i = n := by omega
  subst hi'
  have f1 := nltI i
  simp -dsimp only [go_sem, s0, s3, s4, f1]
  refine ⟨hE, a, xs, by rw [q1v], ?_⟩
  rw [q7b (F := fun k j => if k = j then 1 else 0)] at hM
  ·exact hM
  ·intro k j hk _
   by_cases h : k = j
   ·rw [if_pos ⟨h, hk⟩, if_pos h]
   ·rw [if_neg (fun x => h x.1), if_neg h]
def cols (M : List (List Rat)) : Nat := match M with
 | [] => 0
 | r :: _ => r.length
theorem cols_mx (r c : Nat) (E : Nat → Nat → Rat) (h : 0 < r) : cols (mx r c E) = c := by
 obtain ⟨n, rfl⟩ : ∃ n, r = n + 1 := ⟨r - 1, by omega⟩
 have : mx (n + 1) c E = mapR (E 0) c :: (List.range n).map (fun i => mapR (E (i + 1)) c) := by
  unfold mx; rw [List.range_succ_eq_map]; simp
 rw [this]; exact q0d _ _
theorem r5_Cols {H : Heap} {v : Value} {M : List (List Rat)} (hv : MV H v M) (lk : Nat) : q0c prog md lk 126 [v] H = some (.int .i64 (cols M : Int), H) := by
 refine q0a rfl Tryz.func126 rfl rfl ?_
 cases M with
 | nil =>
  obtain ⟨a, xs, rfl, hs, hr⟩ := hv
  have f1 : ((0 : Nat) : Int) = 0 := rfl
  simp -dsimp only [go_sem, f1]
  rfl
 | cons r M =>
  obtain ⟨p, c, q1, q2, q3⟩ := hv.ix q2c 0 (by simp)
  have q2 := q2 H (Ext.refl _)
  obtain ⟨a, xs, rfl, hs, hr⟩ := hv
  rw [Int.natCast_zero] at q1
  simp only [List.length_cons, List.getElem_cons_zero] at q1 q2 q3
  have f1 : (((M.length + 1 : Nat) : Int) = 0) = False := eq_false (by omega)
  simp -dsimp only [go_sem, f1, q1, q2]
  rfl
def q5d (G : Nat → Nat → Rat) (i j : Nat) : Nat → Nat → Rat := fun k l => if k < i ∨ (k = i ∧ l < j) then G k l else 0
theorem w3a (G : Nat → Nat → Rat) : q5d G 0 0 = fun _ _ => 0 := by
 funext k l; unfold q5d; rw [if_neg (by omega)]
theorem w3b (G : Nat → Nat → Rat) (i j : Nat) : (fun k l => if k = i ∧ l = j then G i j else q5d G i j k l) = q5d G i (j + 1) := by
 funext k l
 unfold q5d
 by_cases h : k = i ∧ l = j
 ·rw [if_pos h, if_pos (by omega), h.1, h.2]
 ·rw [if_neg h]
  by_cases h2 : k < i ∨ (k = i ∧ l < j)
  ·rw [if_pos h2, if_pos (by omega)]
  ·rw [if_neg h2, if_neg (by omega)]
theorem fillE_row (G : Nat → Nat → Rat) (i r c : Nat) : mx r c (q5d G i c) = mx r c (q5d G (i + 1) 0) := by
 refine q7b fun k l _ hl => ?_
 unfold q5d
 by_cases h : k < i ∨ (k = i ∧ l < c)
 ·rw [if_pos h, if_pos (by omega)]
 ·rw [if_neg h, if_neg (by omega)]
theorem fillE_end (G : Nat → Nat → Rat) (r c : Nat) : mx r c (q5d G r 0) = mx r c G := by
 refine q7b fun k l hk _ => ?_
 unfold q5d
 rw [if_pos (.inl hk)]
theorem MV.ent {H : Heap} {v : Value} {t te : TypeId} {r c : Nat} {E : Nat → Nat → Rat} (T : RowT t te) (h : MV H v (mx r c E)) (i j : Nat) (hi : i < r) (hj : j < c) :
  ∃ p d p2, q0i prog t v (.int .i64 (i : Int)) = some p ∧ (∀ H', Ext H H' → q2n prog H' te p = some (.slice d c c)) ∧
   q0i prog te (.slice d c c) (.int .i64 (j : Int)) = some p2 ∧ (∀ H', Ext H H' → q2n prog H' 55 p2 = some (vR (E i j))) := by
 obtain ⟨p, d, h1, h2, h3⟩ := h.ix T i (by rw [q1v]; exact hi)
 obtain ⟨p2, h4, h5⟩ := h3.ix j (by rw [q4u]; exact hj) T.r
 simp only [q4u] at h2 h4
 simp only [mx_get] at h5
 exact ⟨p, d, p2, h1, h2, h4, h5⟩
theorem MV.row {H : Heap} {v : Value} {t te : TypeId} {r c : Nat} {E : Nat → Nat → Rat} (T : RowT t te) (h : MV H v (mx r c E)) (i : Nat) (hi : i < r) :
  ∃ p d, q0i prog t v (.int .i64 (i : Int)) = some p ∧ (∀ H', Ext H H' → q2n prog H' te p = some (.slice d c c)) ∧ SL H d (mapR (E i) c) := by
 obtain ⟨p, d, h1, h2, h3⟩ := h.ix T i (by rw [q1v]; exact hi)
 simp only [q4u] at h2
 rw [mx_row] at h3
 exact ⟨p, d, h1, h2, h3⟩
theorem MV.is {H : Heap} {v : Value} {M : List (List Rat)} (h : MV H v M) : ∃ a, v = .slice a M.length M.length := let ⟨a, _, h, _⟩ := h; ⟨a, h⟩
theorem MOwn.putx {lo : Nat} {H : Heap} {a : Option Addr} {xs : List Sx} {lk : Nat} {t te : TypeId} {r c : Nat} {E : Nat → Nat → Rat} (T : RowT t te) (h : MOwn lo H a xs (mx r c E)) (i j : Nat) (hi : i < r) (hj : j < c) (hlk : lk ≤ lo) (q : Rat) :
  ∃ p d p2 H2, q0i prog t (.slice a r r) (.int .i64 (i : Int)) = some p ∧ q2n prog H te p = some (.slice d c c) ∧
   q0i prog te (.slice d c c) (.int .i64 (j : Int)) = some p2 ∧ q3c prog lk H 55 p2 (vR q) = some H2 ∧
   MOwn lo H2 a xs (mx r c fun k l => if k = i ∧ l = j then q else E k l) ∧ (∀ H0 : Heap, H0.length ≤ lo → Ext H0 H → Ext H0 H2) := by
 obtain ⟨p, d, p2, H2, q1, q2, q3, _, q5, q6, q7⟩ := h.put (lk := lk) T i j (by rw [q1v]; exact hi) (by rw [q4u]; exact hj) hlk q
 rw [q1v] at q1
 rw [q4u] at q2 q3
 rw [mx_put] at q6
 exact ⟨p, d, p2, H2, q1, q2, q3, q5, q6, q7⟩
theorem r5_Add {H : Heap} {v w : Value} {r c : Nat} {E F : Nat → Nat → Rat} (hv : MV H v (mx r c E)) (hw : MV H w (mx r c F)) (h0 : 0 < r) (hr : r ≤ 1000000) (hc : c ≤ 1000000) (zE : ∀ i j, i < r → j < c → Sz (E i j)) (zF : ∀ i j, i < r → j < c → Sz (F i j)) :
  q0m 170 [v, w] H (fun v H' => OM H.length H' v (mx r c fun i j => E i j + F i j)) := by
 obtain ⟨G, hG⟩ : ∃ G : Nat → Nat → Rat, G = fun i j => E i j + F i j := ⟨_, rfl⟩
 rw [← hG]
 refine q1n (by decide) Tryz.func170 rfl ?_
 intro lk hlk
 have hk := r5_Cols hv
 rw [cols_mx _ _ _ h0] at hk
 obtain ⟨av, rfl⟩ := hv.is
 simp only [q1v] at hv hk ⊢
 simp -dsimp only [go_sem, hk]
 refine ob_y (r5_Zero r c hr hc) hlk ?_
 rintro v1 H1 hE1 ⟨a, xs, rfl, hM⟩
 simp -dsimp only [go_sem]
 refine q0h (m := fun (i : Nat) => r - i) (I := fun i σ H' => i ≤ r ∧ Ext H H' ∧ MOwn H.length H' a xs (mx r c (q5d G i 0)) ∧ σ 0 = .slice av r r ∧ σ 1 = w ∧ σ 5 = .slice a r r ∧ σ 14 = .int .i64 (r : Int) ∧ σ 15 = .int .i64 (i : Int)) 0 ⟨Nat.zero_le _, hE1, by rw [w3a]; exact hM, rfl, rfl, by rw [q1v]; rfl, rfl, rfl⟩ ?_
 rintro i σ H' ⟨h1, hE, hM, s0, s1, s5, s14, s15⟩
 by_cases hi : i < r
 ·have f1 := ltI hi
  have e9 := q1m hi hr
  obtain ⟨p, d, q1, q2, _⟩ := hv.row q2c i hi
  have q2 := q2 H' hE
  simp -dsimp only [go_sem, s0, s1, s5, s14, s15, f1, q1, q2]
  refine q0h (m := fun (j : Nat) => c - j) (I := fun j σ H' => j ≤ c ∧ Ext H H' ∧ MOwn H.length H' a xs (mx r c (q5d G i j)) ∧ σ 0 = .slice av r r ∧ σ 1 = w ∧ σ 5 = .slice a r r ∧ σ 14 = .int .i64 (r : Int) ∧ σ 15 = .int .i64 (i : Int) ∧ σ 6 = .int .i64 (i : Int) ∧ σ 22 = .int .i64 (c : Int) ∧ σ 23 = .int .i64 (j : Int)) 0 ⟨Nat.zero_le _, hE, hM, s0, s1, s5, s14, s15, rfl, rfl, rfl⟩ ?_
  clear s0 s1 s5 s14 s15 hM hE q2 H' σ
  rintro j σ H' ⟨h2, hE, hM, s0, s1, s5, s14, s15, s6, s22, s23⟩
  by_cases hj : j < c
  ·have f2 := ltI hj
   have e7 := q1m hj hc
   obtain ⟨pa, da, pa2, a1, a2, a3, a4⟩ := hv.ent q2c i j hi hj
   obtain ⟨pb, db, pb2, b1, b2, b3, b4⟩ := hw.ent q2c i j hi hj
   have a2 := a2 H' hE
   have a4 := a4 H' hE
   have b2 := b2 H' hE
   have b4 := b4 H' hE
   have k1 := fun lk H' => w2m lk H' (E i j) (F i j) (zE i j hi hj) (zF i j hi hj)
   have hGi : E i j + F i j = G i j := by rw [hG]
   rw [hGi] at k1
   obtain ⟨po, dO, po2, H2, o1, o2, o3, o5, o6, o7⟩ := hM.putx (lk := lk) q2c i j hi hj hlk (G i j)
   rw [w3b] at o6
   simp -dsimp only [go_sem, s0, s1, s5, s6, s14, s15, s22, s23, f2, e7, a1, a2, a3, a4, b1, b2, b3, b4, k1, o1, o2, o3, o5]
   exact next (j + 1) (by show c - (j + 1) < c - j; omega) ⟨hj, o7 H (Nat.le_refl _) hE, o6, s0, s1, s5, s14, s15, s6, s22, rfl⟩
  ·have hj' : j = c := by omega
   subst hj'
   have f2 := nltI j
   rw [fillE_row] at hM
   simp -dsimp only [go_sem, s0, s1, s5, s6, s14, s15, s22, s23, f2, e9]
   exact next (i + 1) (by show r - (i + 1) < r - i; omega) ⟨hi, hE, hM, s0, s1, s5, s14, rfl⟩
 ·have hi' : i = r := by omega
  subst hi'
  have f1 := nltI i
  rw [fillE_end] at hM
  simp -dsimp only [go_sem, s0, s1, s5, s14, s15, f1]
  exact ⟨hE, a, xs, by rw [q1v], hM⟩
theorem r5_Scale {H : Heap} {v : Value} {x : Rat} {r c : Nat} {E : Nat → Nat → Rat} (hv : MV H v (mx r c E)) (h0 : 0 < r) (hr : r ≤ 1000000) (hc : c ≤ 1000000) (zE : ∀ i j, i < r → j < c → Sz (E i j)) (zx : Sz x) :
  q0m 172 [v, vR x] H (fun v H' => OM H.length H' v (mx r c fun i j => E i j * x)) := by
 obtain ⟨G, hG⟩ : ∃ G : Nat → Nat → Rat, G = fun i j => E i j * x := ⟨_, rfl⟩
 rw [← hG]
 refine q1n (by decide) Tryz.func172 rfl ?_
 intro lk hlk
 have hk := fun N => r5_Cols (hv.ext (Ext.app H N))
 rw [cols_mx _ _ _ h0] at hk
 obtain ⟨av, rfl⟩ := hv.is
 simp only [q1v] at hv hk ⊢
 simp -dsimp only [go_sem, hk]
 obtain ⟨Hb, hHb⟩ : ∃ Hb, Hb = H ++ [⟨rC x, 3, false⟩] := ⟨_, rfl⟩
 have hE0 : Ext H Hb := by rw [hHb]; exact Ext.app _ _
 have hb : q0e Hb H.length = some ⟨rC x, 3, false⟩ := by rw [hHb]; exact q0j _ _
 have hl0 : Hb.length = H.length + 1 := by rw [hHb]; simp
 rw [← hHb]
 have hv := hv.ext hE0
 refine ob_y (r5_Zero r c hr hc) (by omega) ?_
 rintro v1 H1 hE1 ⟨a, xs, rfl, hM⟩
 simp -dsimp only [go_sem]
 refine q0h (m := fun (i : Nat) => r - i) (I := fun i σ H' => i ≤ r ∧ Ext Hb H' ∧ MOwn Hb.length H' a xs (mx r c (q5d G i 0)) ∧ σ 0 = .slice av r r ∧ σ 3 = .pointer (some ⟨H.length, 0, none⟩) ∧ σ 5 = .slice a r r ∧ σ 14 = .int .i64 (r : Int) ∧ σ 15 = .int .i64 (i : Int)) 0 ⟨Nat.zero_le _, hE1, by rw [w3a]; exact hM, rfl, rfl, by rw [q1v]; rfl, rfl, rfl⟩ ?_
 rintro i σ H' ⟨h1, hE, hM, s0, s3, s5, s14, s15⟩
 by_cases hi : i < r
 ·have f1 := ltI hi
  have e9 := q1m hi hr
  obtain ⟨p, d, q1, q2, _⟩ := hv.row q2c i hi
  have q2 := q2 H' hE
  simp -dsimp only [go_sem, s0, s3, s5, s14, s15, f1, q1, q2]
  refine q0h (m := fun (j : Nat) => c - j) (I := fun j σ H' => j ≤ c ∧ Ext Hb H' ∧ MOwn Hb.length H' a xs (mx r c (q5d G i j)) ∧ σ 0 = .slice av r r ∧ σ 3 = .pointer (some ⟨H.length, 0, none⟩) ∧ σ 5 = .slice a r r ∧ σ 14 = .int .i64 (r : Int) ∧ σ 15 = .int .i64 (i : Int) ∧ σ 6 = .int .i64 (i : Int) ∧ σ 22 = .int .i64 (c : Int) ∧ σ 23 = .int .i64 (j : Int)) 0 ⟨Nat.zero_le _, hE, hM, s0, s3, s5, s14, s15, rfl, rfl, rfl⟩ ?_
  clear s0 s3 s5 s14 s15 hM hE q2 H' σ
  rintro j σ H' ⟨h2, hE, hM, s0, s3, s5, s14, s15, s6, s22, s23⟩
  by_cases hj : j < c
  ·have f2 := ltI hj
   have e7 := q1m hj hc
   obtain ⟨pa, da, pa2, a1, a2, a3, a4⟩ := hv.ent q2c i j hi hj
   have a2 := a2 H' hE
   have a4 := a4 H' hE
   have hb' := hE.live hb
   have k1 := fun lk H' => w3l lk H' (E i j) x (zE i j hi hj) zx
   have hGi : E i j * x = G i j := by rw [hG]
   rw [hGi] at k1
   obtain ⟨po, dO, po2, H2, o1, o2, o3, o5, o6, o7⟩ := hM.putx (lk := lk) q2c i j hi hj (by omega) (G i j)
   rw [w3b] at o6
   simp -dsimp only [go_sem, s0, s3, s5, s6, s14, s15, s22, s23, f2, e7, a1, a2, a3, a4, hb', k1, o1, o2, o3, o5]
   exact next (j + 1) (by show c - (j + 1) < c - j; omega) ⟨hj, o7 Hb (Nat.le_refl _) hE, o6, s0, s3, s5, s14, s15, s6, s22, rfl⟩
  ·have hj' : j = c := by omega
   subst hj'
   have f2 := nltI j
   rw [fillE_row] at hM
   simp -dsimp only [go_sem, s0, s3, s5, s6, s14, s15, s22, s23, f2, e9]
   exact next (i + 1) (by show r - (i + 1) < r - i; omega) ⟨hi, hE, hM, s0, s3, s5, s14, rfl⟩
 ·have hi' : i = r := by omega
  subst hi'
  have f1 := nltI i
  rw [fillE_end] at hM
  simp -dsimp only [go_sem, s0, s3, s5, s14, s15, f1]
  exact ⟨hE0.trans hE, a, xs, by rw [q1v], hM.low (by omega)⟩
theorem w3j {H : Heap} {v : Value} {r c : Nat} {E : Nat → Nat → Rat} (hv : MV H v (mx r c E)) (h0 : 0 < r) (hr : r ≤ 1000000) (hc : c ≤ 1000000) :
  q0m 129 [v] H (fun v H' => OM H.length H' v (mx c r fun i j => E j i)) := by
 refine q1n (by decide) Tryz.func129 rfl ?_
 intro lk hlk
 have hk := r5_Cols hv
 rw [cols_mx _ _ _ h0] at hk
 obtain ⟨av, rfl⟩ := hv.is
 simp only [q1v] at hv hk ⊢
 simp -dsimp only [go_sem, hk]
 refine ob_y (r5_Zero c r hc hr) hlk ?_
 rintro v1 H1 hE1 ⟨a, xs, rfl, hM⟩
 simp -dsimp only [go_sem]
 refine q0h (m := fun (i : Nat) => r - i) (I := fun i σ H' => i ≤ r ∧ Ext H H' ∧ MOwn H.length H' a xs (mx c r fun k l => q5d E i 0 l k) ∧ σ 0 = .slice av r r ∧ σ 3 = .slice a c c ∧ σ 12 = .int .i64 (r : Int) ∧ σ 13 = .int .i64 (i : Int)) 0 ⟨Nat.zero_le _, hE1, by rw [w3a]; exact hM, rfl, by rw [q1v]; rfl, rfl, rfl⟩ ?_
 rintro i σ H' ⟨h1, hE, hM, s0, s3, s12, s13⟩
 by_cases hi : i < r
 ·have f1 := ltI hi
  have e9 := q1m hi hr
  obtain ⟨p, d, q1, q2, _⟩ := hv.row q2c i hi
  have q2 := q2 H' hE
  simp -dsimp only [go_sem, s0, s3, s12, s13, f1, q1, q2]
  refine q0h (m := fun (j : Nat) => c - j) (I := fun j σ H' => j ≤ c ∧ Ext H H' ∧ MOwn H.length H' a xs (mx c r fun k l => q5d E i j l k) ∧ σ 0 = .slice av r r ∧ σ 3 = .slice a c c ∧ σ 12 = .int .i64 (r : Int) ∧ σ 13 = .int .i64 (i : Int) ∧ σ 4 = .int .i64 (i : Int) ∧ σ 20 = .int .i64 (c : Int) ∧ σ 21 = .int .i64 (j : Int)) 0 ⟨Nat.zero_le _, hE, hM, s0, s3, s12, s13, rfl, rfl, rfl⟩ ?_
  clear s0 s3 s12 s13 hM hE q2 H' σ
  rintro j σ H' ⟨h2, hE, hM, s0, s3, s12, s13, s4, s20, s21⟩
  by_cases hj : j < c
  ·have f2 := ltI hj
   have e7 := q1m hj hc
   obtain ⟨pa, da, pa2, a1, a2, a3, a4⟩ := hv.ent q2c i j hi hj
   have a2 := a2 H' hE
   have a4 := a4 H' hE
   obtain ⟨po, dO, po2, H2, o1, o2, o3, o5, o6, o7⟩ := hM.putx (lk := lk) q2c j i hj hi hlk (E i j)
   have hst : (fun k l => if k = j ∧ l = i then E i j else q5d E i j l k) = fun k l => q5d E i (j + 1) l k := by
    rw [← w3b E i j]
    funext k l
    show (if k = j ∧ l = i then E i j else q5d E i j l k) = (if l = i ∧ k = j then E i j else q5d E i j l k)
    by_cases h : k = j ∧ l = i
    ·rw [if_pos h, if_pos ⟨h.2, h.1⟩]
    ·rw [if_neg h, if_neg (fun x => h ⟨x.2, x.1⟩)]
   rw [hst] at o6
   simp -dsimp only [go_sem, s0, s3, s4, s12, s13, s20, s21, f2, e7, a1, a2, a3, a4, o1, o2, o3, o5]
   exact next (j + 1) (by show c - (j + 1) < c - j; omega) ⟨hj, o7 H (Nat.le_refl _) hE, o6, s0, s3, s12, s13, s4, s20, rfl⟩
  ·have hj' : j = c := by omega
   subst hj'
   have f2 := nltI j
   have hrow : mx j r (fun k l => q5d E i j l k) = mx j r (fun k l => q5d E (i + 1) 0 l k) := q7b fun k l hk _ => by
    unfold q5d
    by_cases h : l < i ∨ (l = i ∧ k < j)
    ·rw [if_pos h, if_pos (by omega)]
    ·rw [if_neg h, if_neg (by omega)]
   rw [hrow] at hM
   simp -dsimp only [go_sem, s0, s3, s4, s12, s13, s20, s21, f2, e9]
   exact next (i + 1) (by show r - (i + 1) < r - i; omega) ⟨hi, hE, hM, s0, s3, s12, rfl⟩
 ·have hi' : i = r := by omega
  subst hi'
  have f1 := nltI i
  have hend : mx c i (fun k l => q5d E i 0 l k) = mx c i (fun k l => E l k) := q7b fun k l _ hl => by
   unfold q5d; rw [if_pos (.inl hl)]
  rw [hend] at hM
  simp -dsimp only [go_sem, s0, s3, s12, s13, f1]
  exact ⟨hE, a, xs, by rw [q1v], hM⟩
def sumQ (G : Nat → Rat) : Nat → Rat
 | 0 => 0
 | n + 1 => sumQ G n + G n
abbrev rZ : List Value := [.bool false, .string (mkS []), .string (mkS [])]
theorem r5_Dot {H : Heap} {v w : Value} {n : Nat} {A B : Nat → Rat} (hv : LV H v (mapR A n)) (hw : LV H w (mapR B n)) (hn : n ≤ 1000000) (zA : ∀ i, i < n → Sz (A i)) (zB : ∀ i, i < n → Sz (B i)) (zP : ∀ i, i < n → Sz (A i * B i)) (zS : ∀ i, i < n → Sz (sumQ (fun k => A k * B k) i)) (lk : Nat) :
  q0c prog md lk 232 [v, w] H = some (vR (sumQ (fun k => A k * B k) n), H) := by
 obtain ⟨a, rfl, hs⟩ := hv
 obtain ⟨b, rfl, ht⟩ := hw
 refine q0a rfl Tryz.func232 rfl rfl ?_
 have e0 : (mapR A n).length = n := q0d _ _
 have e1 : (mapR B n).length = n := q0d _ _
 rw [e0, e1]
 simp -dsimp only [go_sem, q6f]
 refine q0h (m := fun (i : Nat) => n - i) (I := fun i σ H' => i ≤ n ∧ H' = H ++ [⟨rZ, 3, false⟩, ⟨rC (sumQ (fun k => A k * B k) i), 3, false⟩] ∧ σ 0 = .slice a n n ∧ σ 1 = .slice b n n ∧ σ 4 = .pointer (some ⟨H.length, 0, none⟩) ∧ σ 5 = .pointer (some ⟨H.length + 1, 0, none⟩) ∧ σ 9 = .int .i64 (n : Int) ∧ σ 10 = .int .i64 (i : Int)) 0 ⟨Nat.zero_le _, rfl, rfl, rfl, rfl, rfl, rfl, rfl⟩ ?_
 rintro i σ H' ⟨h1, rfl, s0, s1, s4, s5, s9, s10⟩
 by_cases hi : i < n
 ·have f1 := ltI hi
  have e7 := q1m hi hn
  obtain ⟨p, hp, hld⟩ := hs.ix i (by omega) q0o
  obtain ⟨q, hq, hld2⟩ := ht.ix i (by omega) q0o
  rw [e0] at hp
  rw [e1] at hq
  have hld := fun N => hld (H ++ N) (Ext.app H N)
  have hld2 := fun N => hld2 (H ++ N) (Ext.app H N)
  rw [q1u] at hld hld2
  have k1 := fun lk H' => w3l lk H' (A i) (B i) (zA i hi) (zB i hi)
  have k2 := fun lk H' => w2m lk H' _ _ (zS i hi) (zP i hi)
  have hst : sumQ (fun k => A k * B k) i + A i * B i = sumQ (fun k => A k * B k) (i + 1) := rfl
  rw [hst] at k2
  simp -dsimp only [go_sem, s0, s1, s4, s5, s9, s10, f1, e7, hp, hld, hq, hld2, k1, k2]
  exact next (i + 1) (by show n - (i + 1) < n - i; omega) ⟨hi, rfl, s0, s1, s4, s5, s9, rfl⟩
 ·have hi' : i = n := by omega
  subst hi'
  have f1 := nltI i
  simp -dsimp only [go_sem, s0, s1, s4, s5, s9, s10, f1]
theorem r5_Apply {H : Heap} {v w : Value} {r n : Nat} {E : Nat → Nat → Rat} {B : Nat → Rat} (hv : MV H v (mx r n E)) (hw : LV H w (mapR B n)) (hr : r ≤ 1000000) (hn : n ≤ 1000000) (zA : ∀ i j, i < r → j < n → Sz (E i j)) (zB : ∀ i, i < n → Sz (B i)) (zP : ∀ i j, i < r → j < n → Sz (E i j * B j)) (zS : ∀ i j, i < r → j < n → Sz (sumQ (fun k => E i k * B k) j)) :
  q0m 216 [v, w] H (fun v H' => OV H.length H' v (mapR (fun i => sumQ (fun k => E i k * B k) n) r)) := by
 obtain ⟨F, hF⟩ : ∃ F : Nat → Rat, F = fun i => sumQ (fun k => E i k * B k) n := ⟨_, rfl⟩
 rw [← hF]
 refine q1n (by decide) Tryz.func216 rfl ?_
 intro lk hlk
 obtain ⟨av, rfl⟩ := hv.is
 simp only [q1v] at hv ⊢
 simp -dsimp only [go_sem]
 refine q0h (m := fun (s : Nat × Option Addr) => r - s.1) (I := fun s σ H' => s.1 ≤ r ∧ Ext H H' ∧ Own H.length H' s.2 (mapR F s.1) ∧ σ 1 = w ∧ σ 8 = .slice av r r ∧ σ 9 = .int .i64 (r : Int) ∧ σ 5 = .slice s.2 s.1 s.1 ∧ σ 10 = .int .i64 (s.1 : Int)) (0, none) ⟨Nat.zero_le _, Ext.refl _, Own.nil, rfl, rfl, rfl, rfl, rfl⟩ ?_
 rintro ⟨i, c⟩ σ H' ⟨h1, hE, hO, s1, s8, s9, s5, s10⟩
 simp only at h1 hO s5 s10
 have hlen := q0d F i
 by_cases hi : i < r
 ·have f1 := ltI hi
  have e7 := q1m hi hr
  obtain ⟨p, d, q1, q2, q3⟩ := hv.row q2c i hi
  have q2 := q2 H' hE
  have hd : LV H' (.slice d n n) (mapR (E i) n) := ⟨d, by rw [q0d], hE.sl q3⟩
  have k1 := r5_Dot hd (hw.ext hE) hn (fun j hj => zA i j hi hj) zB (fun j hj => zP i j hi hj) (fun j hj => zS i j hi hj)
  have hFi : sumQ (fun k => E i k * B k) n = F i := by rw [hF]
  rw [hFi] at k1
  have hap := q5w (lk := lk) (t := 22) (t2 := 22) q0o q0o hO hlk hlen.symm (by omega) (F i)
  have hO2 := q2w hE hO (F i) [⟨rC (F i), 3, false⟩]
  rw [← q2d] at hO2
  simp -dsimp only [go_sem, s1, s8, s9, s5, s10, f1, q1, q2, k1, reps, hap, e7]
  exact next (i + 1, _) (by show r - (i + 1) < r - i; omega) ⟨hi, q2r hE hO _ _, hO2, s1, s8, s9, rfl, rfl⟩
 ·have hi' : i = r := by omega
  subst hi'
  have f1 := nltI i
  simp -dsimp only [go_sem, s1, s8, s9, s5, s10, f1]
  exact ⟨hE, c, by rw [hlen], hO⟩
def mulE (E F : Nat → Nat → Rat) (n : Nat) : Nat → Nat → Rat := fun i j => sumQ (fun k => F k j * E i k) n
structure MulEOk (E F : Nat → Nat → Rat) (r n c : Nat) : Prop where
 a : ∀ i k, i < r → k < n → Sz (E i k)
 b : ∀ k j, k < n → j < c → Sz (F k j)
 p : ∀ i k j, i < r → k < n → j < c → Sz (F k j * E i k)
 s : ∀ i k j, i < r → k < n → j < c → Sz (sumQ (fun k => F k j * E i k) k)
theorem r5_Mul {H : Heap} {v w : Value} {r n c : Nat} {E F : Nat → Nat → Rat} (hv : MV H v (mx r n E)) (hw : MV H w (mx n c F)) (h0 : 0 < n) (hr : r ≤ 1000000) (hn : n ≤ 1000000) (hc : c ≤ 1000000) (ok : MulEOk E F r n c) :
  q0m 171 [v, w] H (fun v H' => MV H' v (mx r c (mulE E F n))) := by
 refine q1n (by decide) Tryz.func171 rfl ?_
 intro lk hlk
 obtain ⟨av, rfl⟩ := hv.is
 simp only [q1v] at hv ⊢
 simp -dsimp only [go_sem]
 refine ob_y (w3j hw h0 hn hc) hlk ?_
 rintro vt H1 hE1 hT
 simp -dsimp only [go_sem]
 have hl1 := hE1.le
 refine q0h (m := fun (s : Nat × Option Addr × List Sx × Value) => r - s.1) (I := fun s σ H' => s.1 ≤ r ∧ Ext H1 H' ∧ MGrow H1.length H' s.2.2.2 (mx s.1 c (mulE E F n)) s.2.1 s.2.2.1 ∧ σ 5 = vt ∧ σ 11 = .slice av r r ∧ σ 12 = .int .i64 (r : Int) ∧ σ 6 = s.2.2.2 ∧ σ 13 = .int .i64 (s.1 : Int)) (0, none, [], .slice none 0 0) ⟨Nat.zero_le _, Ext.refl _, MGrow.nil, rfl, rfl, rfl, rfl, rfl⟩ ?_
 rintro ⟨i, a, xs, vo⟩ σ H' ⟨h1, hE, hG, s5, s11, s12, s6, s13⟩
 simp only at h1 hG s6 s13
 have hlo := hE.le
 by_cases hi : i < r
 ·have f1 := ltI hi
  have e7 := q1m hi hr
  obtain ⟨p, d, q1, q2, q3⟩ := hv.row q2c i hi
  have q2 := q2 H' (hE1.trans hE)
  have hd : LV H' (.slice d n n) (mapR (E i) n) := ⟨d, by rw [q0d], (hE1.trans hE).sl q3⟩
  simp -dsimp only [go_sem, s5, s11, s12, s6, s13, f1, q1, q2]
  refine ob_y (r5_Apply (hT.mv.ext hE) hd hc hn (fun j k hj hk => ok.b k j hk hj) (fun k hk => ok.a i k hi hk) (fun j k hj hk => ok.p i k j hi hk hj) (fun j k hj hk => ok.s i k j hi hk hj)) (by omega) ?_
  rintro vr H2 hE2 ⟨e, rfl, hr2⟩
  rw [show mapR (fun i_1 => sumQ (fun k => F k i_1 * E i k) n) c = mapR (mulE E F n i) c from rfl] at hr2 ⊢
  have hlr : (mapR (mulE E F n i) c).length = c := q0d _ _
  have hG2 := hG.ext hE2
  obtain ⟨hG3, hE3⟩ := hG2.app (hE.trans hE2) hr2.sl
  have hxl := hG.rows.1
  rw [q1v] at hxl
  have hvo := hG.v
  have hap := w3g (lk := lk) (t := 28) (t2 := 28) q2c q2c.e hG2.own (by omega) hxl.symm (by omega) ⟨e, c⟩
  rw [hlr] at hG3 hE3 ⊢
  rw [q1v] at hvo hG3
  rw [← mx_succ] at hG3
  simp -dsimp only [go_sem, s5, s11, s12, s6, s13, hvo, reps, hap, e7]
  exact next (i + 1, _, _, _) (by show r - (i + 1) < r - i; omega) ⟨hi, hE3, hG3, s5, s11, s12, rfl, rfl⟩
 ·have hi' : i = r := by omega
  subst hi'
  have f1 := nltI i
  simp -dsimp only [go_sem, s5, s11, s12, s6, s13, f1]
  exact ⟨hE1.trans hE, hG.mv⟩
theorem r5_Trace {H : Heap} {v : Value} {n : Nat} {E : Nat → Nat → Rat} (hv : MV H v (mx n n E)) (hn : n ≤ 1000000) (zE : ∀ i, i < n → Sz (E i i)) (zS : ∀ i, i < n → Sz (sumQ (fun k => E k k) i)) (lk : Nat) :
  q0c prog md lk 176 [v] H = some (vR (sumQ (fun k => E k k) n), H) := by
 refine q0a rfl Tryz.func176 rfl rfl ?_
 obtain ⟨av, rfl⟩ := hv.is
 simp only [q1v] at hv ⊢
 simp -dsimp only [go_sem, q6f]
 refine q0h (m := fun (i : Nat) => n - i) (I := fun i σ H' => i ≤ n ∧ H' = H ++ [⟨rZ, 3, false⟩, ⟨rC (sumQ (fun k => E k k) i), 3, false⟩] ∧ σ 0 = .slice av n n ∧ σ 2 = .pointer (some ⟨H.length, 0, none⟩) ∧ σ 3 = .pointer (some ⟨H.length + 1, 0, none⟩) ∧ σ 7 = .int .i64 (n : Int) ∧ σ 8 = .int .i64 (i : Int)) 0 ⟨Nat.zero_le _, rfl, rfl, rfl, rfl, rfl, rfl⟩ ?_
 rintro i σ H' ⟨h1, rfl, s0, s2, s3, s7, s8⟩
 by_cases hi : i < n
 ·have f1 := ltI hi
  have e7 := q1m hi hn
  obtain ⟨pa, da, pa2, a1, a2, a3, a4⟩ := hv.ent q2c i i hi hi
  have a2 := fun N => a2 (H ++ N) (Ext.app H N)
  have a4 := fun N => a4 (H ++ N) (Ext.app H N)
  have k2 := fun lk H' => w2m lk H' _ _ (zS i hi) (zE i hi)
  have hst : sumQ (fun k => E k k) i + E i i = sumQ (fun k => E k k) (i + 1) := rfl
  rw [hst] at k2
  simp -dsimp only [go_sem, s0, s2, s3, s7, s8, f1, e7, a1, a2, a3, a4, k2]
  exact next (i + 1) (by show n - (i + 1) < n - i; omega) ⟨hi, rfl, s0, s2, s3, s7, rfl⟩
 ·have hi' : i = n := by omega
  subst hi'
  have f1 := nltI i
  simp -dsimp only [go_sem, s0, s2, s3, s7, s8, f1]
theorem Own.putq {lo lk : Nat} {H : Heap} {a : Option Addr} {l : List Rat} {t : TypeId} (he : q0z prog t = some 55) (h : Own lo H a l) (j : Nat) (hj : j < l.length) (hlk : lk ≤ lo) (q : Rat) :
  ∃ p H2, q0i prog t (.slice a l.length l.length) (.int .i64 (j : Int)) = some p ∧ q2n prog H 55 p = some (vR l[j]) ∧ q3c prog lk H 55 p (vR q) = some H2 ∧ Own lo H2 a (l.set j q) ∧ (∀ H0 : Heap, H0.length ≤ lo → Ext H0 H → Ext H0 H2) ∧ ∃ b B, a = some ⟨b, 0, none⟩ ∧ b < H.length ∧ H2 = H.set b B := by
 obtain ⟨p, h3, h4⟩ := h.sl.ix j hj he
 have h4 := h4 H (Ext.refl H)
 rcases h with ⟨_, h0⟩ | ⟨b, rfl, hb1, hb2⟩
 ·rw [h0] at hj; simp at hj
 ·refine ⟨p, H.set b (lblk (l.set j q)), h3, h4, ?_, .inr ⟨b, rfl, hb1, q0x (q0w hb2) rfl⟩, fun H0 hl hE => hE.set (by omega) _, b, _, rfl, q0w hb2, rfl⟩
  have hjl : (j : Int) < (l.length : Int) := by omega
  simp -dsimp only [go_sem, he, hj] at h3
  injection h3 with h3
  subst h3
  have hput : iput (q0g l) (j * 3) (rC q) = q0g (l.set j q) := w1x l j q hj
  have hcl : (q0g l).length = l.length * 3 := q1l _
  have hle : lk ≤ b := by omega
  simp -dsimp only [go_sem, hb2, q6s, hput, hle, hcl]
  have : j * 3 + 2 < l.length * 3 := by omega
  rw [if_pos this]
  rfl
def flP (E : Nat → Nat → Rat) (n : Nat) : Nat → (Nat → Nat → Rat) × Rat
 | 0 => (fun _ _ => 0, 1)
 | k + 1 =>
  let s := flP E n k
  let S := fun i j => mulE E s.1 n i j + (if i = j then 1 else 0) * s.2
  (S, -(sumQ (fun i => mulE E S n i i) n / (((k + 1 : Nat) : Int) : Rat)))
def flC (E : Nat → Nat → Rat) (n k : Nat) : Rat := (flP E n k).2
def flS (E : Nat → Nat → Rat) (n k : Nat) : Nat → Nat → Rat := (flP E n k).1
theorem flS_succ (E : Nat → Nat → Rat) (n k : Nat) : flS E n (k + 1) = fun i j => mulE E (flS E n k) n i j + (if i = j then 1 else 0) * flC E n k := rfl
theorem flC_succ (E : Nat → Nat → Rat) (n k : Nat) : flC E n (k + 1) = -(sumQ (fun i => mulE E (flS E n (k + 1)) n i i) n / (((k + 1 : Nat) : Int) : Rat)) := rfl
structure FlOk (E : Nat → Nat → Rat) (n : Nat) : Prop where
 m : ∀ k, k ≤ n → MulEOk E (flS E n k) n n n
 e : ∀ k i j, k ≤ n → i < n → j < n → Sz (mulE E (flS E n k) n i j)
 c : ∀ k, k ≤ n → Sz (flC E n k)
 d : ∀ k i j, k ≤ n → i < n → j < n → Sz ((if i = j then 1 else 0) * flC E n k)
 t : ∀ k i, k ≤ n → i ≤ n → Sz (sumQ (fun l => mulE E (flS E n k) n l l) i)
def flL (E : Nat → Nat → Rat) (n k : Nat) : List Rat := mapR (fun i => if n ≤ i + k then flC E n (n - i) else 0) (n + 1)
theorem q6h (E : Nat → Nat → Rat) (n k : Nat) : (flL E n k).length = n + 1 := q0d _ _
theorem flL_get (E : Nat → Nat → Rat) (n k i : Nat) (h : i < (flL E n k).length) : (flL E n k)[i] = if n ≤ i + k then flC E n (n - i) else 0 := q1u _ _ _ _
theorem flL_set (E : Nat → Nat → Rat) (n k : Nat) (hk : k < n) : (flL E n k).set (n - (k + 1)) (flC E n (k + 1)) = flL E n (k + 1) := by
 refine List.ext_getElem (by simp [flL, mapR]) fun i h1 h2 => ?_
 rw [q6h] at h2
 rw [List.getElem_set, flL_get, flL_get]
 by_cases hi : n - (k + 1) = i
 ·subst hi
  rw [if_pos rfl, if_pos (by omega)]
  congr 1; omega
 ·rw [if_neg hi]
  by_cases h : n ≤ i + k
  ·rw [if_pos h, if_pos (by omega)]
  ·rw [if_neg h, if_neg (by omega)]
theorem OM.set {lo b : Nat} {H : Heap} {v : Value} {M : List (List Rat)} (h : OM lo H v M) (hb : b < lo) (B : Blk) : OM lo (H.set b B) v M := by
 obtain ⟨a, xs, h1, h2⟩ := h
 have key : ∀ {α : Type} [Enc α] {a : Option Addr} {l : List α}, Own lo H a l → Own lo (H.set b B) a l := fun hO => by
  rcases hO with h3 | ⟨c, rfl, h4, h5⟩
  ·exact .inl h3
  ·exact .inr ⟨c, rfl, h4, by rw [q0t (by omega)]; exact h5⟩
 exact ⟨a, xs, h1, key h2.out, h2.len, fun i h3 h4 => ⟨(h2.row i h3 h4).1, key (h2.row i h3 h4).2⟩, h2.ne⟩
theorem sz_one : Sz 1 := Sm.mono (k := 1) ⟨w0w (by decide), w0w (by decide)⟩ (by decide)
theorem sz_zero : Sz 0 := sm_zero.mono (by decide)
theorem r5_CharPoly {H : Heap} {v : Value} {n : Nat} {E : Nat → Nat → Rat} (hv : MV H v (mx n n E)) (h0 : 0 < n) (hn : n ≤ 100000) (ok : FlOk E n) :
  q0m 115 [v] H (fun v H' => OV H.length H' v (flL E n n)) := by
 refine q1n (by decide) Tryz.func115 rfl ?_
 intro lk hlk
 obtain ⟨av, rfl⟩ := hv.is
 simp only [q1v] at hv ⊢
 simp -dsimp only [go_sem]
 refine q0h (m := fun (s : Nat × Option Addr) => n + 1 - s.1) (I := fun s σ H' => s.1 ≤ n + 1 ∧ Ext H H' ∧ Own H.length H' s.2 (mapR (fun _ => 0) s.1) ∧ σ 0 = .slice av n n ∧ σ 3 = .int .i64 (n : Int) ∧ σ 4 = .slice s.2 s.1 s.1 ∧ σ 5 = .int .i64 (s.1 : Int)) (0, none) ⟨Nat.zero_le _, Ext.refl _, Own.nil, rfl, rfl, rfl, rfl⟩ ?_
 rintro ⟨i, c⟩ σ H' ⟨h1, hE, hO, s0, s3, s4, s5⟩
 simp only at h1 hO s4 s5
 have hlen := q0d (fun _ => (0 : Rat)) i
 by_cases hi : i < n + 1
 ·have f1 : ((i : Int) ≤ (n : Int)) = True := eq_true (by omega)
  have e7 := q1m hi (by omega)
  have hap := q5w (lk := lk) (t := 23) (t2 := 23) q0n q0n hO hlk hlen.symm (by omega) 0
  have hO2 := q2w hE hO 0 [⟨rC 0, 3, false⟩]
  rw [← q2d (fun _ => 0)] at hO2
  simp -dsimp only [go_sem, s0, s3, s4, s5, f1, q6f, reps, hap, e7]
  exact next (i + 1, _) (by show n + 1 - (i + 1) < n + 1 - i; omega) ⟨by show i + 1 ≤ n + 1; omega, q2r hE hO _ _, hO2, s0, s3, rfl, rfl⟩
 ·have hi' : i = n + 1 := by omega
  subst hi'
  have f1 : (((n + 1 : Nat) : Int) ≤ (n : Int)) = False := eq_false (by omega)
  obtain ⟨p, H2, q1, q2, q3, q4, q5, b, B, rfl, q6, q7⟩ := hO.putq (lk := lk) q0n n (by rw [hlen]; omega) hlk 1
  rw [hlen] at q1
  have hE2 := q5 H (Nat.le_refl _) hE
  have hl2 := hE2.le
  have hbL : b < H2.length := by rw [q7, List.length_set]; exact q6
  obtain ⟨L, hL⟩ : ∃ L, L = H2.length := ⟨_, rfl⟩
  have hL0 : (mapR (fun _ => (0 : Rat)) (n + 1)).set n 1 = flL E n 0 := by
   refine List.ext_getElem (by simp [flL, mapR]) fun i h1 h2 => ?_
   rw [q6h] at h2
   rw [List.getElem_set, flL_get, q1u]
   by_cases h : n = i
   ·subst h; rw [if_pos rfl, if_pos (by omega), Nat.sub_self]; rfl
   ·rw [if_neg h, if_neg (by omega)]
  rw [hL0] at q4
  simp -dsimp only [go_sem, s0, s3, s4, s5, f1, q1, q3, r3_one]
  refine ob_y (r5_Zero n n (by omega) (by omega)) (by omega) ?_
  rintro vz H3 hE3 hZ
  simp -dsimp only [go_sem, s0, s3, s4]
  have hE23 := hE2.trans hE3
  refine q0h (m := fun (s : Nat × Value) => n - s.1) (I := fun s σ H' => s.1 ≤ n ∧ Ext H H' ∧ Own H.length H' (some ⟨b, 0, none⟩) (flL E n s.1) ∧ L ≤ H'.length ∧ OM L H' s.2 (mx n n (flS E n s.1)) ∧ σ 0 = .slice av n n ∧ σ 3 = .int .i64 (n : Int) ∧ σ 4 = .slice (some ⟨b, 0, none⟩) (n + 1) (n + 1) ∧ σ 6 = s.2 ∧ σ 7 = .int .i64 ((s.1 + 1 : Nat) : Int)) (0, vz) ⟨Nat.zero_le _, hE23, hE3.own q4, by rw [hL]; exact hE3.le, by rw [hL]; exact hZ, s0, s3, s4, rfl, rfl⟩ ?_
  rw [← hL] at hbL
  clear s0 s3 s4 s5 hO hE q1 q2 q3 q4 q5 q6 q7 hE2 hl2 hE3 hZ hE23 hL H' σ H2 H3 vz
  rintro ⟨k, vs⟩ σ H' ⟨h2, hE, hO, hLl, hS, s0, s3, s4, s6, s7⟩
  simp only at h2 hO hS s6 s7
  have hlo := hE.le
  by_cases hk : k < n
  ·have f2 : (((k + 1 : Nat) : Int) ≤ (n : Int)) = True := eq_true (by omega)
   have e8 : IntKind.i64.wrap (((k + 1 : Nat) : Int) + 1) = ((k + 1 + 1 : Nat) : Int) := by rw [w64 (by omega) (by omega)]; omega
   have e9 : IntKind.i64.wrap ((n : Int) - ((k + 1 : Nat) : Int)) = ((n - (k + 1) : Nat) : Int) := by rw [w64 (by omega) (by omega)]; omega
   have e10 : IntKind.i64.wrap (((n - (k + 1) : Nat) : Int) + 1) = ((n - k : Nat) : Int) := by rw [w64 (by omega) (by omega)]; omega
   simp -dsimp only [go_sem, s0, s3, s4, s6, s7, f2]
   refine ob_y (r5_Mul (hv.ext hE) hS.mv h0 (by omega) (by omega) (by omega) (ok.m k (by omega))) (Nat.le_refl _) ?_
   rintro v1 H1 hE1 hM1
   have l1 := hE1.le
   simp -dsimp only [go_sem, s0, s3, s4, s6, s7]
   refine ob_y (r5_Identity n (by omega)) (Nat.le_refl _) ?_
   rintro v2 H2 hE2 hM2
   have l2 := hE2.le
   have hO2 := (hE1.trans hE2).own hO
   obtain ⟨p, hp, hld⟩ := hO2.sl.ix (n - k) (by rw [q6h]; omega) q0n
   have hld := hld H2 (Ext.refl _)
   have hg : (flL E n k)[n - k]'(by rw [q6h]; omega) = flC E n k := by
    simp only [flL, q1u]
    rw [if_pos (by omega)]
    congr 1; omega
   rw [hg] at hld
   rw [q6h] at hp
   simp -dsimp only [go_sem, s0, s3, s4, s6, s7, e9, e10, hp, hld]
   refine ob_y (r5_Scale hM2.mv h0 (by omega) (by omega) (fun i j _ _ => by split; exact sz_one; exact sz_zero) (ok.c k (by omega))) (Nat.le_refl _) ?_
   rintro v3 H3 hE3 hM3
   have l3 := hE3.le
   simp -dsimp only [go_sem, s0, s3, s4, s6, s7]
   refine ob_y (r5_Add (hM1.ext (hE2.trans hE3)) hM3.mv h0 (by omega) (by omega) (fun i j hi hj => ok.e k i j (by omega) hi hj) (fun i j hi hj => ok.d k i j (by omega) hi hj)) (Nat.le_refl _) ?_
   rintro v4 H4 hE4 hM4
   have l4 := hE4.le
   have hE14 := hE1.trans (hE2.trans (hE3.trans hE4))
   rw [← flS_succ] at hM4
   simp -dsimp only [go_sem, s0, s3, s4, s6, s7, e9]
   refine ob_y (r5_Mul (hv.ext (hE.trans hE14)) hM4.mv h0 (by omega) (by omega) (by omega) (ok.m (k + 1) (by omega))) (by omega) ?_
   rintro v5 H5 hE5 hM5
   have l5 := hE5.le
   have k1 := r5_Trace hM5 (by omega) (fun i hi => ok.e (k + 1) i i (by omega) hi hi) (fun i hi => ok.t (k + 1) i (by omega) (by omega))
   have k2 := fun lk H' => q3k lk H' ((k + 1 : Nat) : Int) (by omega)
   have hne : (((k + 1 : Nat) : Int) : Rat) ≠ 0 := by
    rw [Ne, Rat.intCast_eq_zero_iff]; omega
   have k3 := fun lk H' => r3_Div lk H' (sumQ (fun i => mulE E (flS E n (k + 1)) n i i) n) (((k + 1 : Nat) : Int) : Rat) (ok.t (k + 1) n (by omega) (Nat.le_refl _)) (sz_nat (by omega)) hne
   have k4 := fun lk H' => r3_Neg lk H' (sumQ (fun i => mulE E (flS E n (k + 1)) n i i) n / (((k + 1 : Nat) : Int) : Rat))
   rw [← flC_succ] at k4
   have hO5 := (hE14.trans hE5).own hO
   obtain ⟨p6, H6, q1, _, q3, q4, q5, b', B, hbb, _, q7⟩ := hO5.putq (lk := lk) q0n (n - (k + 1)) (by rw [q6h]; omega) hlk (flC E n (k + 1))
   rw [q6h] at q1
   rw [flL_set _ _ _ hk] at q4
   simp -dsimp only [go_sem, s0, s3, s4, s6, s7, k1, k2, k3, k4, q1, q3, e8]
   cases hbb
   refine next (k + 1, v4) (by show n - (k + 1) < n - k; omega) ⟨hk, q5 H (Nat.le_refl _) (hE.trans (hE14.trans hE5)), q4, by rw [q7, List.length_set]; omega, ?_, s0, s3, s4, rfl, rfl⟩
   rw [q7]
   exact ((hM4.low (by omega)).ext hE5).set hbL B
  ·have hk' : k = n := by omega
   subst hk'
   have f2 : (((k + 1 : Nat) : Int) ≤ (k : Int)) = False := eq_false (by omega)
   simp -dsimp only [go_sem, s0, s3, s4, s6, s7, f2]
   exact ⟨hE, _, by rw [q6h], hO⟩
def FV (H : Heap) (v : Value) (m : List Rat) : Prop := ∃ a, v = .agg (List.toArray [.slice a m.length m.length]) ∧ SL H a m
theorem FV.ext {H H' : Heap} {v : Value} {m : List Rat} (h : FV H v m) (hE : Ext H H') : FV H' v m := let ⟨a, h1, h2⟩ := h; ⟨a, h1, hE.sl h2⟩
theorem r30_Degree {H : Heap} {v : Value} {m : List Rat} (hv : FV H v m) (hm : m ≠ []) (hl : m.length ≤ 1000000) (lk : Nat) : q0c prog md lk 70 [v] H = some (.int .i64 ((m.length - 1 : Nat) : Int), H) := by
 obtain ⟨a, rfl, hs⟩ := hv
 have h0 := List.length_pos_iff.2 hm
 refine q0a rfl Tryz.func70 rfl rfl ?_
 have e1 : IntKind.i64.wrap ((m.length : Int) - 1) = ((m.length - 1 : Nat) : Int) := by rw [w64 (by omega) (by omega)]; omega
 simp -dsimp only [go_sem, e1]
theorem w2n {H : Heap} {v w : Value} {m f : List Rat} (hv : FV H v m) (hw : LV H w f) (hm : m ≠ []) (nm : Nrm m) (ok : DvOk f m) (lm : m.length ≤ 200000) (lf : f.length ≤ 200000) :
  q0m 81 [v, w] H (fun v H' => OV H.length H' v (pMod f m)) := by
 refine q1n (by decide) Tryz.func81 rfl ?_
 intro lk hlk
 obtain ⟨a, rfl, hs⟩ := hv
 simp -dsimp only [go_sem]
 have hE0 := Ext.app H [⟨[.slice a m.length m.length], 1, false⟩]
 have hl0 := hE0.le
 refine ob_y (r6_Mod (hw.ext hE0) ⟨a, rfl, hE0.sl hs⟩ hm nm ok lf lm) (by omega) ?_
 rintro v1 H1 hE1 ⟨b, rfl, hO⟩
 simp -dsimp only [go_sem]
 exact ⟨hE0.trans hE1, b, rfl, hO.low hl0⟩
structure MulModOk (m f g : List Rat) : Prop where
 p : MulOk f g
 d : DvOk (pMul f g) m
def pMulM (m f g : List Rat) : List Rat := pMod (pMul f g) m
theorem r30_Mul {H : Heap} {v w u : Value} {m f g : List Rat} (hv : FV H v m) (hw : LV H w f) (hu : LV H u g) (hm : m ≠ []) (nm : Nrm m) (ok : MulModOk m f g) (lm : m.length ≤ 200000) (lf : f.length ≤ 100000) (lg : g.length ≤ 100000) :
  q0m 31 [v, w, u] H (fun v H' => OV H.length H' v (pMulM m f g)) := by
 refine q1n (by decide) Tryz.func31 rfl ?_
 intro lk hlk
 obtain ⟨a, rfl, hs⟩ := hv
 simp -dsimp only [go_sem]
 have hE0 := Ext.app H [⟨[.slice a m.length m.length], 1, false⟩]
 have hl0 := hE0.le
 refine ob_y (r6_Mul (hw.ext hE0) (hu.ext hE0) ok.p (by omega) (by omega)) (by rw [List.length_append]; exact Nat.le_refl _) ?_
 rintro v1 H1 hE1 hO1
 have hl1 := hE1.le
 simp -dsimp only [go_sem]
 have hml := q7a f g
 refine ob_y (w2n ⟨a, rfl, (hE0.trans hE1).sl hs⟩ hO1.lv hm nm ok.d lm (by omega)) (Nat.le_refl _) ?_
 rintro v2 H2 hE2 ⟨b, rfl, hO⟩
 simp -dsimp only [go_sem]
 exact ⟨hE0.trans (hE1.trans hE2), b, rfl, hO.low (by omega)⟩
def pRow (n : Nat) (f : List Rat) : List Rat := mapR (qf f) n
theorem r30_Row {H : Heap} {v w : Value} {m f : List Rat} (hv : FV H v m) (hw : LV H w f) (hm : m ≠ []) (lm : m.length ≤ 200000) (lf : f.length ≤ 200000) :
  q0m 74 [v, w] H (fun v H' => OV H.length H' v (pRow (m.length - 1) f)) := by
 refine q1n (by decide) Tryz.func74 rfl ?_
 intro lk hlk
 obtain ⟨a, rfl, hs⟩ := hv
 obtain ⟨b, rfl, ht⟩ := hw
 unfold pRow
 obtain ⟨n, hn⟩ : ∃ n, n = m.length - 1 := ⟨_, rfl⟩
 have hkd : ∀ H', Ext H H' → ∀ lk, q0c prog md lk 70 [.agg (List.toArray [.slice a m.length m.length])] H' = some (.int .i64 ((m.length - 1 : Nat) : Int), H') := fun H' hE lk => r30_Degree ⟨a, rfl, hE.sl hs⟩ hm (by omega) lk
 rw [← hn] at hkd ⊢
 simp -dsimp only [go_sem]
 obtain ⟨H1, hH1⟩ : ∃ H1, H1 = H ++ [⟨[.slice a m.length m.length], 1, false⟩] := ⟨_, rfl⟩
 have hE0 : Ext H H1 := by rw [hH1]; exact Ext.app _ _
 have hb : q0e H1 H.length = some ⟨[.slice a m.length m.length], 1, false⟩ := by rw [hH1]; exact q0j _ _
 have hl0 := hE0.le
 rw [← hH1]
 refine q0h (m := fun (s : Nat × Option Addr) => n - s.1) (I := fun s σ H' => s.1 ≤ n ∧ Ext H1 H' ∧ Own H1.length H' s.2 (mapR (qf f) s.1) ∧ σ 2 = .pointer (some ⟨H.length, 0, none⟩) ∧ σ 1 = .slice b f.length f.length ∧ σ 5 = .slice s.2 s.1 s.1 ∧ σ 6 = .int .i64 (s.1 : Int)) (0, none) ⟨Nat.zero_le _, Ext.refl _, Own.nil, rfl, rfl, rfl, rfl⟩ ?_
 rintro ⟨i, c⟩ σ H' ⟨h1, hE, hO, s2, s1, s5, s6⟩
 simp only at h1 hO s5 s6
 have hlen := q0d (qf f) i
 have hb' := hE.live hb
 have hk := hkd H' (hE0.trans hE)
 by_cases hi : i < n
 ·have f1 := ltI hi
  have e7 := q1m hi (by omega)
  have hap := q5w (lk := lk) (t := 22) (t2 := 22) q0o q0o hO (by omega) hlen.symm (by omega) (qf f i)
  have hO2 := q2w hE hO (qf f i) [⟨rC (qf f i), 3, false⟩]
  rw [← q2d] at hO2
  by_cases hil : i < f.length
  ·have f2 := ltI hil
   obtain ⟨p, hp, hld⟩ := ht.ix i hil q0n
   have hld := hld H' (hE0.trans hE)
   rw [← q1y hil] at hld
   simp -dsimp only [go_sem, s1, s2, s5, s6, hb', hk, f1, f2, hp, hld, reps, hap, e7]
   exact next (i + 1, _) (by show n - (i + 1) < n - i; omega) ⟨hi, q2r hE hO _ _, hO2, s2, s1, rfl, rfl⟩
  ·have f2 : ((i : Int) < (f.length : Int)) = False := eq_false (by omega)
   have hz : qf f i = 0 := q2a (by omega)
   rw [hz] at hap hO2
   simp -dsimp only [go_sem, s1, s2, s5, s6, hb', hk, f1, f2, q6f, reps, hap, e7]
   exact next (i + 1, _) (by show n - (i + 1) < n - i; omega) ⟨hi, q2r hE hO _ _, hO2, s2, s1, rfl, rfl⟩
 ·have hi' : i = n := by omega
  subst hi'
  have f1 := nltI i
  simp -dsimp only [go_sem, s1, s2, s5, s6, hb', hk, f1]
  exact ⟨hE0.trans hE, c, by rw [hlen], hO.low hl0⟩
def matE (m f : List Rat) (i : Nat) : Nat → Rat := qf (pMulM m f (pMod (q3y 1 i) m))
structure MatOk (m f : List Rat) : Prop where
 r : ∀ i, i < m.length - 1 → DvOk (q3y 1 i) m
 p : ∀ i, i < m.length - 1 → MulModOk m f (pMod (q3y 1 i) m)
theorem r30_Matrix {H : Heap} {v w : Value} {m f : List Rat} (hv : FV H v m) (hw : LV H w f) (hm : m ≠ []) (nm : Nrm m) (lm : m.length ≤ 50000) (lf : f.length ≤ 50000) (ok : MatOk m f) :
  q0m 116 [v, w] H (fun v H' => MV H' v (mx (m.length - 1) (m.length - 1) (matE m f))) := by
 refine q1n (by decide) Tryz.func116 rfl ?_
 intro lk hlk
 obtain ⟨a, rfl, hs⟩ := hv
 obtain ⟨n, hn⟩ : ∃ n, n = m.length - 1 := ⟨_, rfl⟩
 have hkd : ∀ H', Ext H H' → ∀ lk, q0c prog md lk 70 [.agg (List.toArray [.slice a m.length m.length])] H' = some (.int .i64 ((m.length - 1 : Nat) : Int), H') := fun H' hE lk => r30_Degree ⟨a, rfl, hE.sl hs⟩ hm (by omega) lk
 have okr := ok.r
 have okp := ok.p
 rw [← hn] at hkd okr okp ⊢
 simp -dsimp only [go_sem]
 obtain ⟨H1, hH1⟩ : ∃ H1, H1 = H ++ [⟨[.slice a m.length m.length], 1, false⟩] := ⟨_, rfl⟩
 have hE0 : Ext H H1 := by rw [hH1]; exact Ext.app _ _
 have hb : q0e H1 H.length = some ⟨[.slice a m.length m.length], 1, false⟩ := by rw [hH1]; exact q0j _ _
 have hl0 := hE0.le
 rw [← hH1]
 refine q0h (m := fun (s : Nat × Option Addr × List Sx × Value) => n - s.1) (I := fun s σ H' => s.1 ≤ n ∧ Ext H1 H' ∧ MGrow H1.length H' s.2.2.2 (mx s.1 n (matE m f)) s.2.1 s.2.2.1 ∧ σ 2 = .pointer (some ⟨H.length, 0, none⟩) ∧ σ 1 = w ∧ σ 5 = s.2.2.2 ∧ σ 6 = .int .i64 (s.1 : Int)) (0, none, [], .slice none 0 0) ⟨Nat.zero_le _, Ext.refl _, MGrow.nil, rfl, rfl, rfl, rfl⟩ ?_
 rintro ⟨i, c, xs, vo⟩ σ H' ⟨h1, hE, hG, s2, s1, s5, s6⟩
 simp only at h1 hG s5 s6
 have hb' := hE.live hb
 have hk := hkd H' (hE0.trans hE)
 have hlo := hE.le
 by_cases hi : i < n
 ·have f1 := ltI hi
  have e7 := q1m hi (by omega)
  simp -dsimp only [go_sem, s1, s2, s5, s6, hb', hk, f1, r3_one]
  have hml := q6c 1 i
  refine ob_y (q6z 1 i (by omega)) (Nat.le_refl _) ?_
  rintro v1 H2 hE1 hO1
  have l1 := hE1.le
  simp -dsimp only [go_sem, s1, s2, s5, s6]
  refine ob_y (w2n ⟨a, rfl, (hE0.trans (hE.trans hE1)).sl hs⟩ hO1.lv hm nm (okr i hi) (by omega) (by omega)) (Nat.le_refl _) ?_
  rintro v2 H3 hE2 hO2
  have l2 := hE2.le
  have hrl := (q4n (f := q3y 1 i) hm nm).1
  simp -dsimp only [go_sem, s1, s2, s5, s6]
  refine ob_y (r30_Mul ⟨a, rfl, (hE0.trans (hE.trans (hE1.trans hE2))).sl hs⟩ (hw.ext (hE0.trans (hE.trans (hE1.trans hE2)))) hO2.lv hm nm (okp i hi) (by omega) (by omega) (by omega)) (Nat.le_refl _) ?_
  rintro v3 H4 hE3 hO3
  have l3 := hE3.le
  have hrl2 := (q4n (f := pMul f (pMod (q3y 1 i) m)) hm nm).1
  simp -dsimp only [go_sem, s1, s2, s5, s6]
  refine ob_y (r30_Row ⟨a, rfl, (hE0.trans (hE.trans (hE1.trans (hE2.trans hE3)))).sl hs⟩ hO3.lv hm (by omega) (by unfold pMulM; omega)) (Nat.le_refl _) ?_
  rintro v4 H5 hE4 ⟨d, rfl, hO4⟩
  have hEE := hE1.trans (hE2.trans (hE3.trans hE4))
  rw [← hn, show pRow n (pMulM m f (pMod (q3y 1 i) m)) = mapR (matE m f i) n from rfl] at hO4 ⊢
  have hlr : (mapR (matE m f i) n).length = n := q0d _ _
  have hG2 := hG.ext hEE
  obtain ⟨hG3, hE5⟩ := hG2.app (hE.trans hEE) hO4.sl
  have hxl := hG.rows.1
  rw [q1v] at hxl
  have hvo := hG.v
  have hap := w3g (lk := lk) (t := 28) (t2 := 28) q2c q2c.e hG2.own (by omega) hxl.symm (by omega) ⟨d, n⟩
  rw [hlr] at hG3 hE5 ⊢
  rw [q1v] at hvo hG3
  rw [← mx_succ] at hG3
  simp -dsimp only [go_sem, s1, s2, s5, s6, hvo, reps, hap, e7]
  exact next (i + 1, _, _, _) (by show n - (i + 1) < n - i; omega) ⟨hi, hE5, hG3, s2, s1, rfl, rfl⟩
 ·have hi' : i = n := by omega
  subst hi'
  have f1 := nltI i
  simp -dsimp only [go_sem, s1, s2, s5, s6, hb', hk, f1]
  exact ⟨hE0.trans hE, hG.mv⟩
theorem r30_CharPoly {H : Heap} {v w : Value} {m f : List Rat} (hv : FV H v m) (hw : LV H w f) (hm : 2 ≤ m.length) (nm : Nrm m) (lm : m.length ≤ 50000) (lf : f.length ≤ 50000) (ok : MatOk m f) (ok2 : FlOk (matE m f) (m.length - 1)) :
  q0m 63 [v, w] H (fun v H' => OV H.length H' v (flL (matE m f) (m.length - 1) (m.length - 1))) := by
 have hm0 : m ≠ [] := by intro h; rw [h] at hm; simp at hm
 refine q1n (by decide) Tryz.func63 rfl ?_
 intro lk hlk
 obtain ⟨a, rfl, hs⟩ := hv
 simp -dsimp only [go_sem]
 have hE0 := Ext.app H [⟨[.slice a m.length m.length], 1, false⟩]
 have hl0 := hE0.le
 refine ob_y (r30_Matrix ⟨a, rfl, hE0.sl hs⟩ (hw.ext hE0) hm0 nm lm lf ok) (by omega) ?_
 rintro v1 H1 hE1 hM
 have hl1 := hE1.le
 simp -dsimp only [go_sem]
 refine ob_y (r5_CharPoly hM (by omega) (by omega) ok2) (by omega) ?_
 rintro v2 H2 hE2 ⟨b, rfl, hO⟩
 simp -dsimp only [go_sem]
 exact ⟨hE0.trans (hE1.trans hE2), b, rfl, hO.low (by omega)⟩
theorem w0m {H : Heap} {v : Value} {f : List Rat} (hv : LV H v f) (i : Nat) (lk : Nat) : q0c prog md lk 54 [v, .int .i64 (i : Int)] H = some (vR (qf f i), H) := by
 obtain ⟨a, rfl, hs⟩ := hv
 refine q0a rfl Tryz.func54 rfl rfl ?_
 have c0 := fun lk H' => c_Int lk H' 0 (by omega)
 have f0 : ((i : Int) < 0) = False := eq_false (by omega)
 by_cases hi : i < f.length
 ·obtain ⟨p, hp, hld⟩ := hs.ix i hi q0n
  have hld := fun N => hld (H ++ N) (Ext.app H N)
  have f1 : ((f.length : Int) ≤ (i : Int)) = False := eq_false (by omega)
  rw [q1y hi]
  simp -dsimp only [go_sem, f0, f1, hp, hld]
 ·have f1 : ((f.length : Int) ≤ (i : Int)) = True := eq_true (by omega)
  rw [q2a (by omega)]
  simp -dsimp only [go_sem, f0, f1, c0]
  rfl
instance : Enc (Option Rat) := ⟨fun q => match q with
 | none => rZ
 | some q => rC q, 3, fun q => by cases q <;> rfl⟩
theorem cells_some (l : List Rat) : q0g (l.map some) = q0g l := by
 induction l with
 | nil => rfl
 | cons x l ih => rw [List.map_cons, q1i, q1i, ih]; rfl
theorem cells_none (n : Nat) : reps rZ n = q0g (List.replicate n (none : Option Rat)) := by
 induction n with
 | zero => rfl
 | succ n ih => rw [reps, ih, List.replicate_succ, q1i]; rfl
theorem Own.done {lo : Nat} {H : Heap} {a : Option Addr} {l : List Rat} (h : Own lo H a (l.map some)) : Own lo H a l := by
 rcases h with ⟨h1, h2⟩ | ⟨b, h1, h2, h3⟩
 ·exact .inl ⟨h1, by simpa using h2⟩
 ·refine .inr ⟨b, h1, h2, ?_⟩
  rw [h3]; unfold lblk; rw [cells_some]; rfl
def upO (F : Nat → Rat) (n i : Nat) : List (Option Rat) := (List.range n).map fun k => if k < i then some (F k) else none
theorem q4b (F : Nat → Rat) (n i : Nat) : (upO F n i).length = n := by simp [upO]
theorem q8s (F : Nat → Rat) (n : Nat) : upO F n 0 = List.replicate n none := by
 refine List.ext_getElem (by simp [upO]) fun k h1 h2 => ?_
 simp [upO]
theorem w2h (F : Nat → Rat) (n : Nat) : upO F n n = (mapR F n).map some := by
 refine List.ext_getElem (by simp [upO, mapR]) fun k h1 h2 => ?_
 rw [q4b] at h1
 simp [upO, mapR, h1]
theorem w2g (F : Nat → Rat) (n i : Nat) : (upO F n i).set i (some (F i)) = upO F n (i + 1) := by
 refine List.ext_getElem (by simp [upO]) fun k h1 h2 => ?_
 rw [List.getElem_set]
 simp only [upO, List.getElem_map, List.getElem_range]
 by_cases h : i = k
 ·subst h; rw [if_pos rfl, if_pos (Nat.lt_succ_self _)]
 ·rw [if_neg h]
  by_cases h3 : k < i
  ·rw [if_pos h3, if_pos (by omega)]
  ·rw [if_neg h3, if_neg (by omega)]
theorem Own.puto {lo lk : Nat} {H : Heap} {a : Option Addr} {l : List (Option Rat)} {t : TypeId} (he : q0z prog t = some 55) (h : Own lo H a l) (j : Nat) (hj : j < l.length) (hlk : lk ≤ lo) (q : Rat) :
  ∃ p H2, q0i prog t (.slice a l.length l.length) (.int .i64 (j : Int)) = some p ∧ q3c prog lk H 55 p (vR q) = some H2 ∧ Own lo H2 a (l.set j (some q)) ∧ (∀ H0 : Heap, H0.length ≤ lo → Ext H0 H → Ext H0 H2) := by
 rcases h with ⟨_, h0⟩ | ⟨b, rfl, hb1, hb2⟩
 ·rw [h0] at hj; simp at hj
 ·refine ⟨.pointer (some ⟨b, j * 3, none⟩), H.set b (lblk (l.set j (some q))), ?_, ?_, .inr ⟨b, rfl, hb1, q0x (q0w hb2) rfl⟩, fun H0 hl hE => hE.set (by omega) _⟩
  ·have hjl : (j : Int) < (l.length : Int) := by omega
   simp -dsimp only [go_sem, he, hj]
  ·have hput : iput (q0g l) (j * 3) (rC q) = q0g (l.set j (some q)) := w1x l j (some q) hj
   have hcl : (q0g l).length = l.length * 3 := q1l _
   have hle : lk ≤ b := by omega
   simp -dsimp only [go_sem, hb2, q6s, hput, hle, hcl]
   have : j * 3 + 2 < l.length * 3 := by omega
   rw [if_pos this]
   rfl
theorem q9b {lo : Nat} {H : Heap} (n : Nat) (hl : lo ≤ H.length) : Own lo (H ++ [⟨reps rZ n, 3, false⟩]) (some ⟨H.length, 0, none⟩) (List.replicate n (none : Option Rat)) :=
 .inr ⟨_, rfl, hl, by rw [q0j, cells_none]; rfl⟩
theorem q9a {H : Heap} {v : Value} {f : List Rat} (hl : f.length ≤ 1000000) (hv : LV H v f) (lk : Nat) : ∃ w, q0c prog md lk 98 [v] H = some (w, H) ∧ LV H w (trm f) := by
 obtain ⟨a, rfl, hs⟩ := hv
 refine ⟨_, p_PTrim lk H a f f.length rfl (by omega) hs, a, by rw [w2i], hs.take _ (q6v _ _)⟩
theorem mk64 {n : Nat} (h : n ≤ 1000000) : (0 ≤ (n : Int) ∧ (n : Int) ≤ (n : Int) ∧ ((40 : Nat) : Int) * (n : Int) ≤ 281474976710656 ∧ (n : Int) < 4611686018427387904) := by omega
theorem p_PAdd {H : Heap} {v w : Value} {f g : List Rat} (hv : LV H v f) (hw : LV H w g) (zf : SzL f) (zg : SzL g) (lf : f.length ≤ 500000) (lg : g.length ≤ 500000) :
  q0m 50 [v, w] H (fun v H' => LV H' v (pAdd f g)) := by
 obtain ⟨a, rfl, hs⟩ := hv
 obtain ⟨b, rfl, ht⟩ := hw
 refine q1n (by decide) Tryz.func50 rfl ?_
 intro lk hlk
 have hmx := imax_nat f.length g.length
 have hm1 : max f.length g.length ≤ 500000 := by omega
 unfold pAdd
 generalize max f.length g.length = mx at hmx hm1
 obtain ⟨F, hF⟩ : ∃ F : Nat → Rat, F = fun i => qf f i + qf g i := ⟨_, rfl⟩
 rw [← hF]
 obtain ⟨m1, m2, m3, m4⟩ := mk64 (n := mx) (by omega)
 simp -dsimp only [go_sem, hmx, m3, m4]
 refine q0h (m := fun (i : Nat) => mx - i) (I := fun i σ H' => i ≤ mx ∧ Ext H H' ∧ Own H.length H' (some ⟨H.length, 0, none⟩) (upO F mx i) ∧ σ 0 = .slice a f.length f.length ∧ σ 1 = .slice b g.length g.length ∧ σ 5 = .slice (some ⟨H.length, 0, none⟩) mx mx ∧ σ 14 = .int .i64 (mx : Int) ∧ σ 15 = .int .i64 (i : Int)) 0 ⟨Nat.zero_le _, Ext.app _ _, by rw [q8s]; exact q9b mx (Nat.le_refl _), rfl, rfl, rfl, rfl, rfl⟩ ?_
 rintro i σ H' ⟨h1, hE, hO, s0, s1, s5, s14, s15⟩
 by_cases hi : i < mx
 ·have f1 := ltI hi
  have e7 := q1m hi (by omega)
  have k1 := w0m (v := .slice a f.length f.length) ⟨a, rfl, hE.sl hs⟩ i
  have k2 := w0m (v := .slice b g.length g.length) ⟨b, rfl, hE.sl ht⟩ i
  have k3 := fun lk H' => c_Add lk H' (qf f i) (qf g i) (zf.qf i) (zg.qf i)
  have hFi : qf f i + qf g i = F i := by rw [hF]
  rw [hFi] at k3
  obtain ⟨p, H2, q1, q2, q3, q4⟩ := hO.puto (lk := lk) q0o i (by rw [q4b]; exact hi) hlk (F i)
  rw [q4b] at q1
  rw [w2g] at q3
  simp -dsimp only [go_sem, s0, s1, s5, s14, s15, f1, k1, k2, k3, q1, q2, e7]
  exact next (i + 1) (by show mx - (i + 1) < mx - i; omega) ⟨hi, q4 H (Nat.le_refl _) hE, q3, s0, s1, s5, s14, rfl⟩
 ·have hi' : i = mx := by omega
  subst hi'
  have f1 := nltI i
  rw [w2h] at hO
  obtain ⟨w, k1, k2⟩ := q9a (v := .slice (some ⟨H.length, 0, none⟩) i i) (f := mapR F i) (by rw [q0d]; omega) ⟨_, by rw [q0d], hO.done.sl⟩ lk
  simp -dsimp only [go_sem, s0, s1, s5, s14, s15, f1, k1]
  exact ⟨hE, k2⟩
def pDif (f g : List Rat) : List Rat := trm (mapR (fun i => qf f i - qf g i) (max f.length g.length))
theorem pDif_eq (f g : List Rat) : pDif f g = pSub f g := nrm_ext (q6g _) (nrm_sub _ _) fun i => by
 rw [qf_sub]
 unfold pDif
 rw [q6p, q5b]
 split
 ·rfl
 ·rw [q2a (f := f) (by omega), q2a (f := g) (by omega), Rat.sub_self]
theorem p_PSub {H : Heap} {v w : Value} {f g : List Rat} (hv : LV H v f) (hw : LV H w g) (zf : SzL f) (zg : SzL g) (lf : f.length ≤ 500000) (lg : g.length ≤ 500000) :
  q0m 51 [v, w] H (fun v H' => LV H' v (pDif f g)) := by
 obtain ⟨a, rfl, hs⟩ := hv
 obtain ⟨b, rfl, ht⟩ := hw
 refine q1n (by decide) Tryz.func51 rfl ?_
 intro lk hlk
 have hmx := imax_nat f.length g.length
 have hm1 : max f.length g.length ≤ 500000 := by omega
 unfold pDif
 generalize max f.length g.length = mx at hmx hm1
 obtain ⟨F, hF⟩ : ∃ F : Nat → Rat, F = fun i => qf f i - qf g i := ⟨_, rfl⟩
 rw [← hF]
 obtain ⟨m1, m2, m3, m4⟩ := mk64 (n := mx) (by omega)
 simp -dsimp only [go_sem, hmx, m3, m4]
 refine q0h (m := fun (i : Nat) => mx - i) (I := fun i σ H' => i ≤ mx ∧ Ext H H' ∧ Own H.length H' (some ⟨H.length, 0, none⟩) (upO F mx i) ∧ σ 0 = .slice a f.length f.length ∧ σ 1 = .slice b g.length g.length ∧ σ 5 = .slice (some ⟨H.length, 0, none⟩) mx mx ∧ σ 14 = .int .i64 (mx : Int) ∧ σ 15 = .int .i64 (i : Int)) 0 ⟨Nat.zero_le _, Ext.app _ _, by rw [q8s]; exact q9b mx (Nat.le_refl _), rfl, rfl, rfl, rfl, rfl⟩ ?_
 rintro i σ H' ⟨h1, hE, hO, s0, s1, s5, s14, s15⟩
 by_cases hi : i < mx
 ·have f1 := ltI hi
  have e7 := q1m hi (by omega)
  have k1 := w0m (v := .slice a f.length f.length) ⟨a, rfl, hE.sl hs⟩ i
  have k2 := w0m (v := .slice b g.length g.length) ⟨b, rfl, hE.sl ht⟩ i
  have k3 := fun lk H' => c_Sub lk H' (qf f i) (qf g i) (zf.qf i) (zg.qf i)
  have hFi : qf f i - qf g i = F i := by rw [hF]
  rw [hFi] at k3
  obtain ⟨p, H2, q1, q2, q3, q4⟩ := hO.puto (lk := lk) q0o i (by rw [q4b]; exact hi) hlk (F i)
  rw [q4b] at q1
  rw [w2g] at q3
  simp -dsimp only [go_sem, s0, s1, s5, s14, s15, f1, k1, k2, k3, q1, q2, e7]
  exact next (i + 1) (by show mx - (i + 1) < mx - i; omega) ⟨hi, q4 H (Nat.le_refl _) hE, q3, s0, s1, s5, s14, rfl⟩
 ·have hi' : i = mx := by omega
  subst hi'
  have f1 := nltI i
  rw [w2h] at hO
  obtain ⟨w, k1, k2⟩ := q9a (v := .slice (some ⟨H.length, 0, none⟩) i i) (f := mapR F i) (by rw [q0d]; omega) ⟨_, by rw [q0d], hO.done.sl⟩ lk
  simp -dsimp only [go_sem, s0, s1, s5, s14, s15, f1, k1]
  exact ⟨hE, k2⟩
theorem p_PSubS {H : Heap} {v w : Value} {f g : List Rat} (hv : LV H v f) (hw : LV H w g) (zf : SzL f) (zg : SzL g) (lf : f.length ≤ 500000) (lg : g.length ≤ 500000) :
  q0m 51 [v, w] H (fun v H' => LV H' v (pSub f g)) := by
 rw [← pDif_eq]; exact p_PSub hv hw zf zg lf lg
def pOf (l : List MI) : List Rat := trm (l.map fun x => ((x.v : Int) : Rat))
theorem p_POf {H : Heap} {v : Value} {l : List MI} (hv : LV H v l) (hl : l.length ≤ 1000000) (hi : ∀ x ∈ l, I64 x.v) : q0m 48 [v] H (fun v H' => LV H' v (pOf l)) := by
 obtain ⟨a, rfl, hs⟩ := hv
 refine q1n (by decide) Tryz.func48 rfl ?_
 intro lk hlk
 obtain ⟨F, hF⟩ : ∃ F : Nat → Rat, F = fun i => (((l.getD i ⟨0⟩).v : Int) : Rat) := ⟨_, rfl⟩
 have hmap : l.map (fun x => ((x.v : Int) : Rat)) = mapR F l.length := by
  refine List.ext_getElem (by simp [mapR]) fun i h1 h2 => ?_
  rw [List.length_map] at h1
  simp [mapR, hF, h1]
 unfold pOf
 rw [hmap]
 obtain ⟨m1, m2, m3, m4⟩ := mk64 (n := l.length) (by omega)
 simp -dsimp only [go_sem, m3, m4]
 refine q0h (m := fun (i : Nat) => l.length - i) (I := fun i σ H' => i ≤ l.length ∧ Ext H H' ∧ Own H.length H' (some ⟨H.length, 0, none⟩) (upO F l.length i) ∧ σ 9 = .slice a l.length l.length ∧ σ 3 = .slice (some ⟨H.length, 0, none⟩) l.length l.length ∧ σ 10 = .int .i64 (l.length : Int) ∧ σ 11 = .int .i64 (i : Int)) 0 ⟨Nat.zero_le _, Ext.app _ _, by rw [q8s]; exact q9b _ (Nat.le_refl _), rfl, rfl, rfl, rfl⟩ ?_
 rintro i σ H' ⟨h1, hE, hO, s9, s3, s10, s11⟩
 by_cases hil : i < l.length
 ·have f1 := ltI hil
  have e7 := q1m hil (by omega)
  obtain ⟨b, o, B, rfl, hB, hz, hg⟩ := hs.mi i hil
  have hB' := hE.live hB
  have k1 := fun lk H' => c_Int lk H' l[i].v (hi _ (List.getElem_mem hil))
  have hFi : ((l[i].v : Int) : Rat) = F i := by simp [hF, hil]
  rw [hFi] at k1
  obtain ⟨p, H2, q1, q2, q3, q4⟩ := hO.puto (lk := lk) q0o i (by rw [q4b]; exact hil) hlk (F i)
  rw [q4b] at q1
  rw [w2g] at q3
  simp -dsimp only [go_sem, s9, s3, s10, s11, f1, hB', hz, hg, hil, k1, q1, q2, e7]
  exact next (i + 1) (by show l.length - (i + 1) < l.length - i; omega) ⟨hil, q4 H (Nat.le_refl _) hE, q3, s9, s3, s10, rfl⟩
 ·have hi' : i = l.length := by omega
  subst hi'
  have f1 := nltI l.length
  rw [w2h] at hO
  obtain ⟨w, k1, k2⟩ := q9a (v := .slice (some ⟨H.length, 0, none⟩) l.length l.length) (f := mapR F l.length) (by rw [q0d]; omega) ⟨_, by rw [q0d], hO.done.sl⟩ lk
  simp -dsimp only [go_sem, s9, s3, s10, s11, f1, k1]
  exact ⟨hE, k2⟩
def pmE (f g : List Rat) (I J : Nat) : Nat → Rat := fun k => if I ≤ k ∧ k < I + J then q2b f g k (I + 1) else q2b f g k I
theorem pmE_zero (f g : List Rat) (I : Nat) : pmE f g I 0 = fun k => q2b f g k I := by
 funext k; unfold pmE; rw [if_neg (by omega)]
theorem pmE_row (f g : List Rat) (I : Nat) : pmE f g I g.length = fun k => q2b f g k (I + 1) := by
 funext k; unfold pmE
 split
 ·rfl
 ·rename_i h
  rw [q2b, if_neg (by omega)]
theorem pmE_skip {f : List Rat} (g : List Rat) {I : Nat} (h : qf f I = 0) : (fun k => q2b f g k I) = fun k => q2b f g k (I + 1) := by
 funext k
 rw [q2b, h]
 split
 ·rw [Rat.zero_mul, Rat.add_zero]
 ·rfl
theorem pmE_at (f g : List Rat) (I J : Nat) : pmE f g I J (I + J) = q2b f g (I + J) I := by unfold pmE; rw [if_neg (by omega)]
theorem pmE_next (f g : List Rat) (I J : Nat) (hJ : J < g.length) : q2b f g (I + J) I + qf f I * qf g J = q2b f g (I + J) (I + 1) := by
 rw [q2b, if_pos ⟨by omega, by omega⟩]
 congr 3; omega
theorem pmE_succ (f g : List Rat) (I J : Nat) : (fun k => if k = I + J then q2b f g (I + J) (I + 1) else pmE f g I J k) = pmE f g I (J + 1) := by
 funext k
 unfold pmE
 by_cases h : k = I + J
 ·rw [if_pos h, if_pos (by omega), h]
 ·rw [if_neg h]
  by_cases h2 : I ≤ k ∧ k < I + J
  ·rw [if_pos h2, if_pos (by omega)]
  ·rw [if_neg h2, if_neg (by omega)]
theorem q9d (F : Nat → Rat) (n j : Nat) (q : Rat) : (mapR F n).set j q = mapR (fun k => if k = j then q else F k) n := by
 refine List.ext_getElem (by simp [mapR]) fun k h1 h2 => ?_
 rw [List.getElem_set, q1u, q1u]
 by_cases h : j = k
 ·rw [if_pos h, if_pos h.symm]
 ·rw [if_neg h, if_neg (fun x => h x.symm)]
theorem p_PMul {H : Heap} {v w : Value} {f g : List Rat} (hv : LV H v f) (hw : LV H w g) (ok : MulOk f g) (lf : f.length ≤ 400000) (lg : g.length ≤ 400000) :
  q0m 53 [v, w] H (fun v H' => LV H' v (pMul f g)) := by
 obtain ⟨a, rfl, hs⟩ := hv
 obtain ⟨b, rfl, ht⟩ := hw
 refine q1n (by decide) Tryz.func53 rfl ?_
 intro lk hlk
 by_cases h0 : f.length = 0
 ·have f1 : ((f.length : Int) = 0) = True := eq_true (by omega)
  have : f = [] := List.eq_nil_of_length_eq_zero h0
  simp -dsimp only [go_sem, f1]
  rw [this, pMul_nil]
  exact ⟨Ext.refl _, LV.nil⟩
 have f1 : ((f.length : Int) = 0) = False := eq_false (by omega)
 by_cases h0' : g.length = 0
 ·have f2 : ((g.length : Int) = 0) = True := eq_true (by omega)
  have : g = [] := List.eq_nil_of_length_eq_zero h0'
  simp -dsimp only [go_sem, f1, f2]
  rw [this, pMul_comm, pMul_nil]
  exact ⟨Ext.refl _, LV.nil⟩
 have f2 : ((g.length : Int) = 0) = False := eq_false (by omega)
 obtain ⟨n, hn⟩ : ∃ n, n = f.length + g.length - 1 := ⟨_, rfl⟩
 have e1 : IntKind.i64.wrap (IntKind.i64.wrap ((f.length : Int) + (g.length : Int)) - 1) = (n : Int) := by rw [w64 (n := (f.length : Int) + (g.length : Int)) (by omega) (by omega), w64 (by omega) (by omega)]; omega
 obtain ⟨m1, m2, m3, m4⟩ := mk64 (n := n) (by omega)
 have c0 := fun lk H' => c_Int lk H' 0 (by omega)
 simp -dsimp only [go_sem, f1, f2, e1, m3, m4]
 refine q0h (m := fun (i : Nat) => n - i) (I := fun i σ H' => i ≤ n ∧ Ext H H' ∧ Own H.length H' (some ⟨H.length, 0, none⟩) (upO (fun _ => 0) n i) ∧ σ 0 = .slice a f.length f.length ∧ σ 1 = .slice b g.length g.length ∧ σ 5 = .slice (some ⟨H.length, 0, none⟩) n n ∧ σ 27 = .int .i64 (n : Int) ∧ σ 28 = .int .i64 (i : Int)) 0 ⟨Nat.zero_le _, Ext.app _ _, by rw [q8s]; exact q9b n (Nat.le_refl _), rfl, rfl, rfl, rfl, rfl⟩ ?_
 rintro i σ H' ⟨h1, hE, hO, s0, s1, s5, s27, s28⟩
 by_cases hi : i < n
 ·have f3 := ltI hi
  have e7 := q1m hi (by omega)
  obtain ⟨p, H2, q1, q2, q3, q4⟩ := hO.puto (lk := lk) q0o i (by rw [q4b]; exact hi) hlk 0
  rw [q4b] at q1
  rw [w2g (fun _ => 0)] at q3
  rw [show (((0 : Int)) : Rat) = 0 from rfl] at c0
  simp -dsimp only [go_sem, s0, s1, s5, s27, s28, f3, c0, q1, q2, e7]
  exact next (i + 1) (by show n - (i + 1) < n - i; omega) ⟨hi, q4 H (Nat.le_refl _) hE, q3, s0, s1, s5, s27, rfl⟩
 ·have hi' : i = n := by omega
  subst hi'
  have f3 := nltI i
  rw [w2h] at hO
  replace hO := hO.done
  have hz : mapR (fun _ => (0 : Rat)) i = mapR (fun k => q2b f g k 0) i := rfl
  rw [hz] at hO
  simp -dsimp only [go_sem, s0, s1, s5, s27, s28, f3]
  refine q0h (m := fun (I : Nat) => f.length - I) (I := fun I σ H' => I ≤ f.length ∧ Ext H H' ∧ Own H.length H' (some ⟨H.length, 0, none⟩) (mapR (fun k => q2b f g k I) i) ∧ σ 1 = .slice b g.length g.length ∧ σ 5 = .slice (some ⟨H.length, 0, none⟩) i i ∧ σ 36 = .slice a f.length f.length ∧ σ 37 = .int .i64 (f.length : Int) ∧ σ 38 = .int .i64 (I : Int)) 0 ⟨Nat.zero_le _, hE, hO, s1, s5, rfl, rfl, rfl⟩ ?_
  clear s0 s1 s5 s27 s28 hE hO H' σ
  rintro I σ H' ⟨h2, hE, hO, s1, s5, s36, s37, s38⟩
  have hlo := hE.le
  by_cases hI : I < f.length
  ·have f4 := ltI hI
   have e8 := q1m hI (by omega)
   obtain ⟨p, hp, hld⟩ := hs.ix I hI q0n
   have hld := hld H' hE
   rw [← q1y hI] at hld
   have kz := fun lk H' => q7g lk H' (qf f I)
   have hlH : lk ≤ H'.length := by omega
   by_cases hz : qf f I = 0
   ·rw [decide_eq_true hz] at kz
    rw [pmE_skip g hz] at hO
    simp -dsimp only [go_sem, s1, s5, s36, s37, s38, f4, hp, hld, kz, e8, hlH]
    exact next (I + 1) (by show f.length - (I + 1) < f.length - I; omega) ⟨hI, hE.more _, hO.more _, s1, s5, s36, s37, rfl⟩
   ·rw [decide_eq_false hz] at kz
    simp -dsimp only [go_sem, s1, s5, s36, s37, s38, f4, hp, hld, kz, hlH]
    obtain ⟨H1, hH1⟩ : ∃ H1, H1 = H' ++ [⟨rC (qf f I), 3, false⟩] := ⟨_, rfl⟩
    have hbx : q0e H1 H'.length = some ⟨rC (qf f I), 3, false⟩ := by rw [hH1]; exact q0j _ _
    have hE1 : Ext H' H1 := by rw [hH1]; exact Ext.app _ _
    have hO1 := hE1.own hO
    have hlH1 := hE1.le
    rw [← hH1]
    refine q0h (m := fun (J : Nat) => g.length - J) (I := fun J σ H2 => J ≤ g.length ∧ Ext H H2 ∧ H1.length ≤ H2.length ∧ q0e H2 H'.length = some ⟨rC (qf f I), 3, false⟩ ∧ Own H.length H2 (some ⟨H.length, 0, none⟩) (mapR (pmE f g I J) i) ∧ σ 1 = .slice b g.length g.length ∧ σ 5 = .slice (some ⟨H.length, 0, none⟩) i i ∧ σ 36 = .slice a f.length f.length ∧ σ 37 = .int .i64 (f.length : Int) ∧ σ 38 = .int .i64 (I : Int) ∧ σ 7 = .int .i64 (I : Int) ∧ σ 8 = .pointer (some ⟨H'.length, 0, none⟩) ∧ σ 45 = .slice b g.length g.length ∧ σ 46 = .int .i64 (g.length : Int) ∧ σ 47 = .int .i64 (J : Int)) 0 ⟨Nat.zero_le _, hE.trans hE1, Nat.le_refl _, hbx, by rw [pmE_zero]; exact hO1, s1, s5, s36, s37, s38, rfl, rfl, rfl, rfl, rfl⟩ ?_
    clear s1 s5 s36 s37 s38 hld σ
    rintro J σ H2 ⟨h3, hE2, hl2, hbx2, hO2, s1, s5, s36, s37, s38, s7, s8, s45, s46, s47⟩
    by_cases hJ : J < g.length
    ·have f5 := ltI hJ
     have e9 := q1m hJ (by omega)
     have e10 : IntKind.i64.wrap ((I : Int) + (J : Int)) = ((I + J : Nat) : Int) := by rw [w64 (by omega) (by omega)]; omega
     obtain ⟨q, hq, hldq⟩ := ht.ix J hJ q0n
     have hldq := hldq H2 hE2
     rw [← q1y hJ] at hldq
     have hO3 := hO2.more [⟨rC (qf g J), 3, false⟩]
     have hbx3 := fun N => q0u (N := N) hbx2
     obtain ⟨p5, H5, q1, q2, q3, q4, q5, bb, BB, hbb, _, q7⟩ := hO3.putq (lk := lk) q0o (I + J) (by rw [q0d]; omega) hlk (q2b f g (I + J) (I + 1))
     rw [q0d] at q1
     rw [q1u, pmE_at] at q2
     rw [q9d, pmE_succ] at q4
     have k1 := fun lk H' => c_Mul lk H' (qf f I) (qf g J) (ok.zf.qf _) (ok.zg.qf _)
     have k2 := fun lk H' => c_Add lk H' (q2b f g (I + J) I) (qf f I * qf g J) (ok.s _ _) (ok.p _ _)
     rw [pmE_next f g I J hJ] at k2
     have hlH2 : lk ≤ H2.length := by omega
     simp -dsimp only [go_sem, s1, s5, s7, s8, s36, s37, s38, s45, s46, s47, f5, hq, hldq, hbx3, e10, q1, q2, q3, k1, k2, e9, hlH2]
     cases hbb
     refine next (J + 1) (by show g.length - (J + 1) < g.length - J; omega) ⟨hJ, q5 H (Nat.le_refl _) (hE2.more _), by rw [q7, List.length_set, List.length_append]; omega, ?_, q4, s1, s5, s36, s37, s38, s7, s8, s45, s46, rfl⟩
     rw [q7, q0t]
     ·exact q0u hbx2
     ·rcases hO with ⟨h, _⟩ | ⟨b', h, _, h5⟩
      ·cases h
      ·cases h
       have := q0w h5
       omega
    ·have hJ' : J = g.length := by omega
     subst hJ'
     have f5 := nltI g.length
     rw [pmE_row] at hO2
     simp -dsimp only [go_sem, s1, s5, s7, s8, s36, s37, s38, s45, s46, s47, f5, e8]
     exact next (I + 1) (by show f.length - (I + 1) < f.length - I; omega) ⟨hI, hE2, hO2, s1, s5, s36, s37, rfl⟩
  ·have hI' : I = f.length := by omega
   subst hI'
   have f4 := nltI f.length
   obtain ⟨w, k1, k2⟩ := q9a (v := .slice (some ⟨H.length, 0, none⟩) i i) (f := mapR (fun k => q2b f g k f.length) i) (by rw [q0d]; omega) ⟨_, by rw [q0d], hO.sl⟩ lk
   simp -dsimp only [go_sem, s1, s5, s36, s37, s38, f4, k1]
   rw [hn] at k2
   exact ⟨hE, k2⟩
theorem isNone_some {α : Type} (x : α) : (some x).isNone = false := rfl
theorem isNone_none {α : Type} : (none : Option α).isNone = true := rfl
theorem s_cloneP {H : Heap} {v : Value} {f : List Rat} (hv : LV H v f) (lf : f.length ≤ 1000000) : q0m 160 [v] H (fun v H' => OV H.length H' v f) := by
 obtain ⟨a, rfl, hs⟩ := hv
 refine q1n (by decide) Tryz.func160 rfl ?_
 intro lk hlk
 cases a with
 | none =>
  have := hs.none_iff
  subst this
  simp -dsimp only [go_sem, isNone_none]
  exact ⟨Ext.refl _, OV.nil⟩
 | some A =>
  have hO : OwnP H.length (H ++ [⟨[], 3, false⟩]) (some ⟨H.length, 0, none⟩) ([] : List Rat) := .inr ⟨_, _, rfl, Nat.le_refl _, q0j _ _, rfl, rfl, Nat.zero_le _⟩
  obtain ⟨a', H2, q1, q2, q3, _⟩ := app_rats (lk := lk) (t := 23) (t2 := 23) q0n q0n (Ext.app H _) hO ((Ext.app H [⟨[], 3, false⟩]).sl hs) hlk (by simp only [List.length_nil]; omega)
  rw [List.length_nil, Nat.zero_add] at q1
  simp -dsimp only [go_sem, isNone_some, reps, q1]
  exact ⟨q2, a', rfl, q3⟩
structure XdOk (f g : List Rat) : Prop where
 zg : SzL g
 r : ∀ j i, j < f.length - g.length + 1 → Sz (q4z f g j i)
 c : ∀ j, j < f.length - g.length + 1 → Sz (xQ f g j)
 p : ∀ j i, j < f.length - g.length + 1 → Sz (xQ f g j * qf g i)
theorem p_PDivMod {H : Heap} {v w : Value} {f g : List Rat} (hv : LV H v f) (hw : LV H w g) (nf : Nrm f) (hg0 : g ≠ []) (hg : Nrm g) (ok : XdOk f g) (lf : f.length ≤ 500000) (lg : g.length ≤ 500000) :
  q0m 102 [v, w] H (fun v H' => ∃ q r, v = .tuple #[q, r] ∧ LV H' q (pDiv f g) ∧ LV H' r (pMod f g)) := by
 have hgl := List.length_pos_iff.2 hg0
 obtain ⟨a, rfl, hs⟩ := hv
 obtain ⟨b, rfl, ht⟩ := hw
 refine q1n (by decide) Tryz.func102 rfl ?_
 intro lk hlk
 simp -dsimp only [go_sem]
 refine ob_y (s_cloneP ⟨a, rfl, hs⟩ (by omega)) hlk ?_
 rintro v1 H1 hE1 ⟨c, rfl, hO1⟩
 have hl1 := hE1.le
 by_cases hlt : f.length < g.length
 ·have f1 : ((f.length : Int) < (g.length : Int)) = True := eq_true (by omega)
  have hm := pMod_small nf hlt
  simp -dsimp only [go_sem, f1]
  unfold pDiv pMod
  rw [hm]
  exact ⟨hE1, _, _, rfl, LV.nil, c, rfl, hO1.sl⟩
 have f1 : ((f.length : Int) < (g.length : Int)) = False := eq_false (by omega)
 obtain ⟨x1, x2⟩ := xDiv_eq hg0 hg (by omega : g.length ≤ f.length)
 rw [← x1, ← x2]
 obtain ⟨N, hN⟩ : ∃ N, N = f.length - g.length + 1 := ⟨_, rfl⟩
 have e1 : IntKind.i64.wrap ((f.length : Int) - (g.length : Int)) = ((N : Nat) : Int) - 1 := by rw [w64 (by omega) (by omega)]; omega
 have e2 : IntKind.i64.wrap (((N : Nat) : Int) - 1 + 1) = (N : Int) := by rw [w64 (by omega) (by omega)]; omega
 obtain ⟨m1, m2, m3, m4⟩ := mk64 (n := N) (by omega)
 have c0 := fun lk H' => c_Int lk H' 0 (by omega)
 rw [show (((0 : Int)) : Rat) = 0 from rfl] at c0
 rw [← hN]
 simp -dsimp only [go_sem, f1, e1, e2, m3, m4]
 have hbc : ∀ b' o e, c = some ⟨b', o, e⟩ → b' < H1.length := fun b' o e h => by
  rcases hO1 with ⟨h1, _⟩ | ⟨b2, h1, _, h2⟩
  ·rw [h1] at h; cases h
  ·rw [h1] at h; cases h; exact q0w h2
 refine q0h (m := fun (i : Nat) => N - i) (I := fun i σ H' => i ≤ N ∧ Ext H1 H' ∧ Own H1.length H' (some ⟨H1.length, 0, none⟩) (upO (fun _ => 0) N i) ∧ σ 0 = .slice a f.length f.length ∧ σ 1 = .slice b g.length g.length ∧ σ 6 = .slice c f.length f.length ∧ σ 7 = .int .i64 (g.length : Int) ∧ σ 8 = .slice (some ⟨H1.length, 0, none⟩) N N ∧ σ 30 = .int .i64 (N : Int) ∧ σ 31 = .int .i64 (i : Int)) 0 ⟨Nat.zero_le _, Ext.app _ _, by rw [q8s]; exact q9b N (Nat.le_refl _), rfl, rfl, rfl, rfl, rfl, rfl, rfl⟩ ?_
 rintro i σ H' ⟨h1, hE, hO, s0, s1, s6, s7, s8, s30, s31⟩
 by_cases hi : i < N
 ·have f3 := ltI hi
  have e7 := q1m hi (by omega)
  obtain ⟨p, H2, q1, q2, q3, q4⟩ := hO.puto (lk := lk) q0o i (by rw [q4b]; exact hi) (by omega) 0
  rw [q4b] at q1
  rw [w2g (fun _ => 0)] at q3
  simp -dsimp only [go_sem, s0, s1, s6, s7, s8, s30, s31, f3, c0, q1, q2, e7]
  exact next (i + 1) (by show N - (i + 1) < N - i; omega) ⟨hi, q4 H1 (Nat.le_refl _) hE, q3, s0, s1, s6, s7, s8, s30, rfl⟩
 ·have hi' : i = N := by omega
  subst hi'
  have f3 := nltI i
  rw [w2h] at hO
  replace hO := hO.done
  have e3 : IntKind.i64.wrap ((g.length : Int) - 1) = ((g.length - 1 : Nat) : Int) := by rw [w64 (by omega) (by omega)]; omega
  obtain ⟨p, hp, hld⟩ := ht.ix (g.length - 1) (by omega) q0n
  have hld := hld H' (hE1.trans hE)
  rw [← q1y (by omega)] at hld
  have kinv := fun lk H' => c_Inverse lk H' (qf g (g.length - 1)) (hg hg0)
  have hlH' : lk ≤ H'.length := by have := hE.le; omega
  simp -dsimp only [go_sem, s0, s1, s6, s7, s8, s30, s31, f3, e3, hp, hld, kinv, e1, hlH']
  obtain ⟨inv, hinv⟩ : ∃ inv, inv = (qf g (g.length - 1))⁻¹ := ⟨_, rfl⟩
  rw [← hinv]
  have zinv : Sz inv := by rw [hinv]; exact sm_inv (ok.zg.qf _) (by decide)
  obtain ⟨Ha, hHa⟩ : ∃ Ha, Ha = H' ++ [⟨rC inv, 3, false⟩] := ⟨_, rfl⟩
  have hbx : q0e Ha H'.length = some ⟨rC inv, 3, false⟩ := by rw [hHa]; exact q0j _ _
  have hEa : Ext H' Ha := by rw [hHa]; exact Ext.app _ _
  have hla := hEa.le
  have hlE := hE.le
  rw [← hHa]
  have hzq : mapR (fun _ => (0 : Rat)) i = mapR (xQs f g 0) i := by rw [xQs_zero]
  rw [hzq] at hO
  have hff : f = mapR (q4z f g 0) f.length := by
   refine List.ext_getElem (by rw [q0d]) fun k h1 h2 => ?_
   rw [q1u]; exact (q1y h1).symm
  have hO1' : Own H.length H1 c (mapR (q4z f g 0) f.length) := by rw [← hff]; exact hO1
  have hc0 : ∃ b', c = some ⟨b', 0, none⟩ ∧ H.length ≤ b' ∧ b' < H1.length := by
   rcases hO1 with ⟨_, h2⟩ | ⟨b2, h1, h2, h3⟩
   ·have h4 : f.length = 0 := by rw [h2]; rfl
    omega
   ·exact ⟨b2, h1, h2, q0w h3⟩
  obtain ⟨b', rfl, hb'1, hb'2⟩ := hc0
  have hqH : H1.length < H'.length := by
   rcases hO with ⟨h, _⟩ | ⟨b2, h, _, h3⟩
   ·cases h
   ·cases h; exact q0w h3
  have inv_live : ∀ {H2 H3 : Heap} {b2 : Nat} {B : Blk}, q0e H2 H'.length = some ⟨rC inv, 3, false⟩ → H3 = H2.set b2 B → b2 < H'.length → q0e H3 H'.length = some ⟨rC inv, 3, false⟩ := fun h1 h2 h3 => by
   rw [h2, q0t (by omega)]; exact h1
  refine q0h (m := fun (j : Nat) => i - j) (I := fun j σ H2 => j ≤ i ∧ Ext H H2 ∧ Ha.length ≤ H2.length ∧ q0e H2 H'.length = some ⟨rC inv, 3, false⟩ ∧ Own H.length H2 (some ⟨b', 0, none⟩) (mapR (q4z f g j) f.length) ∧ Own H1.length H2 (some ⟨H1.length, 0, none⟩) (mapR (xQs f g j) i) ∧ σ 1 = .slice b g.length g.length ∧ σ 6 = .slice (some ⟨b', 0, none⟩) f.length f.length ∧ σ 7 = .int .i64 (g.length : Int) ∧ σ 8 = .slice (some ⟨H1.length, 0, none⟩) i i ∧ σ 10 = .pointer (some ⟨H'.length, 0, none⟩) ∧ σ 11 = .int .i64 ((i : Int) - 1 - (j : Int))) 0 ⟨Nat.zero_le _, hE1.trans (hE.trans hEa), Nat.le_refl _, hbx, (hE.trans hEa).own hO1', hEa.own hO, s1, s6, s7, s8, rfl, by show _ = Value.int .i64 ((i : Int) - 1 - ((0 : Nat) : Int)); rw [Int.natCast_zero, Int.sub_zero]; rfl⟩ ?_
  clear s0 s1 s6 s7 s8 s30 s31 hld σ
  rintro j σ H2 ⟨h2, hE2, hl2, hbx2, hR, hQ, s1, s6, s7, s8, s10, s11⟩
  by_cases hj : j < i
  ·have f4 : (0 ≤ (i : Int) - 1 - (j : Int)) = True := eq_true (by omega)
   obtain ⟨k, hk⟩ : ∃ k, k = f.length - g.length - j := ⟨_, rfl⟩
   have ek : (i : Int) - 1 - (j : Int) = (k : Int) := by omega
   rw [ek] at s11 f4
   have e5 : IntKind.i64.wrap (IntKind.i64.wrap ((k : Int) + (g.length : Int)) - 1) = ((k + g.length - 1 : Nat) : Int) := by rw [w64 (n := (k : Int) + (g.length : Int)) (by omega) (by omega), w64 (by omega) (by omega)]; omega
   have e6 : IntKind.i64.wrap ((k : Int) - 1) = (i : Int) - 1 - ((j + 1 : Nat) : Int) := by rw [w64 (by omega) (by omega)]; omega
   obtain ⟨p1, hp1, hld1⟩ := hR.sl.ix (k + g.length - 1) (by rw [q0d]; omega) q0n
   have hld1 := hld1 H2 (Ext.refl _)
   rw [q0d] at hp1
   rw [q1u] at hld1
   have kc := fun lk H' => c_Mul lk H' (q4z f g j (k + g.length - 1)) inv (ok.r _ _ (by omega)) zinv
   have hcq : q4z f g j (k + g.length - 1) * inv = xQ f g j := by rw [hinv, hk]; rfl
   rw [hcq] at kc
   have hO3 := hQ.more [⟨rC (xQ f g j), 3, false⟩]
   obtain ⟨p5, H5, q1, _, q3, q4, q5, bb, BB, hbb, _, q7⟩ := hO3.putq (lk := lk) q0o k (by rw [q0d]; omega) (by omega) (xQ f g j)
   cases hbb
   rw [q0d] at q1
   have hqs : mapR (fun l => if l = k then xQ f g j else xQs f g j l) i = mapR (xQs f g (j + 1)) i := q1w fun l hl => by
    rw [xQs_succ f g j (by omega), ← hk]
    show (if l = k then xQ f g j else xQs f g j l) = xQs f g j l + (if l = k then xQ f g j else 0)
    by_cases h : l = k
    ·rw [if_pos h, if_pos h]
     have : xQs f g j l = 0 := by unfold xQs; rw [if_neg (by omega)]
     rw [this, Rat.zero_add]
    ·rw [if_neg h, if_neg h, Rat.add_zero]
   rw [q9d, hqs] at q4
   have kz := fun lk H' => q7g lk H' (xQ f g j)
   have hbxN := fun N => q0u (N := N) hbx2
   have hbcell : q0e H5 H2.length = some ⟨rC (xQ f g j), 3, false⟩ := by
    have hne : H1.length ≠ H2.length := by omega
    rw [q7, q0t hne]; exact q0j _ _
   have hbx5 : q0e H5 H'.length = some ⟨rC inv, 3, false⟩ := inv_live (hbxN _) q7 hqH
   have hR5 : Own H.length H5 (some ⟨b', 0, none⟩) (mapR (q4z f g j) f.length) := by
    rw [q7]
    refine (hR.more _).set ?_
    rintro c o e h rfl
    cases h
    omega
   have hE5 := q5 H (by omega) (hE2.more _)
   have hl5 : H5.length = H2.length + 1 := by rw [q7, List.length_set, List.length_append]; rfl
   have hlH2 : lk ≤ H2.length := by omega
   by_cases hz : xQ f g j = 0
   ·have hst : q4z f g (j + 1) = q4z f g j := by rw [q6l, hz, xStep_nought]
    rw [← hst] at hR5
    rw [decide_eq_true hz] at kz
    simp -dsimp only [go_sem, s1, s6, s7, s8, s10, s11, f4, e5, hp1, hld1, hbxN, hbx2, kc, hlH2, q1, q3, hbcell, kz, e6]
    exact next (j + 1) (by show i - (j + 1) < i - j; omega) ⟨hj, hE5, by omega, hbx5, hR5, q4, s1, s6, s7, s8, s10, rfl⟩
   ·rw [decide_eq_false hz] at kz
    simp -dsimp only [go_sem, s1, s6, s7, s8, s10, s11, f4, e5, hp1, hld1, hbxN, hbx2, kc, hlH2, q1, q3, hbcell, kz]
    refine q0h (m := fun (I : Nat) => g.length - I) (I := fun I σ H6 => I ≤ g.length ∧ Ext H H6 ∧ H6.length = H5.length ∧ q0e H6 H'.length = some ⟨rC inv, 3, false⟩ ∧ q0e H6 H2.length = some ⟨rC (xQ f g j), 3, false⟩ ∧ Own H.length H6 (some ⟨b', 0, none⟩) (mapR (q9z (q4z f g j) g k (xQ f g j) I) f.length) ∧ Own H1.length H6 (some ⟨H1.length, 0, none⟩) (mapR (xQs f g (j + 1)) i) ∧ σ 1 = .slice b g.length g.length ∧ σ 6 = .slice (some ⟨b', 0, none⟩) f.length f.length ∧ σ 7 = .int .i64 (g.length : Int) ∧ σ 8 = .slice (some ⟨H1.length, 0, none⟩) i i ∧ σ 10 = .pointer (some ⟨H'.length, 0, none⟩) ∧ σ 11 = .int .i64 (k : Int) ∧ σ 12 = .pointer (some ⟨H2.length, 0, none⟩) ∧ σ 69 = .int .i64 (g.length : Int) ∧ σ 70 = .int .i64 (I : Int)) 0 ⟨Nat.zero_le _, hE5, rfl, hbx5, hbcell, by rw [xStep_zero]; exact hR5, q4, s1, s6, s7, s8, s10, s11, rfl, rfl, rfl⟩ ?_
    clear s1 s6 s7 s8 s10 s11 σ
    rintro I σ H6 ⟨h3, hE6, hl6, hbx6, hbc6, hR6, hQ6, s1, s6, s7, s8, s10, s11, s12, s69, s70⟩
    by_cases hI : I < g.length
    ·have f5 := ltI hI
     have e9 := q1m hI (by omega)
     have e10 : IntKind.i64.wrap ((k : Int) + (I : Int)) = ((k + I : Nat) : Int) := by rw [w64 (by omega) (by omega)]; omega
     obtain ⟨q, hq, hldq⟩ := ht.ix I hI q0n
     have hldq := hldq H6 hE6
     rw [← q1y hI] at hldq
     obtain ⟨p7, H7, r1, r2, r3, r4, r5, bb, BB, hbb, r6, r7⟩ := hR6.putq (lk := lk) q0n (k + I) (by rw [q0d]; omega) hlk (q4z f g j (k + I) - xQ f g j * qf g I)
     cases hbb
     rw [q0d] at r1
     rw [q1u, xStep_at] at r2
     rw [q9d, xStep_succ] at r4
     have k1 := fun lk H' => c_Mul lk H' (xQ f g j) (qf g I) (ok.c _ (by omega)) (ok.zg.qf _)
     have k2 := fun lk H' => c_Sub lk H' (q4z f g j (k + I)) (xQ f g j * qf g I) (ok.r _ _ (by omega)) (ok.p _ _ (by omega))
     simp -dsimp only [go_sem, s1, s6, s7, s8, s10, s11, s12, s69, s70, f5, hq, hldq, hbc6, e10, r1, r2, r3, k1, k2, e9]
     have hQ7 : Own H1.length H7 (some ⟨H1.length, 0, none⟩) (mapR (xQs f g (j + 1)) i) := by
      rw [r7]
      refine hQ6.set ?_
      rintro c o e h rfl
      cases h
      omega
     exact next (I + 1) (by show g.length - (I + 1) < g.length - I; omega) ⟨hI, r5 H (Nat.le_refl _) hE6, by rw [r7, List.length_set]; exact hl6, by rw [r7, q0t (show b' ≠ H'.length by omega)]; exact hbx6, by rw [r7, q0t (show b' ≠ H2.length by omega)]; exact hbc6, r4, hQ7, s1, s6, s7, s8, s10, s11, s12, s69, rfl⟩
    ·have hI' : I = g.length := by omega
     subst hI'
     have f5 := nltI g.length
     rw [hk, ← q6l] at hR6
     simp -dsimp only [go_sem, s1, s6, s7, s8, s10, s11, s12, s69, s70, f5, e6]
     exact next (j + 1) (by show i - (j + 1) < i - j; omega) ⟨hj, hE6, by omega, hbx6, hR6, hQ6, s1, s6, s7, s8, s10, rfl⟩
  ·have hj' : j = i := by omega
   subst hj'
   have f4 : (0 ≤ (j : Int) - 1 - (j : Int)) = False := eq_false (by omega)
   have hqq : mapR (xQs f g j) j = mapR (fun l => xQ f g (f.length - g.length - l)) j := q1w fun l hl => by
    unfold xQs; rw [if_pos (by omega)]
   rw [hqq] at hQ
   obtain ⟨w1, k1, k2⟩ := q9a (v := .slice (some ⟨H1.length, 0, none⟩) j j) (f := mapR (fun l => xQ f g (f.length - g.length - l)) j) (by rw [q0d]; omega) ⟨_, by rw [q0d], hQ.sl⟩ H2.length
   have hcut := hR.sl.cut (g.length - 1) (by rw [q0d]; omega) q0n H2 (Ext.refl _)
   rw [q0d] at hcut
   have htk : (mapR (q4z f g j) f.length).take (g.length - 1) = mapR (q4z f g j) (g.length - 1) := by
    refine List.ext_getElem (by simp [mapR]; omega) fun l h1 h2 => ?_
    rw [List.getElem_take, q1u, q1u]
   have hst := hR.sl.take (g.length - 1) (by rw [q0d]; omega)
   rw [htk] at hst
   obtain ⟨w2, k3, k4⟩ := q9a (v := .slice (some ⟨b', 0, none⟩) (g.length - 1) (g.length - 1)) (f := mapR (q4z f g j) (g.length - 1)) (by rw [q0d]; omega) ⟨_, by rw [q0d], hst⟩ H2.length
   simp -dsimp only [go_sem, s1, s6, s7, s8, s10, s11, f4, e3, k1, hcut, k3]
   exact ⟨hE2, w1, w2, rfl, k2, k4⟩
theorem p_Rest {H : Heap} {v w : Value} {f g : List Rat} (hv : LV H v f) (hw : LV H w g) (nf : Nrm f) (hg0 : g ≠ []) (hg : Nrm g) (ok : XdOk f g) (lf : f.length ≤ 500000) (lg : g.length ≤ 500000) :
  q0m 52 [v, w] H (fun v H' => LV H' v (pMod f g)) := by
 obtain ⟨a, rfl, hs⟩ := hv
 obtain ⟨b, rfl, ht⟩ := hw
 refine q1n (by decide) Tryz.func52 rfl ?_
 intro lk hlk
 by_cases hlt : f.length < g.length
 ·have f1 : ((f.length : Int) < (g.length : Int)) = True := eq_true (by omega)
  have hm := pMod_small nf hlt
  simp -dsimp only [go_sem, f1]
  unfold pMod
  rw [hm]
  exact ⟨Ext.refl _, a, rfl, hs⟩
 ·have f1 : ((f.length : Int) < (g.length : Int)) = False := eq_false (by omega)
  simp -dsimp only [go_sem, f1]
  refine ob_y (p_PDivMod ⟨a, rfl, hs⟩ ⟨b, rfl, ht⟩ nf hg0 hg ok lf lg) hlk ?_
  rintro u H1 hE1 ⟨q, r, rfl, hq, hr⟩
  simp -dsimp only [go_sem]
  exact ⟨hE1, hr⟩
structure XmOk (m f g : List Rat) : Prop where
 p : MulOk f g
 d : XdOk (pMul f g) m
structure RQ where
 neg : Bool
 abs : List UInt8
 den : List UInt8
instance : Enc RQ := ⟨fun x => [.bool x.neg, .string (mkS x.abs), .string (mkS x.den)], 3, fun _ => rfl⟩
abbrev vQ (x : RQ) : Value := .agg (List.toArray [.bool x.neg, .string (mkS x.abs), .string (mkS x.den)])
def RQ.bad (x : RQ) : Prop := (x.abs.head? = some 0 ∨ (x.neg = true ∧ x.abs = [])) ∨ x.den.head? = some 0 ∨ x.den = []
instance (x : RQ) : Decidable x.bad := by unfold RQ.bad; infer_instance
def ckQ (x : RQ) : Int := if x.bad then 1 else if 1024 < x.abs.length ∨ 1024 < x.den.length then 4 else if Nat.gcd (bval x.abs) (bval x.den) = 1 then 0 else 1
def VQ (x : RQ) (q : Rat) : Prop := x.neg = decide (q.num < 0) ∧ x.abs = q0b q.num.natAbs ∧ x.den = q0b q.den
theorem RQ.numbers {x : RQ} (h : ¬ x.bad) : q0b (bval x.abs) = x.abs ∧ q0b (bval x.den) = x.den ∧ bval x.den ≠ 0 ∧ (x.neg = true → bval x.abs ≠ 0) := by
 have h1 : ¬ x.abs.head? = some 0 := fun h' => h (.inl (.inl h'))
 have h2 : ¬ (x.neg = true ∧ x.abs = []) := fun h' => h (.inl (.inr h'))
 have h3 : ¬ x.den.head? = some 0 := fun h' => h (.inr (.inl h'))
 have h4 : ¬ x.den = [] := fun h' => h (.inr (.inr h'))
 have b1 : q0b (bval x.abs) = x.abs := w3e _ (fun y hy h0 => by subst h0; exact h1 hy)
 have b2 : q0b (bval x.den) = x.den := w3e _ (fun y hy h0 => by subst h0; exact h3 hy)
 exact ⟨b1, b2, fun h0 => h4 (by rw [← b2, q1b]; exact h0), fun hn h0 => h2 ⟨hn, by rw [← b1, q1b]; exact h0⟩⟩
theorem ckQ_zero {x : RQ} (h : ckQ x = 0) : ∃ q, VQ x q ∧ Sm 1024 q := by
 unfold ckQ at h
 by_cases hb : x.bad
 ·rw [if_pos hb] at h; omega
 ·rw [if_neg hb] at h
  by_cases hl : 1024 < x.abs.length ∨ 1024 < x.den.length
  ·rw [if_pos hl] at h; omega
  ·rw [if_neg hl] at h
   by_cases hg : Nat.gcd (bval x.abs) (bval x.den) = 1
   ·obtain ⟨b1, b2, b3, b4⟩ := RQ.numbers hb
    have hn : (sg x.neg (bval x.abs)).natAbs = bval x.abs := w1e _ _
    refine ⟨⟨sg x.neg (bval x.abs), bval x.den, b3, by rw [hn]; exact hg⟩, ⟨?_, ?_, b2.symm⟩, ?_, ?_⟩
    ·show x.neg = decide (sg x.neg (bval x.abs) < 0)
     unfold sg
     cases hx : x.neg with
     | false => rw [if_neg (by decide)]; exact (decide_eq_false (by omega)).symm
     | true => rw [if_pos rfl]; have := b4 hx; exact (decide_eq_true (by omega)).symm
    ·show x.abs = q0b (sg x.neg (bval x.abs)).natAbs
     rw [hn, b1]
    ·show (q0b (sg x.neg (bval x.abs)).natAbs).length ≤ 1024
     rw [hn, b1]; omega
    ·show (q0b (bval x.den)).length ≤ 1024
     rw [b2]; omega
   ·rw [if_neg hg] at h; omega
theorem VQ.ck {x : RQ} {q : Rat} (h : VQ x q) (hs : Sm 1024 q) : ckQ x = 0 := by
 obtain ⟨h1, h2, h3⟩ := h
 have hb : ¬ x.bad := by
  rintro ((h | ⟨h, h'⟩) | h | h)
  ·rw [h2] at h; exact w2d _ _ h rfl
  ·rw [h1] at h
   rw [h2, q1b] at h'
   have := of_decide_eq_true h
   omega
  ·rw [h3] at h; exact w2d _ _ h rfl
  ·rw [h3, q1b] at h; exact q.den_nz h
 unfold ckQ
 rw [if_neg hb, h2, h3, if_neg (by have := hs.n; have := hs.d; omega), q1d, q1d, if_pos q.reduced]
theorem p_ratCheckQ (lk : Nat) (H : Heap) (x : RQ) : q0c prog md lk 180 [vQ x] H = some (.int .i64 (ckQ x), H) := by
 refine q0a rfl Tryz.func180 rfl rfl ?_
 have k1 := fun lk H' => p_intCheck lk H' ⟨x.neg, x.abs⟩
 have k2 := fun lk H' => p_natCheck lk H' x.den
 have one : [1] = q0b 1 := bytes_one.symm
 simp only [ckI] at k1
 unfold ckQ
 by_cases b1 : x.abs.head? = some 0 ∨ (x.neg = true ∧ x.abs = [])
 ·have hb : x.bad := .inl b1
  rw [if_pos b1] at k1
  rw [if_pos hb]
  simp -dsimp only [go_sem, k1, k2]
 rw [if_neg b1] at k1
 by_cases b2 : x.den.head? = some 0
 ·have hb : x.bad := .inr (.inl b2)
  rw [if_pos b2] at k2
  rw [if_pos hb]
  by_cases hl : 1024 < x.abs.length
  ·rw [if_pos hl] at k1
   simp -dsimp only [go_sem, k1, k2]
  ·rw [if_neg hl] at k1
   simp -dsimp only [go_sem, k1, k2]
 rw [if_neg b2] at k2
 by_cases b3 : x.den = []
 ·have hb : x.bad := .inr (.inr b3)
  have b3' : (x.den = []) = True := eq_true b3
  rw [if_pos hb]
  rw [if_neg (by rw [b3]; simp)] at k2
  by_cases hl : 1024 < x.abs.length
  ·rw [if_pos hl] at k1
   simp -dsimp only [go_sem, k1, k2, b3']
  ·rw [if_neg hl] at k1
   simp -dsimp only [go_sem, k1, k2, b3']
 have hb : ¬ x.bad := by rintro (h | h | h) <;> contradiction
 have b3' : (x.den = []) = False := eq_false b3
 rw [if_neg hb]
 by_cases hl : 1024 < x.abs.length
 ·rw [if_pos hl] at k1
  rw [if_pos (.inl hl)]
  by_cases hl2 : 1024 < x.den.length
  ·rw [if_pos hl2] at k2
   simp -dsimp only [go_sem, k1, k2, b3']
  ·rw [if_neg hl2] at k2
   simp -dsimp only [go_sem, k1, k2, b3']
 rw [if_neg hl] at k1
 by_cases hl2 : 1024 < x.den.length
 ·rw [if_pos hl2] at k2
  rw [if_pos (.inr hl2)]
  simp -dsimp only [go_sem, k1, k2, b3']
 rw [if_neg hl2] at k2
 rw [if_neg (by omega)]
 obtain ⟨c1, c2, c3, c4⟩ := RQ.numbers hb
 have k3 := fun lk H' => c_NatGcd lk H' (bval x.abs) (bval x.den) (by rw [c1]; omega) (by rw [c2]; omega)
 rw [c1, c2] at k3
 have d1 : (x.den = q0b 1) = (bval x.den = 1) := by rw [← c2, q1f, c2]
 by_cases hd1 : bval x.den = 1
 ·have f1 : (bval x.den = 1) = True := eq_true hd1
  rw [if_pos (by rw [hd1, Nat.gcd_one_right])]
  simp -dsimp only [go_sem, k1, k2, b3', one, d1, f1]
 ·have f1 : (bval x.den = 1) = False := eq_false hd1
  by_cases hg : Nat.gcd (bval x.abs) (bval x.den) = 1
  ·have f2 : (Nat.gcd (bval x.abs) (bval x.den) = 1) = True := eq_true hg
   rw [if_pos hg]
   simp -dsimp only [go_sem, k1, k2, b3', one, d1, f1, k3, f2]
  ·have f2 : (Nat.gcd (bval x.abs) (bval x.den) = 1) = False := eq_false hg
   rw [if_neg hg]
   simp -dsimp only [go_sem, k1, k2, b3', one, d1, f1, k3, f2]
theorem RQ.ext' {x y : RQ} (h1 : x.neg = y.neg) (h2 : x.abs = y.abs) (h3 : x.den = y.den) : x = y := by cases x; cases y; simp_all
def rq (q : Rat) : RQ := ⟨decide (q.num < 0), q0b q.num.natAbs, q0b q.den⟩
theorem VQ.eq {x : RQ} {q : Rat} (h : VQ x q) : x = rq q := RQ.ext' h.1 h.2.1 h.2.2
theorem rq_v (q : Rat) : VQ (rq q) q := ⟨rfl, rfl, rfl⟩
theorem cells_rq (f : List Rat) : q0g (f.map rq) = q0g f := by
 induction f with
 | nil => rfl
 | cons x f ih => rw [List.map_cons, q1i, q1i, ih]; rfl
theorem SL.rq {H : Heap} {a : Option Addr} {f : List Rat} (h : SL H a (f.map rq)) : SL H a f := by
 rcases h with ⟨h1, h2⟩ | ⟨b, o, B, h1, h2, h3, h4, h5⟩
 ·exact .inl ⟨h1, by simpa using h2⟩
 ·rw [cells_rq] at h4
  rw [List.length_map] at h4 h5
  exact .inr ⟨b, o, B, h1, h2, h3, h4, h5⟩
theorem SL.unrq {H : Heap} {a : Option Addr} {f : List Rat} (h : SL H a f) : SL H a (f.map Gx.rq) := by
 rcases h with ⟨h1, h2⟩ | ⟨b, o, B, h1, h2, h3, h4, h5⟩
 ·exact .inl ⟨h1, by rw [h2]; rfl⟩
 ·refine .inr ⟨b, o, B, h1, h2, h3, ?_, ?_⟩
  ·rw [cells_rq, List.length_map]; exact h4
  ·rw [List.length_map]; exact h5
theorem LV.unrq {H : Heap} {v : Value} {f : List Rat} (h : LV H v f) : LV H v (f.map Gx.rq) := let ⟨a, h1, h2⟩ := h; ⟨a, by rw [h1, List.length_map], h2.unrq⟩
def q4y : List RQ → Int
 | [] => 0
 | x :: l => if ckQ x ≠ 0 then ckQ x else q4y l
theorem firstE_zero {l : List RQ} (h : q4y l = 0) : ∃ f : List Rat, l = f.map rq ∧ ∀ x ∈ f, Sm 1024 x := by
 induction l with
 | nil => exact ⟨[], rfl, fun x h => by simp at h⟩
 | cons x l ih =>
  unfold q4y at h
  by_cases hx : ckQ x = 0
  ·rw [if_neg (fun h => h hx)] at h
   obtain ⟨f, hf, hs⟩ := ih h
   obtain ⟨q, hq, hq2⟩ := ckQ_zero hx
   refine ⟨q :: f, by rw [List.map_cons, hf, hq.eq], fun y hy => ?_⟩
   rcases List.mem_cons.1 hy with h | h
   ·rw [h]; exact hq2
   ·exact hs y h
  ·rw [if_pos hx] at h; exact absurd h hx
theorem firstE_map {f : List Rat} (h : ∀ x ∈ f, Sm 1024 x) : q4y (f.map rq) = 0 := by
 induction f with
 | nil => rfl
 | cons x f ih =>
  rw [List.map_cons, q4y, (rq_v x).ck (h x (by simp)), if_neg (fun h => h rfl)]
  exact ih fun y hy => h y (by simp [hy])
def ckP (l : List RQ) : Int := if 65 < l.length then 4 else if q4y l ≠ 0 then q4y l else if l ≠ [] ∧ (l.getD (l.length - 1) ⟨false, [], []⟩).abs = [] then 1 else 0
theorem rq_last (f : List Rat) (h : f ≠ []) : ((f.map rq).getD ((f.map rq).length - 1) ⟨false, [], []⟩).abs = [] ↔ qf f (f.length - 1) = 0 := by
 have hl := List.length_pos_iff.2 h
 rw [List.length_map, List.getD_eq_getElem?_getD, List.getElem?_map, List.getElem?_eq_getElem (by omega)]
 simp only [Option.map_some, Option.getD_some]
 rw [q1y (by omega)]
 show q0b _ = [] ↔ _
 rw [q1b]
 exact ⟨fun h => Rat.num_eq_zero.1 (by omega), fun h => by rw [h]; rfl⟩
theorem ckP_map {f : List Rat} (nf : Nrm f) (hl : f.length ≤ 65) (hs : ∀ x ∈ f, Sm 1024 x) : ckP (f.map rq) = 0 := by
 unfold ckP
 rw [List.length_map, if_neg (by omega), firstE_map hs, if_neg (fun h => h rfl), if_neg]
 rintro ⟨h1, h2⟩
 have hne : f ≠ [] := by simpa using h1
 have h3 := (rq_last f hne).1 (by rw [List.length_map]; exact h2)
 exact nf hne h3
theorem SL.ixq {H : Heap} {a : Option Addr} {f : List RQ} (hs : SL H a f) (i : Nat) (hi : i < f.length) {t : TypeId} (he : q0z prog t = some 55) :
  ∃ p, q0i prog t (.slice a f.length f.length) (.int .i64 (i : Int)) = some p ∧ ∀ H', Ext H H' → q2n prog H' 55 p = some (vQ f[i]) := by
 obtain ⟨b, o, B, rfl, hB, hz, hg⟩ := hs.get i hi
 refine ⟨.pointer (some ⟨b, o + i * 3, none⟩), ?_, fun H' hE => ?_⟩
 ·have h1 : (i : Int) < (f.length : Int) := by omega
  simp -dsimp only [go_sem, he, hi]
 ·have hB' := hE.live hB
  have hg : isub B.c (o + i * 3) 3 = some [.bool f[i].neg, .string (mkS f[i].abs), .string (mkS f[i].den)] := hg
  simp -dsimp only [go_sem, hB', hg]
theorem firstE_take {l : List RQ} {i : Nat} (h : q4y (l.take i) = 0) (hi : i < l.length) : (ckQ l[i] = 0 → q4y (l.take (i + 1)) = 0) ∧ (ckQ l[i] ≠ 0 → q4y l = ckQ l[i]) := by
 induction l generalizing i with
 | nil => simp at hi
 | cons x l ih =>
  cases i with
  | zero =>
   simp only [List.getElem_cons_zero]
   refine ⟨fun h2 => ?_, fun h2 => ?_⟩
   ·simp [q4y, h2]
   ·rw [q4y, if_pos h2]
  | succ i =>
   rw [List.take_succ_cons, q4y] at h
   by_cases hx : ckQ x = 0
   ·rw [if_neg (fun h => h hx)] at h
    have := ih h (by simpa using hi)
    simp only [List.getElem_cons_succ]
    refine ⟨fun h2 => ?_, fun h2 => ?_⟩
    ·rw [List.take_succ_cons, q4y, if_neg (fun h => h hx)]; exact this.1 h2
    ·rw [q4y, if_neg (fun h => h hx)]; exact this.2 h2
   ·rw [if_pos hx] at h; exact absurd h hx
theorem lastQ {l : List RQ} {H : Heap} {a : Option Addr} (hs : SL H a l) (h0 : q4y l = 0) (hl : l ≠ []) : ∃ p q, q0i prog 23 (.slice a l.length l.length) (.int .i64 ((l.length - 1 : Nat) : Int)) = some p ∧ (∀ H', Ext H H' → q2n prog H' 55 p = some (vR q)) ∧ ((l.getD (l.length - 1) ⟨false, [], []⟩).abs = [] ↔ q = 0) := by
 obtain ⟨f, rfl, _⟩ := firstE_zero h0
 have hne : f ≠ [] := by simpa using hl
 have hll := List.length_pos_iff.2 hne
 obtain ⟨p, hp, hld⟩ := hs.rq.ix (f.length - 1) (by omega) q0n
 refine ⟨p, f[f.length - 1], by rw [List.length_map]; exact hp, hld, ?_⟩
 rw [rq_last f hne, q1y (by omega)]
theorem p_qpCheck {H : Heap} {v : Value} {l : List RQ} (hv : LV H v l) (lk : Nat) : q0c prog md lk 118 [v] H = some (.int .i64 (ckP l), H) := by
 obtain ⟨a, rfl, hs⟩ := hv
 refine q0a rfl Tryz.func118 rfl rfl ?_
 unfold ckP
 by_cases h1 : 65 < l.length
 ·have f1 : (65 < (l.length : Int)) = True := eq_true (by omega)
  rw [if_pos h1]
  simp -dsimp only [go_sem, f1]
 have f1 : (65 < (l.length : Int)) = False := eq_false (by omega)
 rw [if_neg h1]
 simp -dsimp only [go_sem, f1]
 refine q0h (m := fun (i : Nat) => l.length - i) (I := fun i σ H' => i ≤ l.length ∧ Ext H H' ∧ q4y (l.take i) = 0 ∧ σ 0 = .slice a l.length l.length ∧ σ 9 = .slice a l.length l.length ∧ σ 10 = .int .i64 (l.length : Int) ∧ σ 11 = .int .i64 (i : Int)) 0 ⟨Nat.zero_le _, Ext.refl _, rfl, rfl, rfl, rfl, rfl⟩ ?_
 rintro i σ H' ⟨h2, hE, h3, s0, s9, s10, s11⟩
 have hlo := hE.le
 by_cases hi : i < l.length
 ·have f2 := ltI hi
  have e7 := q1m hi (by omega)
  obtain ⟨p, hp, hld⟩ := hs.ixq i hi q0n
  have hld := hld H' hE
  have k := fun lk H' => p_ratCheckQ lk H' l[i]
  obtain ⟨g1, g2⟩ := firstE_take h3 hi
  by_cases hc : ckQ l[i] = 0
  ·rw [hc] at k
   simp -dsimp only [go_sem, s0, s9, s10, s11, f2, hp, hld, k, e7, hlo]
   exact next (i + 1) (by show l.length - (i + 1) < l.length - i; omega) ⟨hi, hE.more _, g1 hc, s0, s9, s10, rfl⟩
  ·rw [if_pos (by rw [g2 hc]; exact hc), g2 hc]
   simp -dsimp only [go_sem, s0, s9, s10, s11, f2, hp, hld, k, hlo, hc]
 ·have hi' : i = l.length := by omega
  subst hi'
  rw [List.take_length] at h3
  have f2 := nltI l.length
  rw [h3, if_neg (fun h => h rfl)]
  by_cases hl : l = []
  ·have f3 : (0 < (l.length : Int)) = False := eq_false (by rw [hl]; simp)
   rw [if_neg (fun h => h.1 hl)]
   simp -dsimp only [go_sem, s0, s9, s10, s11, f2, f3]
  ·have hll := List.length_pos_iff.2 hl
   have f3 : (0 < (l.length : Int)) = True := eq_true (by omega)
   have e1 : IntKind.i64.wrap ((l.length : Int) - 1) = ((l.length - 1 : Nat) : Int) := by rw [w64 (by omega) (by omega)]; omega
   obtain ⟨p, q, hp, hld, hq⟩ := lastQ hs h3 hl
   have hld := hld H' hE
   have kz := fun lk H' => q7g lk H' q
   by_cases hz : q = 0
   ·rw [decide_eq_true hz] at kz
    rw [if_pos ⟨hl, hq.2 hz⟩]
    simp -dsimp only [go_sem, s0, s9, s10, s11, f2, f3, e1, hp, hld, kz]
   ·rw [decide_eq_false hz] at kz
    rw [if_neg (fun h => hz (hq.1 h.2))]
    simp -dsimp only [go_sem, s0, s9, s10, s11, f2, f3, e1, hp, hld, kz]
def Tells (g : FuncId) (P : Rat → Bool) : Prop := ∀ lk H q, q0c prog md lk g [vR q] H = some (.bool (P q), H)
theorem s_indexP {H : Heap} {v : Value} {f : List Rat} {g : FuncId} {P : Rat → Bool} (hv : LV H v f) (hl : f.length ≤ 1000000) (hg : Tells g P) :
  ∃ z : Int, (∀ lk, q0c prog md lk 218 [v, .func (.func g) #[] #[]] H = some (.int .i64 z, H)) ∧ decide (0 ≤ z) = f.any P := by
 obtain ⟨a, rfl, hs⟩ := hv
 have key : ∃ v, (∀ lk, q0c prog md lk 218 [.slice a f.length f.length, .func (.func g) #[] #[]] H = some (v, H)) ∧ ∃ z : Int, v = .int .i64 z ∧ decide (0 ≤ z) = f.any P := by
  refine y_val1 (by decide) Tryz.func218 rfl (by rintro v ⟨z, rfl, _⟩; rfl) ?_
  simp -dsimp only [go_sem]
  refine q0h (m := fun (i : Nat) => f.length - i) (I := fun i σ H' => i ≤ f.length ∧ H' = H ∧ (f.take i).any P = false ∧ σ 0 = .slice a f.length f.length ∧ σ 1 = .func (.func g) #[] #[] ∧ σ 7 = .int .i64 (f.length : Int) ∧ σ 8 = .int .i64 (i : Int)) 0 ⟨Nat.zero_le _, rfl, rfl, rfl, rfl, rfl, rfl⟩ ?_
  rintro i σ H' ⟨h1, rfl, h2, s0, s1, s7, s8⟩
  by_cases hi : i < f.length
  ·have f1 := ltI hi
   have e7 := q1m hi hl
   obtain ⟨p, hp, hld⟩ := hs.ix i hi q0n
   have hld := hld _ (Ext.refl _)
   have k := fun lk H' => hg lk H' f[i]
   cases hP : P f[i] with
   | true =>
    rw [hP] at k
    simp -dsimp only [go_sem, s0, s1, s7, s8, f1, hp, hld, k]
    refine ⟨_, rfl, ?_⟩
    rw [decide_eq_true (by omega)]
    exact (List.any_eq_true.2 ⟨f[i], List.getElem_mem hi, hP⟩).symm
   | false =>
    rw [hP] at k
    simp -dsimp only [go_sem, s0, s1, s7, s8, f1, hp, hld, k, e7]
    refine next (i + 1) (by show f.length - (i + 1) < f.length - i; omega) ⟨hi, rfl, ?_, s0, s1, s7, rfl⟩
    rw [List.take_add_one, List.getElem?_eq_getElem hi, Option.toList_some, List.any_append, h2]
    simp [hP]
  ·have hi' : i = f.length := by omega
   subst hi'
   rw [List.take_length] at h2
   have f1 := nltI f.length
   simp -dsimp only [go_sem, s0, s1, s7, s8, f1]
   exact ⟨_, rfl, by rw [h2]; rfl⟩
 obtain ⟨v, k, z, rfl, hz⟩ := key
 exact ⟨z, k, hz⟩
theorem s_containsP {H : Heap} {v : Value} {f : List Rat} {g : FuncId} {P : Rat → Bool} (hv : LV H v f) (hl : f.length ≤ 1000000) (hg : Tells g P) (lk : Nat) :
  q0c prog md lk 177 [v, .func (.func g) #[] #[]] H = some (.bool (f.any P), H) := by
 refine q0a rfl Tryz.func177 rfl rfl ?_
 obtain ⟨z, k, hz⟩ := s_indexP hv hl hg
 rw [← hz]
 simp -dsimp only [go_sem, k]
theorem tells_Large : Tells 67 lrg := fun lk H q => c_Large lk H q
theorem tells_Form : Tells 178 (fun q => decide (q.den ≠ 1)) := fun lk H q => by
 show _ = some (Value.bool (decide (q.den ≠ 1)), H)
 refine q0a rfl Tryz.func178 rfl rfl ?_
 have k := fun lk H' => c_IsWhole lk H' q
 simp -dsimp only [go_sem, k, decide_not]
def formF (f : List Rat) : Int := if f.length < 2 ∨ qf f (f.length - 1) ≠ 1 then 1 else if f.any (fun q => decide (q.den ≠ 1)) = true then 1 else if 24 < f.length - 1 then 4 else 0
theorem p_Form {H : Heap} {v : Value} {f : List Rat} (hv : FV H v f) (nf : Nrm f) (lf : f.length ≤ 65) (hs : ∀ x ∈ f, Sm 1024 x) (lk : Nat) : q0c prog md lk 117 [v] H = some (.int .i64 (formF f), H) := by
 obtain ⟨a, rfl, h⟩ := hv
 refine q0a rfl Tryz.func117 rfl rfl ?_
 have k := fun N => p_qpCheck (v := .slice a f.length f.length) (LV.unrq ⟨a, rfl, (Ext.app H N).sl h⟩)
 rw [ckP_map nf lf hs] at k
 have e1 : IntKind.i64.wrap ((f.length : Int) - 1) = (f.length : Int) - 1 := by rw [w64 (by omega) (by omega)]
 unfold formF
 by_cases h2 : f.length < 2
 ·have f1 : ((f.length : Int) - 1 < 1) = True := eq_true (by omega)
  rw [if_pos (.inl h2)]
  simp -dsimp only [go_sem, k, e1, f1]
 ·have f1 : ((f.length : Int) - 1 < 1) = False := eq_false (by omega)
  have e2 : (f.length : Int) - 1 = ((f.length - 1 : Nat) : Int) := by omega
  replace e1 : IntKind.i64.wrap ((f.length : Int) - 1) = ((f.length - 1 : Nat) : Int) := by rw [e1, e2]
  rw [e2] at f1
  obtain ⟨p, hp, hld⟩ := h.ix (f.length - 1) (by omega) q0n
  have hld := fun N => hld (H ++ N) (Ext.app H N)
  rw [← q1y (show f.length - 1 < f.length by omega)] at hld
  have c1 := fun lk H' => c_Int lk H' 1 (by omega)
  rw [show (((1 : Int)) : Rat) = 1 from rfl] at c1
  by_cases h3 : qf f (f.length - 1) = 1
  ·rw [if_neg (by rintro (h | h); exact h2 h; exact h h3)]
   have kc := fun N => s_containsP (v := .slice a f.length f.length) ⟨a, rfl, (Ext.app H N).sl h⟩ (by omega) tells_Form
   cases hw : f.any (fun q => decide (q.den ≠ 1)) with
   | true =>
    rw [if_pos rfl]
    rw [hw] at kc
    simp -dsimp only [go_sem, k, e1, f1, hp, hld, c1, h3, kc]
   | false =>
    rw [if_neg (by decide)]
    rw [hw] at kc
    by_cases h4 : 24 < f.length - 1
    ·have f4 : (24 < ((f.length - 1 : Nat) : Int)) = True := eq_true (by omega)
     rw [if_pos h4]
     simp -dsimp only [go_sem, k, e1, f1, hp, hld, c1, h3, kc, f4]
    ·have f4 : (24 < ((f.length - 1 : Nat) : Int)) = False := eq_false (by omega)
     rw [if_neg h4]
     simp -dsimp only [go_sem, k, e1, f1, hp, hld, c1, h3, kc, f4]
  ·rw [if_pos (.inr h3)]
   simp -dsimp only [go_sem, k, e1, f1, hp, hld, c1, h3]
def elE (m : List Rat) (l : List RQ) : Int := if ckP l ≠ 0 then ckP l else if m.length - 1 < l.length then 3 else 0
theorem p_Element {H : Heap} {v w : Value} {m : List Rat} {l : List RQ} (hv : FV H v m) (hw : LV H w l) (nm : Nrm m) (lm : m.length ≤ 65) (hs : ∀ x ∈ m, Sm 1024 x) (hf : formF m = 0) (h2 : 2 ≤ m.length) (lk : Nat) : q0c prog md lk 65 [v, w] H = some (.int .i64 (elE m l), H) := by
 have kf := fun N lk => p_Form (hv.ext (Ext.app H N)) nm lm hs lk
 rw [hf] at kf
 obtain ⟨a, rfl, h⟩ := hv
 refine q0a rfl Tryz.func65 rfl rfl ?_
 have k := fun N lk => p_qpCheck (hw.ext (Ext.app H N)) lk
 obtain ⟨b, rfl, ht⟩ := hw
 unfold elE
 by_cases hc : ckP l = 0
 ·rw [if_neg (fun h => h hc)]
  rw [hc] at k
  by_cases h4 : m.length - 1 < l.length
  ·have f4 : ((m.length : Int) ≤ (l.length : Int)) = True := eq_true (by omega)
   rw [if_pos h4]
   simp -dsimp only [go_sem, kf, k, f4]
  ·have f4 : ((m.length : Int) ≤ (l.length : Int)) = False := eq_false (by omega)
   rw [if_neg h4]
   simp -dsimp only [go_sem, kf, k, f4]
 ·rw [if_pos hc]
  simp -dsimp only [go_sem, kf, k, hc]
end Gx
end
section
/- Polynomials with whole coefficients of bounded size. -/
set_option autoImplicit false
namespace Gx
structure IntB (b : Nat) (q : Rat) : Prop where
 d : q.den = 1
 n : q.num.natAbs ≤ b
theorem IntB.mono {b c : Nat} {q : Rat} (h : IntB b q) (hc : b ≤ c) : IntB c q := ⟨h.d, Nat.le_trans h.n hc⟩
theorem IntB.of {b : Nat} {z : Int} (h : z.natAbs ≤ b) : IntB b (z : Rat) := ⟨rfl, h⟩
theorem IntB.eq {b : Nat} {q : Rat} (h : IntB b q) : q = ((q.num : Int) : Rat) := (w0a q h.d).symm
theorem IntB.zero {b : Nat} : IntB b 0 := ⟨rfl, Nat.zero_le _⟩
theorem IntB.add {b c : Nat} {p q : Rat} (hp : IntB b p) (hq : IntB c q) : IntB (b + c) (p + q) := by
 rw [hp.eq, hq.eq, ← Rat.intCast_add]
 exact .of (Nat.le_trans (Int.natAbs_add_le _ _) (Nat.add_le_add hp.n hq.n))
theorem IntB.mul {b c : Nat} {p q : Rat} (hp : IntB b p) (hq : IntB c q) : IntB (b * c) (p * q) := by
 rw [hp.eq, hq.eq, ← Rat.intCast_mul]
 exact .of (by rw [Int.natAbs_mul]; exact Nat.mul_le_mul hp.n hq.n)
theorem IntB.neg {b : Nat} {p : Rat} (hp : IntB b p) : IntB b (-p) := by
 rw [hp.eq, ← Rat.intCast_neg]
 exact .of (by rw [Int.natAbs_neg]; exact hp.n)
theorem IntB.sub {b c : Nat} {p q : Rat} (hp : IntB b p) (hq : IntB c q) : IntB (b + c) (p - q) := by rw [Rat.sub_eq_add_neg]; exact hp.add hq.neg
theorem IntB.sm {b k : Nat} {q : Rat} (h : IntB b q) (hb : b < 256 ^ k) (hk : 1 ≤ k) : Sm k q := ⟨w0w (Nat.lt_of_le_of_lt h.n hb), by rw [h.d, bl_one]; exact hk⟩
theorem w0g : (1 : Rat)⁻¹ = 1 := by decide +kernel
def BBn : Nat := 1000
def BB : Nat := 256 ^ BBn
theorem IntB.sz {b : Nat} {q : Rat} (h : IntB b q) (hb : b < BB) : Sz q := (h.sm (k := BBn) (by unfold BB at hb; exact hb) (by decide)).mono (by decide)
def IntL (b : Nat) (f : List Rat) : Prop := ∀ i, IntB b (qf f i)
theorem IntL.mono {b c : Nat} {f : List Rat} (h : IntL b f) (hc : b ≤ c) : IntL c f := fun i => (h i).mono hc
theorem IntL.szL {b : Nat} {f : List Rat} (h : IntL b f) (hb : b < BB) : SzL f := fun x hx => by
 obtain ⟨i, hi, rfl⟩ := List.mem_iff_getElem.1 hx
 rw [← q1y hi]; exact (h i).sz hb
theorem IntL.of {b : Nat} {f : List Rat} (h : ∀ x ∈ f, IntB b x) : IntL b f := fun i => by
 by_cases hi : i < f.length
 ·rw [q1y hi]; exact h _ (List.getElem_mem hi)
 ·rw [q2a (by omega)]; exact .zero
theorem IntL.add {b c : Nat} {f g : List Rat} (hf : IntL b f) (hg : IntL c g) : IntL (b + c) (pAdd f g) := fun i => by rw [qf_add]; exact (hf i).add (hg i)
theorem IntL.sub {b c : Nat} {f g : List Rat} (hf : IntL b f) (hg : IntL c g) : IntL (b + c) (pSub f g) := fun i => by rw [qf_sub]; exact (hf i).sub (hg i)
theorem IntL.scale {b c : Nat} {f : List Rat} {x : Rat} (hf : IntL b f) (hx : IntB c x) : IntL (b * c) (q6b f x) := fun i => by rw [qf_scale]; exact (hf i).mul hx
theorem q8d {b c : Nat} {f g : List Rat} (hf : IntL b f) (hg : IntL c g) (k : Nat) : ∀ i, IntB (i * (b * c)) (q2b f g k i)
 | 0 => IntB.zero
 | i + 1 => by
  rw [q2b, Nat.succ_mul]
  split
  ·exact (q8d hf hg k i).add ((hf i).mul (hg _))
  ·exact (q8d hf hg k i).mono (by omega)
theorem mulTo_cap (f g : List Rat) (k i : Nat) (h : f.length ≤ i) : q2b f g k i = q2b f g k f.length := by
 induction i with
 | zero => have : f.length = 0 := by omega
           rw [this]
 | succ i ih =>
  by_cases hi : f.length = i + 1
  ·rw [hi]
  ·rw [q2b, ih (by omega), q2a (f := f) (i := i) (by omega), Rat.zero_mul, Rat.add_zero, ite_self]
theorem IntL.mul {b c : Nat} {f g : List Rat} (hf : IntL b f) (hg : IntL c g) : IntL (f.length * (b * c)) (pMul f g) := fun i => by rw [qf_pMul]; exact q8d hf hg i f.length
theorem MulOk.int {b c : Nat} {f g : List Rat} (hf : IntL b f) (hg : IntL c g) (hb : b < BB) (hc : c < BB) (h : (f.length + 1) * (b * c) < BB) : MulOk f g := by
 refine ⟨hf.szL hb, hg.szL hc, fun i j => ((hf i).mul (hg j)).sz ?_, fun k i => ?_⟩
 ·exact Nat.lt_of_le_of_lt (Nat.le_mul_of_pos_left (b * c) (show 0 < f.length + 1 by omega)) h
 ·have hs : f.length * (b * c) ≤ (f.length + 1) * (b * c) := Nat.mul_le_mul_right _ (by omega)
  by_cases hi : i ≤ f.length
  ·have := Nat.mul_le_mul_right (b * c) hi
   exact (q8d hf hg k i).sz (by omega)
  ·rw [mulTo_cap _ _ _ _ (by omega)]
   exact (q8d hf hg k f.length).sz (by omega)
theorem xRest_int {b c : Nat} {f g : List Rat} (hf : IntL b f) (hg : IntL c g) (hm : qf g (g.length - 1) = 1) : ∀ j i, IntB (b * (c + 1) ^ j) (q4z f g j i)
 | 0, i => by rw [Nat.pow_zero, Nat.mul_one]; exact hf i
 | j + 1, i => by
  have ih := xRest_int hf hg hm j
  rw [q6l]
  have hQ : IntB (b * (c + 1) ^ j) (xQ f g j) := by
   unfold xQ; rw [hm, w0g, Rat.mul_one]; exact ih _
  have e : b * (c + 1) ^ (j + 1) = b * (c + 1) ^ j + b * (c + 1) ^ j * c := by rw [Nat.pow_succ, ← Nat.mul_assoc, Nat.mul_add, Nat.mul_one, Nat.add_comm]
  unfold q9z
  split
  ·rw [e]; exact (ih i).sub (hQ.mul (hg _))
  ·exact (ih i).mono (by rw [e]; exact Nat.le_add_right _ _)
theorem XdOk.int {b c : Nat} {f g : List Rat} (hf : IntL b f) (hg : IntL c g) (hm : qf g (g.length - 1) = 1) (hc : c < BB) (h : b * (c + 1) ^ (f.length - g.length + 1) < BB) : XdOk f g := by
 have key : ∀ j, j < f.length - g.length + 1 → b * (c + 1) ^ j * (c + 1) < BB := fun j hj => by
  rw [Nat.mul_assoc, ← Nat.pow_succ]
  exact Nat.lt_of_le_of_lt (Nat.mul_le_mul_left b (Nat.pow_le_pow_right (by omega) (by omega))) h
 have hQ : ∀ j, IntB (b * (c + 1) ^ j) (xQ f g j) := fun j => by unfold xQ; rw [hm, w0g, Rat.mul_one]; exact xRest_int hf hg hm j _
 refine ⟨hg.szL hc, fun j i hj => (xRest_int hf hg hm j i).sz ?_, fun j hj => (hQ j).sz ?_, fun j i hj => ((hQ j).mul (hg i)).sz ?_⟩
 ·have := key j hj; have := Nat.le_mul_of_pos_right (b * (c + 1) ^ j) (show 0 < c + 1 by omega); omega
 ·have := key j hj; have := Nat.le_mul_of_pos_right (b * (c + 1) ^ j) (show 0 < c + 1 by omega); omega
 ·have := key j hj; rw [Nat.mul_add] at this; omega
theorem dvM_int {b : Nat} {g r : List Rat} (hr : IntL b r) (hm : qf g (g.length - 1) = 1) : IntL b (dvM g r) := fun i => by
 unfold dvM
 rw [w0k, hm, Rat.div_def, w0g, Rat.mul_one]
 split
 ·exact hr _
 ·exact .zero
theorem dvM_one (g r : List Rat) (i : Nat) (h : i ≠ r.length - g.length) : qf (dvM g r) i = 0 := by unfold dvM; rw [w0k, if_neg h]
theorem dvMul_int {b c : Nat} {g r : List Rat} (hr : IntL b r) (hg : IntL c g) (hm : qf g (g.length - 1) = 1) (k i : Nat) : IntB (b * c) (q2b (dvM g r) g k i) := by
 rw [mulTo_one (dvM_one g r)]
 split
 ·exact (dvM_int hr hm _).mul (hg _)
 ·exact .zero
theorem DvOkL.int {c : Nat} {g : List Rat} (hg : IntL c g) (hm : qf g (g.length - 1) = 1) (hc : c < BB) : ∀ (n b : Nat) (q r : List Rat), IntL b q → IntL b r → b * (c + 2) ^ n < BB → DvOkL g n q r
 | 0, _, _, _, _, _, _ => trivial
 | n + 1, b, q, r, hq, hr, h => by
  rw [DvOkL]
  split
  ·have h1 : b * (c + 2) * (c + 2) ^ n < BB := by rw [Nat.mul_assoc, Nat.mul_comm (c + 2), ← Nat.pow_succ]; exact h
   have h2 : b * (c + 2) < BB := Nat.lt_of_le_of_lt (Nat.le_mul_of_pos_right _ (Nat.pow_pos (by omega))) h1
   have h3 : b * (c + 2) = b * c + b * 2 := Nat.mul_add _ _ _
   have hM := dvM_int hr hm
   have hP : IntL (b * c) (pMul (dvM g r) g) := fun i => by rw [qf_pMul]; exact dvMul_int hr hg hm i _
   refine ⟨hq.szL (by omega), hr.szL (by omega), hM.szL (by omega), ⟨hM.szL (by omega), hg.szL hc, fun i j => ((hM i).mul (hg j)).sz (by omega), fun k i => (dvMul_int hr hg hm k i).sz (by omega)⟩, hP.szL (by omega), ?_⟩
   exact DvOkL.int hg hm hc n (b * (c + 2)) _ _ ((hq.add hM).mono (by omega)) ((hr.sub hP).mono (by omega)) h1
  ·trivial
theorem IntL.trm {b : Nat} {f : List Rat} (h : IntL b f) : IntL b (trm f) := fun i => by rw [q6p]; exact h i
theorem DvOk.int {b c : Nat} {f g : List Rat} (hf : IntL b f) (hg : IntL c g) (hm : qf g (g.length - 1) = 1) (hc : c < BB) (h : b * (c + 2) ^ (f.length + 1) < BB) : DvOk f g :=
 ⟨hg.szL hc, DvOkL.int hg hm hc _ b _ _ (fun i => by rw [q2a (by simp)]; exact .zero) hf.trm h⟩
theorem dvLoop_int {c : Nat} {g : List Rat} (hg : IntL c g) (hm : qf g (g.length - 1) = 1) : ∀ (n b : Nat) (q r : List Rat), IntL b q → IntL b r → IntL (b * (c + 2) ^ n) (q3n g n q r).1 ∧ IntL (b * (c + 2) ^ n) (q3n g n q r).2
 | 0, b, q, r, hq, hr => by rw [Nat.pow_zero, Nat.mul_one]; exact ⟨hq, hr⟩
 | n + 1, b, q, r, hq, hr => by
  have e : b * (c + 2) ^ (n + 1) = b * (c + 2) * (c + 2) ^ n := by rw [Nat.mul_assoc, Nat.mul_comm (c + 2), ← Nat.pow_succ]
  have h3 : b * (c + 2) = b * c + b * 2 := Nat.mul_add _ _ _
  rw [q3n, e]
  split
  ·have hM := dvM_int hr hm
   have hP : IntL (b * c) (pMul (dvM g r) g) := fun i => by rw [qf_pMul]; exact dvMul_int hr hg hm i _
   exact dvLoop_int hg hm n (b * (c + 2)) _ _ ((hq.add hM).mono (by omega)) ((hr.sub hP).mono (by omega))
  ·have h4 : b ≤ b * (c + 2) * (c + 2) ^ n := by
    have h5 : b ≤ b * (c + 2) := by omega
    exact Nat.le_trans h5 (Nat.le_mul_of_pos_right _ (Nat.pow_pos (by omega)))
   exact ⟨hq.mono h4, hr.mono h4⟩
theorem pMod_int {b c : Nat} {f g : List Rat} (hf : IntL b f) (hg : IntL c g) (hm : qf g (g.length - 1) = 1) : IntL (b * (c + 2) ^ (f.length + 1)) (pDiv f g) ∧ IntL (b * (c + 2) ^ (f.length + 1)) (pMod f g) :=
 dvLoop_int hg hm _ b _ _ (fun i => by rw [q2a (by simp)]; exact .zero) hf.trm
end Gx
end
section
/- Cyclotomic fields of small primes: the reference's. -/
set_option autoImplicit false
namespace Gx
open Go Go.Proofs
open Go.Proofs.Tryz (prog)
set_option maxRecDepth 10000
theorem pw_BB (k : Nat) (h : k < 8 * BBn) : 2 ^ k < BB := by unfold BB; rw [show (256 : Nat) = 2 ^ 8 from rfl, ← Nat.pow_mul]; exact Nat.pow_lt_pow_right (by decide) h
theorem q2p {n k : Nat} (h : n ≤ 2 ^ k) (hk : k ≤ 4000) : n < BB := Nat.lt_of_le_of_lt h (pw_BB k (by unfold BBn; omega))
theorem r6_Of {H : Heap} {v : Value} {l : List MI} (hv : LV H v l) (hl : l.length ≤ 1000000) (hi : ∀ x ∈ l, I64 x.v) : q0m 41 [v] H (fun v H' => OV H.length H' v (pOf l)) := by
 obtain ⟨a, rfl, hs⟩ := hv
 refine q1n (by decide) Tryz.func41 rfl ?_
 intro lk hlk
 obtain ⟨F, hF⟩ : ∃ F : Nat → Rat, F = fun i => (((l.getD i ⟨0⟩).v : Int) : Rat) := ⟨_, rfl⟩
 have hmap : l.map (fun x => ((x.v : Int) : Rat)) = mapR F l.length := by
  refine List.ext_getElem (by simp [mapR]) fun i h1 h2 => ?_
  rw [List.length_map] at h1
  simp [mapR, hF, h1]
 unfold pOf
 rw [hmap]
 simp -dsimp only [go_sem]
 refine q0h (m := fun (s : Nat × Option Addr) => l.length - s.1) (I := fun s σ H' => s.1 ≤ l.length ∧ Ext H H' ∧ Own H.length H' s.2 (mapR F s.1) ∧ σ 6 = .slice a l.length l.length ∧ σ 7 = .int .i64 (l.length : Int) ∧ σ 3 = .slice s.2 s.1 s.1 ∧ σ 8 = .int .i64 (s.1 : Int)) (0, none) ⟨Nat.zero_le _, Ext.refl _, Own.nil, rfl, rfl, rfl, rfl⟩ ?_
 rintro ⟨i, c⟩ σ H' ⟨h1, hE, hO, s6, s7, s3, s8⟩
 simp only at h1 hO s3 s8
 have hlen := q0d F i
 by_cases hil : i < l.length
 ·have f1 := ltI hil
  have e7 := q1m hil (by omega)
  obtain ⟨b, o, B, rfl, hB, hz, hg⟩ := hs.mi i hil
  have hB' := hE.live hB
  have k1 := fun lk H' => q3k lk H' l[i].v (hi _ (List.getElem_mem hil))
  have hFi : ((l[i].v : Int) : Rat) = F i := by simp [hF, hil]
  rw [hFi] at k1
  have hap := q5w (lk := lk) (t := 23) (t2 := 23) q0n q0n hO hlk hlen.symm (by omega) (F i)
  have hO2 := q2w hE hO (F i) [⟨rC (F i), 3, false⟩]
  rw [← q2d] at hO2
  simp -dsimp only [go_sem, s6, s7, s3, s8, f1, hB', hz, hg, hil, k1, reps, hap, e7]
  exact next (i + 1, _) (by show l.length - (i + 1) < l.length - i; omega) ⟨hil, q2r hE hO _ _, hO2, s6, s7, rfl, rfl⟩
 ·have hi' : i = l.length := by omega
  subst hi'
  have f1 := nltI l.length
  simp -dsimp only [go_sem, s6, s7, s3, s8, f1]
  refine ob_y (w0h (f := mapR F l.length) (by omega) ⟨c, by rw [hlen], hO.sl⟩) (by have := hE.le; omega) ?_
  rintro v H2 hE2 ⟨a', rfl, hO'⟩
  simp -dsimp only [go_sem]
  exact ⟨hE.trans hE2, a', rfl, hO'.low hE.le⟩
theorem mi_blk (H : Heap) (z : Int) : LV (H ++ [⟨[.int .i64 z], 1, false⟩]) (.slice (some ⟨H.length, 0, none⟩) 1 1) (mis [z]) := ⟨_, rfl, SL.blk (by rw [q0j]; rfl)⟩
theorem pOf_one : pOf (mis [1]) = [1] := by decide +kernel
def pwP (n : Nat) : List Rat := pSub (q3y 1 n) [1]
theorem int_one : IntL 1 [1] := .of fun x hx => by rw [List.mem_singleton.1 hx]; exact ⟨rfl, by decide⟩
theorem w4m (n : Nat) : IntL 1 (q3y 1 n) := fun i => by
 rw [w0k]; split
 ·exact ⟨rfl, by decide⟩
 ·exact .zero
theorem pwP_int (n : Nat) : IntL 2 (pwP n) := (w4m n).sub int_one
theorem pwP_len (n : Nat) : (pwP n).length ≤ n + 1 := by
 have h1 := pSub_le (q3y 1 n) [1]; have h2 := q6c 1 n
 unfold pwP; simp only [List.length_cons, List.length_nil] at h1; omega
theorem r47_power {H : Heap} (n : Nat) (hn : n ≤ 1000) : q0m 125 [.int .i64 (n : Int)] H (fun v H' => OV H.length H' v (pwP n)) := by
 refine q1n (by decide) Tryz.func125 rfl ?_
 intro lk hlk
 simp -dsimp only [go_sem, r3_one]
 refine ob_y (q6z 1 n (by omega)) hlk ?_
 rintro v1 H1 hE1 hO1
 have l1 := hE1.le
 simp -dsimp only [go_sem, reps]
 have hE2 := Ext.app H1 [⟨[.int .i64 1], 1, false⟩]
 refine ob_y (r6_Of (mi_blk H1 1) (by simp [mis]) (by intro x hx; simp [mis] at hx; subst hx; exact ⟨by decide, by decide⟩)) (by have := hE2.le; omega) ?_
 rintro v2 H2 hE3 hO2
 have l3 := hE3.le
 rw [pOf_one] at hO2
 simp -dsimp only [go_sem]
 have h2 := q6c 1 n
 refine ob_y (r6_Sub (hO1.lv.ext (hE2.trans hE3)) hO2.lv ((w4m n).szL (q2p (k := 1) (by decide) (by decide))) (int_one.szL (q2p (k := 1) (by decide) (by decide))) (by omega) (by simp)) (by have := hE2.le; omega) ?_
 rintro v3 H3 hE4 ⟨a, rfl, hO3⟩
 simp -dsimp only [go_sem]
 exact ⟨hE1.trans (hE2.trans (hE3.trans hE4)), a, rfl, hO3.low (by have := hE2.le; omega)⟩
def phiP (p : Nat) : List Rat := List.replicate p 1
theorem q1q (p : Nat) : (phiP p).length = p := List.length_replicate
theorem q4m (p : Nat) : IntL 1 (phiP p) := .of fun x hx => by rw [List.eq_of_mem_replicate hx]; exact ⟨rfl, by decide⟩
theorem phiP_get (p i : Nat) (h : i < p) : qf (phiP p) i = 1 := by rw [q1y (by rw [q1q]; exact h)]; exact List.getElem_replicate _
theorem q3u (p : Nat) : Nrm (phiP p) := fun h => by
 have := List.length_pos_iff.2 h
 rw [q1q] at this ⊢
 rw [phiP_get p _ (by omega)]; decide
theorem q5p {p : Nat} (h : 0 < p) : phiP p ≠ [] := by intro h0; have := q1q p; rw [h0] at this; simp at this; omega
theorem q8x {p : Nat} (h : 0 < p) : qf (phiP p) ((phiP p).length - 1) = 1 := by rw [q1q]; exact phiP_get _ _ (by omega)
theorem phi_div : ∀ p ∈ P9, pDiv (pMul [1] (pwP p)) (pMul [1] (pwP 1)) = phiP p := by decide +kernel
theorem phi_mod : ∀ p ∈ P9, ∀ d, d < p → 2 ≤ d → p % d ≠ 0 := by decide
theorem phi_under : pMul [1] (pwP 1) = [-1, 1] := by decide +kernel
theorem phi_over (p : Nat) : IntL 2 (pMul [1] (pwP p)) := by
 have := int_one.mul (pwP_int p)
 simpa using this
theorem r47_Phi {p : Nat} (hp : p ∈ P9) (H : Heap) : q0m 71 [.int .i64 (p : Int)] H (fun v H' => LV H' v (phiP p)) := by
 obtain ⟨hp2, hp23⟩ := q3a hp
 refine q1n (by decide) Tryz.func71 rfl ?_
 intro lk hlk
 simp -dsimp only [go_sem, reps]
 have hE1 := Ext.app H [⟨[.int .i64 1], 1, false⟩]
 refine ob_y (r6_Of (mi_blk H 1) (by simp [mis]) (by intro x hx; simp [mis] at hx; subst hx; exact ⟨by decide, by decide⟩)) (by have := hE1.le; omega) ?_
 rintro v1 H1 hE2 hO1
 rw [pOf_one] at hO1
 simp -dsimp only [go_sem, reps]
 have hE3 := Ext.app H1 [⟨[.int .i64 1], 1, false⟩]
 refine ob_y (r6_Of (mi_blk H1 1) (by simp [mis]) (by intro x hx; simp [mis] at hx; subst hx; exact ⟨by decide, by decide⟩)) (by have := hE1.le; have := hE2.le; have := hE3.le; omega) ?_
 rintro v2 H2 hE4 hO2
 rw [pOf_one] at hO2
 simp -dsimp only [go_sem]
 have hE := hE1.trans (hE2.trans (hE3.trans hE4))
 refine q0h (m := fun (s : Nat × Value × Value) => p + 1 - s.1) (I := fun s σ H' => 1 ≤ s.1 ∧ s.1 ≤ p + 1 ∧ Ext H H' ∧ LV H' s.2.1 (if s.1 ≤ p then [1] else pMul [1] (pwP p)) ∧ LV H' s.2.2 (if s.1 ≤ 1 then [1] else pMul [1] (pwP 1)) ∧ σ 0 = .int .i64 (p : Int) ∧ σ 3 = s.2.1 ∧ σ 4 = s.2.2 ∧ σ 5 = .int .i64 (s.1 : Int)) (1, v1, v2) ⟨Nat.le_refl _, by simp only; omega, hE, by rw [if_pos (show 1 ≤ p by omega)]; exact hO1.lv.ext (hE3.trans hE4), hO2.lv, rfl, rfl, rfl, rfl⟩ ?_
 clear hO1 hO2 hE1 hE2 hE3 hE4 hE v1 v2 H1 H2
 rintro ⟨d, vo, vu⟩ σ H' ⟨h1, h2, hE, ho, hu, s0, s3, s4, s5⟩
 simp only at h1 h2 ho hu s3 s4 s5
 have hlo := hE.le
 have hd0 : ((d : Int) ≠ 0) = True := eq_true (by omega)
 by_cases hd : d ≤ p
 ·have f1 : ((d : Int) ≤ (p : Int)) = True := eq_true (by omega)
  have e7 := q1m (i := d) (n := p + 1) (by omega) (by omega)
  have et : ((p : Int)).tmod (d : Int) = ((p % d : Nat) : Int) := rfl
  by_cases hm : p % d = 0
  ·have f2 : (((p % d : Nat) : Int) = 0) = True := eq_true (by omega)
   have eq : IntKind.i64.wrap (((p : Int)).tdiv (d : Int)) = ((p / d : Nat) : Int) := by
    have : ((p : Int)).tdiv (d : Int) = ((p / d : Nat) : Int) := rfl
    have h3 := Nat.div_le_self p d
    rw [this]
    generalize p / d = e at h3
    rw [w64 (by omega) (by omega)]
   have hd1 : d = 1 ∨ d = p := by
    by_cases h3 : d = 1
    ·exact .inl h3
    ·by_cases h4 : d = p
     ·exact .inr h4
     ·exact absurd hm (phi_mod p hp d (by omega) (by omega))
   rcases hd1 with hdd | hdd
   ·rw [if_pos (by omega)] at ho
    rw [if_pos (by omega)] at hu
    have e9 : p / d = p := by rw [hdd]; exact Nat.div_one p
    rw [e9] at eq
    have km := fun lk H' => r4_Moe hp lk H'
    have q1 : ((-1 : Int) = 1) = False := eq_false (by decide)
    simp -dsimp only [go_sem, s0, s3, s4, s5, f1, hd0, et, f2, eq, km, q1]
    refine ob_y (r47_power d (by omega)) (by omega) ?_
    rintro v5 H5 hE5 hO5
    have l5 := hE5.le
    simp -dsimp only [go_sem, s0, s3, s4, s5]
    have hl := pwP_len d
    refine ob_y (r6_Mul (hu.ext hE5) hO5.lv (.int int_one (pwP_int d) (q2p (k := 1) (by decide) (by decide)) (q2p (k := 1) (by decide) (by decide)) (q2p (k := 10) (by simp) (by decide))) (by simp) (by omega)) (by omega) ?_
    rintro v6 H6 hE6 hO6
    simp -dsimp only [go_sem, s0, s3, s4, s5, e7]
    rw [hdd] at hO6
    exact next (d + 1, vo, v6) (by show p + 1 - (d + 1) < p + 1 - d; omega) ⟨by simp only; omega, by simp only; omega, hE.trans (hE5.trans hE6), by simp only; rw [if_pos (by omega)]; exact ho.ext (hE5.trans hE6), by simp only; rw [if_neg (by omega)]; exact hO6.lv, s0, s3, rfl, rfl⟩
   ·rw [if_pos hd] at ho
    rw [if_neg (by omega)] at hu
    have e9 : p / d = 1 := by rw [hdd]; exact Nat.div_self (by omega)
    rw [e9] at eq
    have km := fun lk H' => r4_Moe1 lk H'
    rw [show ((1 : Nat) : Int) = 1 from rfl] at eq
    simp -dsimp only [go_sem, s0, s3, s4, s5, f1, hd0, et, f2, eq, km]
    refine ob_y (r47_power d (by omega)) (by omega) ?_
    rintro v5 H5 hE5 hO5
    have l5 := hE5.le
    simp -dsimp only [go_sem, s0, s3, s4, s5]
    have hl := pwP_len d
    refine ob_y (r6_Mul (ho.ext hE5) hO5.lv (.int int_one (pwP_int d) (q2p (k := 1) (by decide) (by decide)) (q2p (k := 1) (by decide) (by decide)) (q2p (k := 10) (by simp) (by decide))) (by simp) (by omega)) (by omega) ?_
    rintro v6 H6 hE6 hO6
    simp -dsimp only [go_sem, s0, s3, s4, s5, e7]
    rw [hdd] at hO6
    exact next (d + 1, v6, vu) (by show p + 1 - (d + 1) < p + 1 - d; omega) ⟨by simp only; omega, by simp only; omega, hE.trans (hE5.trans hE6), by simp only; rw [if_neg (by omega)]; exact hO6.lv, by simp only; rw [if_neg (by omega)]; exact hu.ext (hE5.trans hE6), s0, rfl, s4, rfl⟩
  ·have f2 : (((p % d : Nat) : Int) = 0) = False := eq_false (by omega)
   have hd1 : d ≠ 1 := fun h => hm (by rw [h]; exact Nat.mod_one _)
   have hdp : d ≠ p := fun h => hm (by rw [h]; exact Nat.mod_self _)
   rw [if_pos hd] at ho
   rw [if_neg (by omega)] at hu
   simp -dsimp only [go_sem, s0, s3, s4, s5, f1, hd0, et, f2, e7]
   exact next (d + 1, vo, vu) (by show p + 1 - (d + 1) < p + 1 - d; omega) ⟨by simp only; omega, by simp only; omega, hE, by simp only; rw [if_pos (by omega)]; exact ho, by simp only; rw [if_neg (by omega)]; exact hu, s0, s3, s4, rfl⟩
 ·have hd' : d = p + 1 := by omega
  subst hd'
  have f1 : (((p + 1 : Nat) : Int) ≤ (p : Int)) = False := eq_false (by omega)
  rw [if_neg (by omega)] at ho
  rw [if_neg (by omega), phi_under] at hu
  have hpd := phi_div p hp
  rw [phi_under] at hpd
  have hlo1 := q7a [1] (pwP p)
  have hlo2 := pwP_len p
  simp only [List.length_cons, List.length_nil] at hlo1
  have hm : IntL 1 [-1, 1] := .of fun x hx => by
   simp at hx
   rcases hx with rfl | rfl
   ·exact ⟨rfl, by decide⟩
   ·exact ⟨rfl, by decide⟩
  simp -dsimp only [go_sem, s0, s3, s4, s5, f1]
  have hl : (pMul [1] (pwP p)).length ≤ 24 := by omega
  refine ob_y (r6_Div ho hu (by simp) (fun _ => by decide) (.int (phi_over p) hm (by decide) (q2p (k := 1) (by decide) (by decide)) (q2p (k := 70) (Nat.le_trans (Nat.mul_le_mul_left 2 (Nat.pow_le_pow_right (by decide) (show (pMul [1] (pwP p)).length + 1 ≤ 25 by omega))) (by decide)) (by decide))) (by omega) (by simp)) (by omega) ?_
  rintro v6 H6 hE6 hO6
  rw [hpd] at hO6
  simp -dsimp only [go_sem]
  exact ⟨hE.trans hE6, hO6⟩
theorem phiP_sm (p : Nat) : ∀ x ∈ phiP p, Sm 1024 x := fun x hx => by rw [List.eq_of_mem_replicate hx]; exact (⟨w0w (by decide), w0w (by decide)⟩ : Sm 1 (1 : Rat)).mono (by decide)
theorem phiP_form : ∀ p ∈ P9, formF (phiP p) = 0 := by decide +kernel
theorem q7z {p : Nat} (hp : p ∈ P9) (H : Heap) : q0m 22 [.int .i64 (p : Int)] H (fun v H' => FV H' v (phiP p)) := by
 refine q1n (by decide) Tryz.func22 rfl ?_
 intro lk hlk
 simp -dsimp only [go_sem]
 have hE1 := Ext.app H [⟨[.slice none 0 0], 1, false⟩]
 have hl1 := hE1.le
 refine ob_y (r47_Phi hp _) (by omega) ?_
 rintro v1 H1 hE2 ⟨a, rfl, hs⟩
 have hb : q0e H1 H.length = some ⟨[.slice none 0 0], 1, false⟩ := hE2.live (q0j _ _)
 simp -dsimp only [go_sem, hb, hlk]
 have hset : ∀ B : Blk, Ext H (H1.set H.length B) := fun B => (hE1.trans hE2).set (Nat.le_refl _) B
 have hb2 : ∀ c : Value, q0e (H1.set H.length ⟨[c], 1, false⟩) H.length = some ⟨[c], 1, false⟩ := fun c => q0x (q0w hb) rfl
 simp -dsimp only [go_sem, hb2]
 refine ⟨hset _, a, rfl, ?_⟩
 rcases hs with h | ⟨b, o, B, rfl, h2, h3, h4⟩
 ·exact .inl h
 ·refine .inr ⟨b, o, B, rfl, ?_, h3, h4⟩
  have h3 : B.sz = 3 := h3
  have : H.length ≠ b := by
   rintro rfl
   rw [hb] at h2
   injection h2 with h2
   rw [← h2] at h3
   simp at h3
  rw [q0t this]; exact h2
def w0e (p r : Nat) : List Rat := pMod (q3y 1 r) (phiP p)
theorem rt_sz (p r : Nat) (hp2 : 2 ≤ p) (hp : p ≤ 23) (hr : r < p) : DvOk (q3y 1 r) (phiP p) ∧ XdOk (q3y 1 r) (phiP p) := by
 have h2 := q6c 1 r
 have ht := q8x (p := p) (by omega)
 have hb : 1 < BB := q2p (k := 1) (by decide) (by decide)
 refine ⟨.int (w4m r) (q4m p) ht hb (q2p (k := 60) ?_ (by decide)), .int (w4m r) (q4m p) ht hb (q2p (k := 60) ?_ (by decide))⟩
 ·rw [Nat.one_mul]; exact Nat.le_trans (Nat.pow_le_pow_right (by decide) (show (q3y 1 r).length + 1 ≤ 25 by omega)) (by decide)
 ·rw [Nat.one_mul]; exact Nat.le_trans (Nat.pow_le_pow_right (by decide) (show (q3y 1 r).length - (phiP p).length + 1 ≤ 60 by omega)) (by decide)
theorem r47_Root {p : Nat} (hp : p ∈ P9) (k : Int) (H : Heap) : q0m 61 [.int .i64 (p : Int), .int .i64 k] H (fun v H' => OV H.length H' v (w0e p (k % (p : Int)).toNat)) := by
 obtain ⟨hp2, hp23⟩ := q3a hp
 refine q1n (by decide) Tryz.func61 rfl ?_
 intro lk hlk
 simp -dsimp only [go_sem]
 refine ob_y (q7z hp H) hlk ?_
 rintro v1 H1 hE1 hF
 have l1 := hE1.le
 have h1 := Int.emod_nonneg k (show (p : Int) ≠ 0 by omega)
 have h2 := Int.emod_lt_of_pos k (show 0 < (p : Int) by omega)
 obtain ⟨r, hr⟩ : ∃ r : Nat, (r : Int) = k % (p : Int) := ⟨(k % (p : Int)).toNat, by omega⟩
 have km := fun lk H' => r4_Mod lk H' k (p : Int) (by omega) (by omega)
 rw [← hr] at km ⊢
 have hrp : r < p := by omega
 simp -dsimp only [go_sem, r3_one, km]
 refine ob_y (q6z 1 r (by omega)) (by omega) ?_
 rintro v2 H2 hE2 hO2
 have l2 := hE2.le
 have hml := q6c 1 r
 simp -dsimp only [go_sem]
 refine ob_y (w2n (hF.ext hE2) hO2.lv (q5p (by omega)) (q3u p) (rt_sz p r hp2 hp23 hrp).1 (by rw [q1q]; omega) (by omega)) (by omega) ?_
 rintro v3 H3 hE3 ⟨a, rfl, hO3⟩
 simp -dsimp only [go_sem]
 exact ⟨hE1.trans (hE2.trans hE3), a, rfl, hO3.low (by omega)⟩
theorem q7c (l : List Int) : (mis l).length = l.length := by simp [mis]
theorem phi_pOf : ∀ p ∈ P9, pOf (mis (List.replicate p 1)) = phiP p := by decide +kernel
theorem p_cycField {p : Nat} (hp : p ∈ P9) (H : Heap) : q0m 90 [.int .i64 (p : Int)] H (fun v H' => FV H' v (phiP p)) := by
 obtain ⟨hp2, hp23⟩ := q3a hp
 refine q1n (by decide) Tryz.func90 rfl ?_
 intro lk hlk
 simp -dsimp only [go_sem]
 have hE1 := Ext.app H [⟨[.slice none 0 0], 1, false⟩]
 have hl1 := hE1.le
 refine ob_y (p_phi hp _) (by omega) ?_
 rintro v0 H0 hE0 hO0
 have hl0 := hE0.le
 simp -dsimp only [go_sem]
 refine ob_y (p_POf hO0.lv (by rw [q7c, List.length_replicate]; omega) (by intro x hx; simp [mis] at hx; rw [hx.2]; exact ⟨by decide, by decide⟩)) (by omega) ?_
 rintro v1 H1 hE2' ⟨a, rfl, hs⟩
 have hE2 := hE0.trans hE2'
 rw [phi_pOf p hp] at hs ⊢
 have hb : q0e H1 H.length = some ⟨[.slice none 0 0], 1, false⟩ := hE2.live (q0j _ _)
 simp -dsimp only [go_sem, hb, hlk]
 have hset : ∀ B : Blk, Ext H (H1.set H.length B) := fun B => (hE1.trans hE2).set (Nat.le_refl _) B
 have hb2 : ∀ c : Value, q0e (H1.set H.length ⟨[c], 1, false⟩) H.length = some ⟨[c], 1, false⟩ := fun c => q0x (q0w hb) rfl
 simp -dsimp only [go_sem, hb2]
 refine ⟨hset _, a, rfl, ?_⟩
 rcases hs with h | ⟨b, o, B, rfl, h2, h3, h4⟩
 ·exact .inl h
 ·refine .inr ⟨b, o, B, rfl, ?_, h3, h4⟩
  have h3 : B.sz = 3 := h3
  have : H.length ≠ b := by
   rintro rfl
   rw [hb] at h2
   injection h2 with h2
   rw [← h2] at h3
   simp at h3
  rw [q0t this]; exact h2
theorem p_conductors {p : Nat} (hp : p ∈ P9) (b : Nat) (H : Heap) (hb : q0e H b = some ⟨[.int .i64 (p : Int)], 1, false⟩) (lk : Nat) : q0c prog md lk 88 [.int .i64 24, .slice (some ⟨b, 0, none⟩) 1 1] H = some (.int .i64 0, H) := by
 obtain ⟨hp2, hp23⟩ := q3a hp
 refine q0a rfl Tryz.func88 rfl rfl ?_
 have f1 : ((p : Int) < 1) = False := eq_false (by omega)
 have f2 : (256 < (p : Int)) = False := eq_false (by omega)
 have e1 : IntKind.i64.wrap ((0 : Int) + 1) = 1 := by decide
 have c1 : ((1 : Int) < 1) = False := eq_false (by decide)
 have c0 : ((0 : Int) < 1) = True := eq_true (by decide)
 simp -dsimp only [go_sem]
 refine w4h ?_
 simp -dsimp only [go_sem, hb, f1, f2, e1, c0]
 refine w4h ?_
 simp -dsimp only [go_sem, c1]
 refine w4h ?_
 simp -dsimp only [go_sem, hb, c0]
 refine ob_y (p_units hp H) (Nat.le_refl _) ?_
 rintro v1 H1 hE1 ⟨a, rfl, hO⟩
 have hl : (mis (unitsL p)).length = p - 1 := by rw [q7c]; simp [unitsL]
 have f3 : (24 < ((p - 1 : Nat) : Int)) = False := eq_false (by omega)
 rw [hl]
 simp -dsimp only [go_sem, f3, e1]
 refine w4h ?_
 simp -dsimp only [go_sem, c1]
theorem p_cycFieldF {p : Nat} (hp : p ∈ P9) (H : Heap) : q0m 96 [.int .i64 (p : Int)] H (fun v H' => ∃ k, v = .tuple #[k, .int .i64 0] ∧ FV H' k (phiP p)) := by
 refine q1n (by decide) Tryz.func96 rfl ?_
 intro lk hlk
 simp -dsimp only [go_sem, reps]
 obtain ⟨H1, hH1⟩ : ∃ H1, H1 = H ++ [⟨[.slice none 0 0], 1, false⟩, ⟨[.int .i64 (p : Int)], 1, false⟩] := ⟨_, rfl⟩
 have hE1 : Ext H H1 := by rw [hH1]; exact Ext.app _ _
 have hl1 : H1.length = H.length + 2 := by rw [hH1]; simp
 have hb : q0e H1 (H.length + 1) = some ⟨[.int .i64 (p : Int)], 1, false⟩ := by rw [hH1, q2q]; rfl
 have hb0 : q0e H1 H.length = some ⟨[.slice none 0 0], 1, false⟩ := by rw [hH1, q9f]; rfl
 have kc := fun lk => p_conductors hp (H.length + 1) H1 hb lk
 rw [← hH1]
 simp -dsimp only [go_sem, kc]
 refine ob_y (p_cycField hp H1) (by omega) ?_
 rintro v1 H2 hE2 ⟨a, rfl, hs⟩
 have hb2 := hE2.live hb0
 simp -dsimp only [go_sem, hb2, hlk]
 have hb3 : ∀ c : Value, q0e (H2.set H.length ⟨[c], 1, false⟩) H.length = some ⟨[c], 1, false⟩ := fun c => q0x (q0w hb2) rfl
 simp -dsimp only [go_sem, hb3]
 refine ⟨(hE1.trans hE2).set (Nat.le_refl _) _, _, rfl, a, rfl, ?_⟩
 rcases hs with h | ⟨b, o, B, rfl, h2, h3, h4⟩
 ·exact .inl h
 ·refine .inr ⟨b, o, B, rfl, ?_, h3, h4⟩
  have h3 : B.sz = 3 := h3
  have : H.length ≠ b := by
   rintro rfl
   rw [hb2] at h2
   injection h2 with h2
   rw [← h2] at h3
   simp at h3
  rw [q0t this]; exact h2
theorem w0l {p : Nat} (hp : p ∈ P9) (H : Heap) : q0m 47 [.int .i64 (p : Int)] H (fun v H' => LV H' v (phiP p)) := by
 refine q1n (by decide) Tryz.func47 rfl ?_
 intro lk hlk
 simp -dsimp only [go_sem]
 refine ob_y (p_cycFieldF hp _) (by omega) ?_
 rintro v1 H1 hE1 ⟨k, rfl, a, rfl, hs⟩
 simp -dsimp only [go_sem]
 exact ⟨by have := hE1.le; omega, hE1.more _, a, rfl, (Ext.app _ _).sl hs⟩
def rootT (p r : Nat) : List Rat := if r + 1 < p then mapR (fun i => if i = r then 1 else 0) (r + 1) else List.replicate (p - 1) (-1)
theorem rootP_T : ∀ p ∈ P9, ∀ r, r < p → w0e p r = rootT p r := by decide +kernel
theorem q7x {p r : Nat} (hp : p ∈ P9) (hr : r < p) : IntL 1 (w0e p r) := by
 rw [rootP_T p hp r hr]
 refine .of fun x hx => ?_
 unfold rootT at hx
 split at hx
 ·obtain ⟨i, _, rfl⟩ := List.mem_map.1 hx
  split
  ·exact ⟨rfl, by decide⟩
  ·exact .zero
 ·rw [List.eq_of_mem_replicate hx]; exact ⟨rfl, by decide⟩
theorem q7w {p r : Nat} (hp : p ∈ P9) : (w0e p r).length ≤ p - 1 ∧ Nrm (w0e p r) := by
 have h2 := (q3a hp).1
 have := q4n (f := q3y 1 r) (q5p (p := p) (by omega)) (q3u p)
 rw [q1q] at this
 exact ⟨by unfold w0e; omega, this.2.2⟩
theorem mulM_int {p b : Nat} {f a : List Rat} (hp : p ∈ P9) (hf : IntL b f) (ha : IntL 1 a) (lf : f.length ≤ 22) (la : a.length ≤ 22) (hb : b * 2 ^ 78 < BB) : XmOk (phiP p) f a ∧ MulModOk (phiP p) f a ∧ IntL (b * 2 ^ 78) (pMulM (phiP p) f a) := by
 obtain ⟨hp2, hp23⟩ := q3a hp
 have ht := q8x (p := p) (by omega)
 have hB1 : 1 < BB := q2p (k := 1) (by decide) (by decide)
 have hml := q7a f a
 have h1 : 23 * (b * 1) ≤ b * 2 ^ 78 := by omega
 have hM : IntL (22 * b) (pMul f a) := (hf.mul ha).mono (by rw [Nat.mul_one]; exact Nat.mul_le_mul_right b lf)
 have hmo : MulOk f a := .int hf ha (by omega) hB1 (Nat.lt_of_le_of_lt (Nat.le_trans (Nat.mul_le_mul_right (b * 1) (show f.length + 1 ≤ 23 by omega)) h1) hb)
 have e2 : 22 * b * (1 + 2) ^ 46 ≤ b * 2 ^ 78 := by
  rw [Nat.mul_comm 22 b, Nat.mul_assoc]; exact Nat.mul_le_mul_left b (by decide)
 have e3 : 22 * b * (1 + 2) ^ ((pMul f a).length + 1) ≤ b * 2 ^ 78 := Nat.le_trans (Nat.mul_le_mul_left _ (Nat.pow_le_pow_right (by decide) (show (pMul f a).length + 1 ≤ 46 by omega))) e2
 have e4 : 22 * b * (1 + 1) ^ ((pMul f a).length - (phiP p).length + 1) ≤ b * 2 ^ 78 := by
  refine Nat.le_trans (Nat.mul_le_mul_left _ (Nat.pow_le_pow_right (by decide) (show (pMul f a).length - (phiP p).length + 1 ≤ 46 by omega))) (Nat.le_trans (Nat.mul_le_mul_left _ (Nat.pow_le_pow_left (by decide : 1 + 1 ≤ 1 + 2) 46)) e2)
 refine ⟨⟨hmo, .int hM (q4m p) ht hB1 (Nat.lt_of_le_of_lt e4 hb)⟩, ⟨hmo, .int hM (q4m p) ht hB1 (Nat.lt_of_le_of_lt e3 hb)⟩, ?_⟩
 exact (pMod_int hM (q4m p) ht).2.mono e3
structure Elm (p : Nat) (f : List Rat) : Prop where
 n : Nrm f
 l : f.length ≤ p - 1
 b : IntL (2 ^ 100) f
section
variable {lk : Nat} {H0 H : Heap} {a : Option Addr} {l : List MI} {n : Nat}
theorem te_ints : q0z prog 71 = some 3 := by simp only [go_sem]
theorem ap_mi (hO : Own H0.length H a l) (hlk : lk ≤ H0.length) (hn : n = l.length) (hle : n ≤ 1000000) (z : Int) :
  q2u prog lk (H ++ [⟨[.int .i64 z], 1, false⟩]) 71 71 (.slice a n n) (.slice (some ⟨H.length, 0, none⟩) 1 1) = some (.slice (some ⟨H.length + 1, 0, none⟩) (n + 1) (n + 1), kill (H ++ [⟨[.int .i64 z], 1, false⟩]) a ++ [⟨q0g l ++ [.int .i64 z], 1, false⟩]) := by
 have := ap_ownN (P := prog) (lk := lk) (t := 71) (t2 := 71) hO hlk hn [⟨[.int .i64 z], 1, false⟩] 0 [.int .i64 z] 1 rfl rfl rfl
 refine this.trans ?_
 rw [te_ints]
 simp only [go_sem]
 rw [if_pos (by omega)]
theorem own_mi (hE : Ext H0 H) (hO : Own H0.length H a l) (z : Int) (N : List Blk) : Own H0.length (kill (H ++ N) a ++ [⟨q0g l ++ [.int .i64 z], 1, false⟩]) (some ⟨H.length + N.length, 0, none⟩) (l ++ [⟨z⟩]) :=
 q9p (lo := H0.length) (H := H) (a := a) (l := l) ⟨z⟩ N (by have := hE.le; omega)
theorem ext_mi (hE : Ext H0 H) (hO : Own H0.length H a l) (N M : List Blk) : Ext H0 (kill (H ++ N) a ++ M) := ((hO.more N).kill (hE.more N)).more M
end
def subF (p : Int) (f i : Nat) : List Int := ((List.range i).filter (q7n p f)).map fun h : Nat => (h : Int)
theorem subF_zero (p : Int) (f : Nat) : subF p f 0 = [] := rfl
theorem q6o (p : Int) (f i : Nat) : subF p f (i + 1) = if q7n p f i = true then subF p f i ++ [(i : Int)] else subF p f i := by
 unfold subF
 rw [List.range_succ, List.filter_append, List.map_append]
 by_cases h : q7n p f i = true
 ·rw [if_pos h]; simp [h]
 ·rw [if_neg h]; simp [h]
theorem subF_len (p : Int) (f i : Nat) : (subF p f i).length ≤ i := by
 unfold subF
 rw [List.length_map]
 exact Nat.le_trans (List.length_filter_le _ _) (by simp)
theorem subF_end (p f : Nat) (i : Nat) (h : p ≤ i) : subF p f i = subF p f p := by
 induction i with
 | zero => have : p = 0 := by omega
           subst this; rfl
 | succ i ih =>
  by_cases hp : p = i + 1
  ·rw [hp]
  ·rw [q6o, if_neg, ih (by omega)]
   unfold q7n
   rw [decide_eq_true_eq]
   rintro ⟨_, h2, _⟩
   omega
theorem subF_zero1 (p : Int) (f : Nat) : subF p f 1 = [] := by
 rw [q6o, if_neg]
 ·rfl
 ·unfold q7n; rw [decide_eq_true_eq]; rintro ⟨h, _⟩; omega
theorem mis_app (l r : List Int) : mis (l ++ r) = mis l ++ mis r := by simp [mis]
def subL (p f : Nat) : List Int := subF p f p
theorem ckB_zero {p f : Int} (h : pCkB p f = 0) : 2 ≤ p ∧ p ≤ 23 ∧ p.toNat ∈ P9 ∧ 1 ≤ f ∧ (p - 1).tmod f = 0 := by
 unfold pCkB at h
 by_cases h0 : pCk p = 0
 ·rw [if_neg (fun h => h h0)] at h
  obtain ⟨h1, h2, h3⟩ := pCk_zero h0
  by_cases h4 : f < 1 ∨ (p - 1).tmod f ≠ 0
  ·rw [if_pos h4] at h; omega
  ·refine ⟨h1, h2, pr9 h3 (by omega), by omega, ?_⟩
   exact Classical.byContradiction fun h5 => h4 (.inr h5)
 ·rw [if_pos h0] at h; exact absurd h h0
theorem gcall_own_ex' {g : FuncId} {fn : Func} {body : Code} {args : List Value} {H : Heap} (hm : md g = 2) (hg : prog.funcs[g]? = some fn) (hb : fn.body = some body) {R : Value → List Blk → Prop} (h : Runs prog md H.length body (q4j args) H (Ends prog fn fun u H' => ∃ v N, q4i H' H.length u = some (v, N) ∧ R v N)) (R' : Value → Heap → Prop) (hr : ∀ v N, R v N → R' v (H ++ N)) : q0m g args H R' := by
 intro lk _
 obtain ⟨v, N, h1, h2⟩ := q3m (lk := lk) hm hg hb h
 exact ⟨v, H ++ N, h1, Ext.app _ _, hr v N h2⟩
theorem p_SubgroupOk {p f : Nat} (hp : p ∈ P9) (hf : 1 ≤ f) (hf2 : f ≤ 9223372036854775807) (hc : pCkB p f = 0) (H : Heap) : q0m 32 [.int .i64 (p : Int), .int .i64 (f : Int)] H (fun v H' => ∃ w, v = .tuple #[w, .int .i64 0] ∧ LV H' w (mis (subL p f))) := by
 obtain ⟨hp2, hp23⟩ := q3a hp
 have hk := fun lk H' => q4e lk H' (p : Int) (f : Int)
 rw [hc] at hk
 refine gcall_own_ex' (R := fun v N => ∃ w, v = .tuple #[w, .int .i64 0] ∧ LV (H ++ N) w (mis (subL p f))) rfl Tryz.func32 rfl ?_ _ (fun v N h => h)
 have hsub := fun lk H' => p_subgroup lk H' (p : Int) f (by omega) (by omega) hf2
 simp -dsimp only [go_sem, hk, hsub]
 refine q0h (m := fun (s : Nat × Option Addr) => 24 - s.1) (I := fun s σ H' => s.1 ≤ 24 ∧ Ext H H' ∧ Own H.length H' s.2 (mis (subF p f s.1)) ∧ (s.2 = none ↔ mis (subF p f s.1) = []) ∧ σ 7 = .slice s.2 (subF p f s.1).length (subF p f s.1).length ∧ σ 18 = .agg (List.toArray (q3s p f 24)) ∧ σ 19 = .int .i64 (s.1 : Int)) (0, none) ⟨by simp only; omega, Ext.refl _, Own.nil, by simp [subF_zero, mis], rfl, rfl, rfl⟩ ?_
 rintro ⟨i, c⟩ σ H' ⟨h1, hE, hO, hN, s7, s18, s19⟩
 simp only at h1 hO hN s7 s19
 have hlen : (subF (p : Int) f i).length = (mis (subF p f i)).length := (q7c _).symm
 by_cases hi : i < 24
 ·have f1 : ((i : Int) < 24) = True := eq_true (by omega)
  have e7 := q1m hi (by omega)
  have hg := subTo_get (p : Int) f i hi
  have hi0 : (0 ≤ (i : Int)) = True := eq_true (by omega)
  have e1 : ((i : Int)).toNat = i := by omega
  have hle := subF_len (p : Int) f i
  cases hs : q7n (p : Int) f i with
  | false =>
   rw [hs] at hg
   have hst : subF (p : Int) f (i + 1) = subF p f i := by rw [q6o, if_neg (by rw [hs]; decide)]
   simp -dsimp only [go_sem, s7, s18, s19, f1, hi0, e1, hg, e7]
   exact ⟨by omega, next (i + 1, c) (by show 24 - (i + 1) < 24 - i; omega) ⟨hi, hE, by rw [hst]; exact hO, by rw [hst]; exact hN, by rw [hst]; exact s7, s18, rfl⟩⟩
  | true =>
   rw [hs] at hg
   have hst : subF (p : Int) f (i + 1) = subF p f i ++ [(i : Int)] := by rw [q6o, if_pos hs]
   have hap := ap_mi (lk := H.length) hO (Nat.le_refl _) hlen (by omega) (i : Int)
   have hO2 := own_mi hE hO (i : Int) [⟨[.int .i64 (i : Int)], 1, false⟩]
   have hst2 : mis (subF (p : Int) f (i + 1)) = mis (subF p f i) ++ [⟨(i : Int)⟩] := by rw [hst, mis_app]; rfl
   have hst3 : (subF (p : Int) f (i + 1)).length = (subF (p : Int) f i).length + 1 := by rw [hst, List.length_append]; rfl
   rw [← hst2] at hO2
   simp -dsimp only [go_sem, s7, s18, s19, f1, hi0, e1, hg, e7, reps, hap]
   exact ⟨by omega, next (i + 1, _) (by show 24 - (i + 1) < 24 - i; omega) ⟨hi, ext_mi hE hO _ _, hO2, by rw [hst2]; simp, by rw [hst3]; rfl, s18, rfl⟩⟩
 ·have hi' : i = 24 := by omega
  subst hi'
  have f1 : (((24 : Nat) : Int) < 24) = False := eq_false (by omega)
  have hL : subF (p : Int) f 24 = subL p f := subF_end p f 24 (by omega)
  rw [hL] at hO hN s7
  simp -dsimp only [go_sem, s7, s18, s19, f1]
  rcases hO with ⟨rfl, h2⟩ | ⟨b, rfl, h2, h3⟩
  ·have h0 : (subL p f).length = 0 := by rw [← q7c, h2]; rfl
   refine ⟨.tuple #[.slice none 0 0, .int .i64 0], [], ?_, _, rfl, none, by rw [h2]; rfl, .inl ⟨rfl, h2⟩⟩
   rw [h0]; rfl
  ·have hcl : (q0g (mis (subL p f))).length = (subL p f).length * 1 := by rw [q1l, q7c]; rfl
   have hkok : (q0g (mis (subL p f))).all kok0 = true := w1y (fun x => rfl) _
   have htk : (q0g (mis (subL p f))).take ((subL p f).length * 1) = q0g (mis (subL p f)) := List.take_of_length_le (by rw [hcl]; exact Nat.le_refl _)
   refine ⟨.tuple #[.slice (some ⟨H.length, 0, none⟩) (subL p f).length (subL p f).length, .int .i64 0], [⟨q0g (mis (subL p f)), 1, false⟩], ?_, _, rfl, some ⟨H.length, 0, none⟩, by rw [q7c], SL.blk (by rw [q0j]; rfl)⟩
   have h3' : q0e H' b = some ⟨q0g (mis (subL p f)), 1, false⟩ := h3
   simp only [q4i, q6d, w1w, q2f, if_neg (Nat.not_lt.2 h2), h3', List.drop_zero, htk, hkok]
   rw [if_pos (by refine ⟨trivial, by rw [hcl, Nat.zero_add]; exact Nat.le_refl _, by simp, by simp⟩)]
   rfl
theorem r48_Subgroup {p f : Nat} (hp : p ∈ P9) (hf2 : f ≤ 9223372036854775807) (H : Heap) : q0m 35 [.int .i64 (p : Int), .int .i64 (f : Int)] H (fun v H' => OV H.length H' v (mis (subL p f))) := by
 obtain ⟨hp2, hp23⟩ := q3a hp
 refine q1n (by decide) Tryz.func35 rfl ?_
 intro lk hlk
 simp -dsimp only [go_sem]
 refine q0h (m := fun (s : Nat × Option Addr) => p - s.1) (I := fun s σ H' => 1 ≤ s.1 ∧ s.1 ≤ p ∧ Ext H H' ∧ Own H.length H' s.2 (mis (subF p f s.1)) ∧ σ 0 = .int .i64 (p : Int) ∧ σ 1 = .int .i64 (f : Int) ∧ σ 5 = .slice s.2 (subF p f s.1).length (subF p f s.1).length ∧ σ 6 = .int .i64 (s.1 : Int)) (1, none) ⟨Nat.le_refl _, by simp only; omega, Ext.refl _, by rw [subF_zero1]; exact Own.nil, rfl, rfl, by rw [subF_zero1]; rfl, rfl⟩ ?_
 rintro ⟨i, c⟩ σ H' ⟨h0, h1, hE, hO, s0, s1, s5, s6⟩
 simp only at h0 h1 hO s5 s6
 have hlen : (subF (p : Int) f i).length = (mis (subF p f i)).length := (q7c _).symm
 by_cases hi : i < p
 ·have f1 := ltI hi
  have e7 := q1m hi (by omega)
  have hpow := fun lk H' => r4_Pow lk H' (i : Int) (p : Int) f hf2 (by omega) (by omega)
  have hle := subF_len (p : Int) f i
  have hsub : decide (pwm (p : Int) ((1 : Int).tmod p) ((i : Int) % p) f = 1) = q7n p f i := by
   unfold q7n
   exact decide_eq_decide.2 ⟨fun h => ⟨h0, by omega, h⟩, fun h => h.2.2⟩
  cases hs : q7n (p : Int) f i with
  | false =>
   rw [hs] at hsub
   have hst : subF (p : Int) f (i + 1) = subF p f i := by rw [q6o, if_neg (by rw [hs]; decide)]
   simp -dsimp only [go_sem, s0, s1, s5, s6, f1, hpow, hsub, e7]
   exact next (i + 1, c) (by show p - (i + 1) < p - i; omega) ⟨by simp only; omega, hi, hE, by rw [hst]; exact hO, s0, s1, by rw [hst]; exact s5, rfl⟩
  | true =>
   rw [hs] at hsub
   have hst : subF (p : Int) f (i + 1) = subF p f i ++ [(i : Int)] := by rw [q6o, if_pos hs]
   have hap := ap_mi (lk := lk) hO hlk hlen (by omega) (i : Int)
   have hO2 := own_mi hE hO (i : Int) [⟨[.int .i64 (i : Int)], 1, false⟩]
   have hst2 : mis (subF (p : Int) f (i + 1)) = mis (subF p f i) ++ [⟨(i : Int)⟩] := by rw [hst, mis_app]; rfl
   have hst3 : (subF (p : Int) f (i + 1)).length = (subF (p : Int) f i).length + 1 := by rw [hst, List.length_append]; rfl
   rw [← hst2] at hO2
   simp -dsimp only [go_sem, s0, s1, s5, s6, f1, hpow, hsub, reps, hap, e7]
   exact next (i + 1, _) (by show p - (i + 1) < p - i; omega) ⟨by simp only; omega, hi, ext_mi hE hO _ _, hO2, s0, s1, by rw [hst3]; rfl, rfl⟩
 ·have hi' : i = p := by omega
  subst hi'
  have f1 := nltI i
  simp -dsimp only [go_sem, s0, s1, s5, s6, f1]
  exact ⟨hE, c, by rw [q7c]; rfl, hO⟩
def w3w (p f a : Nat) : Nat → List Rat
 | 0 => []
 | i + 1 => pAdd (w3w p f a i) (w0e p ((a * ((subL p f).getD i 0).toNat) % p))
def perR (p f a : Nat) : List Rat := w3w p f a (subL p f).length
theorem perRL_int {p : Nat} (hp : p ∈ P9) (f a : Nat) : ∀ i, IntL i (w3w p f a i)
 | 0 => fun i => by rw [show w3w p f a 0 = [] from rfl, q2a (by simp)]; exact .zero
 | i + 1 => (perRL_int hp f a i).add (q7x hp (Nat.mod_lt _ (by have := (q3a hp).1; omega)))
theorem perRL_len {p : Nat} (hp : p ∈ P9) (f a : Nat) : ∀ i, (w3w p f a i).length ≤ p - 1
 | 0 => Nat.zero_le _
 | i + 1 => by
  have h1 := w0n (w3w p f a i) (w0e p ((a * ((subL p f).getD i 0).toNat) % p))
  have h2 := perRL_len hp f a i
  have h3 := (q7w (r := (a * ((subL p f).getD i 0).toNat) % p) hp).1
  have h4 : (w3w p f a (i + 1)).length ≤ max (w3w p f a i).length (w0e p ((a * ((subL p f).getD i 0).toNat) % p)).length := h1
  omega
theorem subL_mem {p f : Nat} {x : Int} (h : x ∈ subL p f) : 1 ≤ x ∧ x < p := by
 unfold subL subF at h
 obtain ⟨n, hn, rfl⟩ := List.mem_map.1 h
 have := (List.mem_filter.1 hn).2
 unfold q7n at this
 rw [decide_eq_true_eq] at this
 omega
theorem r48_Period {p f : Nat} (hp : p ∈ P9) (hf2 : f ≤ 9223372036854775807) (a : Int) (H : Heap) : q0m 36 [.int .i64 (p : Int), .int .i64 (f : Int), .int .i64 a] H (fun v H' => LV H' v (perR p f (a % (p : Int)).toNat)) := by
 obtain ⟨hp2, hp23⟩ := q3a hp
 have m1 := Int.emod_nonneg a (show (p : Int) ≠ 0 by omega)
 have m2 := Int.emod_lt_of_pos a (show 0 < (p : Int) by omega)
 obtain ⟨r, hr⟩ : ∃ r : Nat, (r : Int) = a % (p : Int) := ⟨(a % (p : Int)).toNat, by omega⟩
 have km := fun lk H' => r4_Mod lk H' a (p : Int) (by omega) (by omega)
 rw [← hr] at km ⊢
 rw [Int.toNat_natCast]
 have hrp : r < p := by omega
 refine q1n (by decide) Tryz.func36 rfl ?_
 intro lk hlk
 simp -dsimp only [go_sem]
 refine ob_y (r48_Subgroup hp hf2 H) hlk ?_
 rintro v1 H1 hE1 ⟨b, rfl, hs⟩
 simp -dsimp only [go_sem]
 have hll : (mis (subL p f)).length = (subL p f).length := q7c _
 have hsl : (subL p f).length ≤ p := subF_len _ _ _
 rw [hll]
 obtain ⟨n, hn⟩ : ∃ n, n = (subL p f).length := ⟨_, rfl⟩
 unfold perR
 rw [← hn]
 refine q0h (m := fun (s : Nat × Value) => n - s.1) (I := fun s σ H' => s.1 ≤ n ∧ Ext H H' ∧ Ext H1 H' ∧ LV H' s.2 (w3w p f r s.1) ∧ σ 0 = .int .i64 (p : Int) ∧ σ 2 = .int .i64 a ∧ σ 8 = .slice b n n ∧ σ 7 = s.2 ∧ σ 9 = .int .i64 (s.1 : Int)) (0, .slice none 0 0) ⟨Nat.zero_le _, hE1, Ext.refl _, LV.nil, rfl, rfl, rfl, rfl, rfl⟩ ?_
 rintro ⟨i, vo⟩ σ H' ⟨g1, hE, hE', hO, s0, s2, s8, s7, s9⟩
 simp only at g1 hO s7 s9
 have hlo := hE.le
 by_cases hi : i < n
 ·have f1 := ltI hi
  have e7 := q1m hi (by omega)
  have hi2 : i < (mis (subL p f)).length := by rw [hll]; omega
  obtain ⟨bb, o, B, rfl, hB, hz, hg⟩ := hs.sl.mi i hi2
  have hB' := hE'.live hB
  have hv : (mis (subL p f))[i].v = (subL p f).getD i 0 := by simp [mis, List.getD_eq_getElem?_getD, show i < (subL p f).length by omega]
  have hmem : (subL p f).getD i 0 ∈ subL p f := by
   rw [List.getD_eq_getElem?_getD, List.getElem?_eq_getElem (by omega)]; exact List.getElem_mem _
  obtain ⟨b1, b2⟩ := subL_mem hmem
  rw [hv] at hg
  generalize hx : (subL p f).getD i 0 = x at hg b1 b2
  obtain ⟨y, rfl⟩ : ∃ y : Nat, x = (y : Int) := ⟨x.toNat, by omega⟩
  have hyp : y < p := by omega
  have hry : r * y ≤ 23 * 23 := Nat.mul_le_mul (by omega) (by omega)
  have e8 : IntKind.i64.wrap ((r : Int) * (y : Int)) = ((r * y : Nat) : Int) := by rw [← Int.natCast_mul, w64 (by omega) (by omega)]
  simp -dsimp only [go_sem, s0, s2, s8, s7, s9, f1, km, hB', hz, hi, hg, e8]
  refine ob_y (r47_Root hp ((r * y : Nat) : Int) H') (Nat.le_refl _) ?_
  rintro v3 H3 hE3 hv3
  have em : ((((r * y : Nat) : Int)) % (p : Int)).toNat = (r * y) % p := by rw [← Int.natCast_emod]; rfl
  rw [em] at hv3
  have hmp : (r * y) % p < p := Nat.mod_lt _ (by omega)
  have l3 := hE3.le
  have hpl := perRL_len hp f r i
  have hrl := (q7w (r := (r * y) % p) hp).1
  simp -dsimp only [go_sem, s0, s2, s8, s7, s9]
  refine ob_y (r6_Add (hO.ext hE3) hv3.lv ((perRL_int hp f r i).szL (q2p (k := 10) (by omega) (by decide))) ((q7x hp hmp).szL (q2p (k := 1) (by decide) (by decide))) (by omega) (by omega)) (Nat.le_refl _) ?_
  rintro v4 H4 hE4 hO4
  simp -dsimp only [go_sem, s0, s2, s8, s7, s9, e7]
  have hst : pAdd (w3w p f r i) (w0e p ((r * y) % p)) = w3w p f r (i + 1) := by rw [w3w, hx]; rfl
  rw [hst] at hO4
  exact next (i + 1, v4) (by show n - (i + 1) < n - i; omega) ⟨hi, hE.trans (hE3.trans hE4), hE'.trans (hE3.trans hE4), hO4.lv, s0, s2, s8, rfl, rfl⟩
 ·have hi' : i = n := by omega
  subst hi'
  have f1 := nltI i
  simp -dsimp only [go_sem, s0, s2, s8, s7, s9, f1]
  exact ⟨hE, hO⟩
end Gx
end
section
/- Polynomials up to multiples of 1 + x + .. + x^(p-1); what an automorphism does. -/
set_option autoImplicit false
namespace Gx
open A
def Cg (p : Nat) (F G : Nat → Rat) : Prop := ∃ m q, Below m q ∧ ∀ k, F k = conv q (qf (phiP p)) k + G k
theorem Cg.of {p : Nat} {F G : Nat → Rat} (h : ∀ k, F k = G k) : Cg p F G := ⟨0, fun _ => 0, fun _ _ => rfl, fun k => by rw [conv_nil, h]; exact (Rat.zero_add _).symm⟩
theorem Cg.trans {p : Nat} {F G K : Nat → Rat} (h1 : Cg p F G) (h2 : Cg p G K) : Cg p F K := by
 obtain ⟨m, q, hq, e⟩ := h1
 obtain ⟨n, r, hr, e2⟩ := h2
 refine ⟨max m n, fun i => q i + r i, fun i hi => ?_, fun k => ?_⟩
 ·simp only []
  rw [hq i (by omega), hr i (by omega)]; exact Rat.add_zero _
 ·rw [conv_add, e, e2]; grind
theorem Cg.symm {p : Nat} {F G : Nat → Rat} (h : Cg p F G) : Cg p G F := by
 obtain ⟨m, q, hq, e⟩ := h
 refine ⟨m, fun i => (-1) * q i, fun i hi => ?_, fun k => ?_⟩
 ·simp only []
  rw [hq i hi]; exact Rat.mul_zero _
 ·rw [conv_mul, e]; grind
theorem Cg.add {p : Nat} {F G F' G' : Nat → Rat} (h1 : Cg p F G) (h2 : Cg p F' G') : Cg p (fun k => F k + F' k) (fun k => G k + G' k) := by
 obtain ⟨m, q, hq, e⟩ := h1
 obtain ⟨n, r, hr, e2⟩ := h2
 refine ⟨max m n, fun i => q i + r i, fun i hi => ?_, fun k => ?_⟩
 ·simp only []
  rw [hq i (by omega), hr i (by omega)]; exact Rat.add_zero _
 ·simp only []
  rw [conv_add, e, e2]; grind
theorem Cg.conv {p m : Nat} {F G h : Nat → Rat} (h1 : Cg p F G) (hh : Below m h) : Cg p (A.conv F h) (A.conv G h) := by
 obtain ⟨n, q, hq, e⟩ := h1
 refine ⟨n + m - 1, A.conv q h, Below.conv hq hh, fun k => ?_⟩
 rw [conv_congr (a := F) (b := h) (c := fun i => A.conv q (qf (phiP p)) i + G i) (d := h) (fun i _ => e i) (fun _ _ => rfl), conv_add, conv_assoc, conv_assoc]
 congr 1
 exact conv_congr (fun _ _ => rfl) (fun i _ => conv_comm _ _ i)
theorem Cg.uniq {p : Nat} (hp : 0 < p) {f : List Rat} {r : Nat → Rat} (h : Cg p (qf f) r) (hr : Below (p - 1) r) (k : Nat) : qf (pMod f (phiP p)) k = r k := by
 obtain ⟨m, q, hq, e⟩ := h
 exact (w3n (q5p hp) (q3u p) hq (by rw [q1q]; exact hr) fun k => (e k).symm).2 k
theorem phi_get (p k : Nat) : qf (phiP p) k = if k < p then 1 else 0 := by
 split
 ·rename_i h; exact phiP_get p k h
 ·rename_i h; exact q2a (by rw [q1q]; omega)
theorem Cg.wrap {p m : Nat} (hp : 0 < p) {G : Nat → Rat} (hG : Below m G) : Cg p (fun k => if p ≤ k then G (k - p) else 0) G := by
 have key : Cg p (fun k => if k = p then 1 else 0) (fun k => if k = 0 then 1 else 0) := by
  refine ⟨2, fun i => (if i = 1 then 1 else 0) - (if i = 0 then 1 else 0), fun i hi => ?_, fun k => ?_⟩
  ·simp only []
   rw [if_neg (by omega), if_neg (by omega)]; decide +kernel
  ·rw [conv_sub, conv_shift, conv_shift, phi_get, phi_get]
   dsimp only
   by_cases h0 : k = 0
   ·subst h0
    rw [if_neg (by omega : ¬ 0 = p), if_neg (by omega), if_pos (Nat.zero_le _), if_pos (by omega), if_pos rfl]; decide +kernel
   ·by_cases h1 : k = p
    ·rw [if_pos h1, if_pos (by omega), if_pos (Nat.zero_le _), if_pos (by omega), if_neg (by omega), if_neg h0]; decide +kernel
    ·by_cases h2 : k < p
     ·rw [if_neg h1, if_pos (by omega), if_pos (Nat.zero_le _), if_pos (by omega), if_pos (by omega), if_neg h0]; decide +kernel
     ·rw [if_neg h1, if_pos (by omega), if_pos (Nat.zero_le _), if_neg (by omega), if_neg (by omega), if_neg h0]; decide +kernel
 have h2 := key.conv hG
 refine (Cg.of fun k => ?_).trans (h2.trans (Cg.of fun k => ?_))
 ·rw [conv_shift]
  split
  ·exact (Rat.one_mul _).symm
  ·rfl
 ·exact conv_one G k
def Zc (p : Nat) (c : Nat → Rat) : Nat → Rat := fun k => if k < p then c k else 0
def Ec (p : Nat) (c : Nat → Rat) : Nat → Rat := fun k => if k < p - 1 then c k - c (p - 1) else 0
theorem Zc_below (p : Nat) (c : Nat → Rat) : Below p (Zc p c) := fun i hi => if_neg (by omega)
theorem Ec_below (p : Nat) (c : Nat → Rat) : Below (p - 1) (Ec p c) := fun i hi => if_neg (by omega)
theorem Cg.red {p : Nat} (hp : 0 < p) (c : Nat → Rat) : Cg p (Zc p c) (Ec p c) := by
 refine ⟨1, fun i => if i = 0 then c (p - 1) else 0, fun i hi => if_neg (by omega), fun k => ?_⟩
 rw [conv_shift, if_pos (Nat.zero_le _), phi_get]
 unfold Zc Ec
 by_cases h1 : k < p - 1
 ·rw [if_pos (by omega), if_pos (by omega), if_pos h1]; grind
 ·by_cases h2 : k < p
  ·rw [if_pos h2, if_pos (by omega), if_neg h1]
   have : k = p - 1 := by omega
   rw [this]; grind
  ·rw [if_neg h2, if_neg (by omega), if_neg h1]; grind
theorem Cg.rot {p a : Nat} (ha : a < p) (c : Nat → Rat) : Cg p (A.conv (fun i => if i = a then 1 else 0) (Zc p c)) (Zc p fun k => c ((k + (p - a)) % p)) := by
 have h := Cg.wrap (p := p) (m := p) (by omega) (G := fun k => if k < a then c (k + (p - a)) else 0) (fun i hi => if_neg (by omega))
 have h2 := h.add (Cg.of (p := p) (F := fun k => if a ≤ k ∧ k < p then c (k - a) else 0) fun _ => rfl)
 refine (Cg.of fun k => ?_).trans (h2.trans (Cg.of fun k => ?_))
 ·rw [conv_shift]
  unfold Zc
  by_cases h1 : a ≤ k
  ·rw [if_pos h1]
   by_cases h2 : p ≤ k
   ·rw [if_pos h2, if_neg (by omega : ¬(a ≤ k ∧ k < p))]
    by_cases h3 : k - a < p
    ·rw [if_pos h3, if_pos (by omega)]
     rw [show k - p + (p - a) = k - a by omega]; grind
    ·rw [if_neg h3, if_neg (by omega)]; grind
   ·rw [if_neg h2, if_pos (by omega), if_pos (by omega)]; grind
  ·rw [if_neg h1, if_neg (by omega), if_neg (by omega)]; grind
 ·unfold Zc
  dsimp only
  by_cases h1 : k < p
  ·rw [if_pos h1]
   by_cases h2 : k < a
   ·rw [if_pos h2, if_neg (by omega), Nat.mod_eq_of_lt (by omega)]; grind
   ·rw [if_neg h2, if_pos (by omega)]
    rw [show k + (p - a) = (k - a) + p by omega, Nat.add_mod_right, Nat.mod_eq_of_lt (by omega)]; grind
  ·rw [if_neg h1, if_neg (by omega), if_neg (by omega)]; grind
theorem qf_pMono (a k : Nat) : qf (q3y 1 a) k = if k = a then 1 else 0 := by rw [w0k]
end Gx
end
