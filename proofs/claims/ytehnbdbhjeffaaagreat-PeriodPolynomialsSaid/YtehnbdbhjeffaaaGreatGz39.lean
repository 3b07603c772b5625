/- period.periods, told by hand: its regions by the interpreter, its rounds over the list of the powers. -/
import Derived.Test.YtehnbdbhjeffaaaGreatGz4
import Derived.Test.YtehnbdbhjeffaaaGreatGz38
import Derived.Shelf.Abstract
set_option linter.all false
section
set_option autoImplicit false
namespace Gx
open Go Go.RowKit Go.Proofs
def q9m : Code → Array Oper
 | .region _ ops _ => ops
 | _ => #[]
def fst1 : Code → Code
 | .seq a _ => a
 | .block _ a => a
 | .rangeFunc _ _ a _ => a
 | c => c
def snd1 : Code → Code
 | .seq _ b => b
 | .rangeFunc _ _ _ b => b
 | c => c
noncomputable def perB : Code := match Tryz.f49.body with
 | some c => c
 | none => .skip
noncomputable def perF : Code := fst1 (snd1 (fst1 (snd1 (snd1 perB))))
noncomputable def perR0 : Array Oper := q9m (fst1 perB)
noncomputable def perR1 : Array Oper := q9m (fst1 (snd1 perB))
noncomputable def perR2 : Array Oper := q9m (fst1 (fst1 (snd1 (snd1 perB))))
noncomputable def perR3 : Array Oper := q9m (fst1 perF)
noncomputable def w2p : Array Oper := q9m (fst1 (snd1 perF))
noncomputable def perR5 : Array Oper := q9m (fst1 (snd1 (snd1 (snd1 perB))))
theorem per_body : Tryz.f49.body = some (.seq (.region 0 perR0 false) (.seq (.region 1 perR1 false) (.seq (.seq (.region 2 perR2 true) (.block 0 (.rangeFunc (.tmp 12) #[13] (.region 3 perR3 false) (.block 1 (.region 4 w2p true))))) (.seq (.region 5 perR5 false) .ret)))) := rfl
def rnds (P : Program) (call : q0l) (lk : Nat) (ops : Array Oper) (σ : Env) : List Int → Heap → Option Heap
 | [], H => some H
 | x :: xs, H => (iops P call lk true ops ops.toList (upd (upd σ 13 (.int .i64 x)) 6 (.int .i64 x)) H).bind fun r => rnds P call lk ops σ xs r.2
structure ItV where
 b1 : Nat
 o1 : Nat
 b2 : Nat
 o2 : Nat
 p : Int
 n : Nat
noncomputable def itVal (v : Value) (H : Heap) : Option ItV := match v with
 | .func (.func gf) first cap => if gf = 153 ∧ first = #[] then match cap.toList with
  | [.pointer (some ⟨b1, o1, none⟩), .pointer (some ⟨b2, o2, none⟩)] => match q2n Tryz.prog H 3 (.pointer (some ⟨b1, o1, none⟩)), q2n Tryz.prog H 3 (.pointer (some ⟨b2, o2, none⟩)) with
   | some (.int .i64 p), some (.int .i64 n) => if p ≠ 0 ∧ 0 ≤ n ∧ n ≤ 9223372036854775806 then some ⟨b1, o1, b2, o2, p, n.toNat⟩ else none
   | _, _ => none
  | _ => none else none
 | _ => none
def prVal (r : Option (Value × Heap)) : Option (Int × IntKind × Int) := match r with
 | some (.tuple vs, _) => match vs.toList with
  | [.int .i64 g, .int k e] => some (g, k, e)
  | _ => none
 | _ => none
open Classical in
noncomputable def q9o : q0l → q0l := fun call lk g args H =>
 if g = 49 then
 (iops Tryz.prog call lk false perR0 perR0.toList (q4j args) H).bind fun r0 =>
 (iops Tryz.prog call lk false perR1 perR1.toList r0.1 r0.2).bind fun r1 =>
 (iops Tryz.prog call lk true perR2 perR2.toList r1.1 r1.2).bind fun r2 =>
 (itVal (r2.1 12) r2.2).bind fun q =>
 (prVal (call 0 154 [.int .i64 q.p] [])).bind fun g =>
 if ∀ ys : List Int, (∀ y ∈ ys, y ∈ pw g.1 q.p q.n 1) → ys.length ≤ q.n → ∃ Hk, rnds Tryz.prog call lk w2p r2.1 ys r2.2 = some Hk ∧ q2n Tryz.prog Hk 3 (.pointer (some ⟨q.b1, q.o1, none⟩)) = some (.int .i64 q.p) then
 (rnds Tryz.prog call lk w2p r2.1 (pw g.1 q.p q.n 1) r2.2).bind fun H3 =>
 (iops Tryz.prog call lk false perR5 perR5.toList r2.1 H3).map fun r5 => (r5.1 4, r5.2)
 else none else none
theorem w0x {α β : Type} {x y : Option α} {f h : α → Option β} {r : β} (hxy : ∀ a, x = some a → y = some a) (hf : ∀ a, f a = some r → h a = some r) (e : x.bind f = some r) : y.bind h = some r := by
 obtain ⟨a, h1, h2⟩ := Option.bind_eq_some_iff.1 e
 exact Option.bind_eq_some_iff.2 ⟨a, hxy a h1, hf a h2⟩
theorem w0f {P : Program} {c c' : q0l} (h : q3p c c') {lk : Nat} {ops : Array Oper} {σ : Env} : ∀ (xs : List Int) (H H' : Heap), rnds P c lk ops σ xs H = some H' → rnds P c' lk ops σ xs H = some H'
 | [], H, H', e => e
 | x :: xs, H, H', e => w0x (fun a ha => q3i h _ _ _ _ ha) (fun a ha => w0f h xs _ _ ha) e
theorem perOrc_mono (c c' : q0l) (h : q3p c c') : q3p (q9o c) (q9o c') := by
 intro lk g args H r hr
 unfold q9o at hr ⊢
 split at hr
 ·rename_i hg
  rw [if_pos hg]
  refine w0x (fun a ha => q3i h _ _ _ _ ha) (fun r0 hr => ?_) hr
  refine w0x (fun a ha => q3i h _ _ _ _ ha) (fun r1 hr => ?_) hr
  refine w0x (fun a ha => q3i h _ _ _ _ ha) (fun r2 hr => ?_) hr
  refine w0x (fun a ha => ha) (fun q hr => ?_) hr
  refine w0x (fun a ha => ?_) (fun g hr => ?_) hr
  ·cases hc : c 0 154 [.int .i64 q.p] [] with
   | none => rw [hc] at ha; cases ha
   | some x => rw [h _ _ _ _ _ hc, ← hc]; exact ha
  ·split at hr
   ·rename_i hall
    rw [if_pos (fun ys hm hy => by
     obtain ⟨Hk, h1, h2⟩ := hall ys hm hy
     exact ⟨Hk, w0f h _ _ _ h1, h2⟩)]
    refine w0x (fun a ha => w0f h _ _ _ ha) (fun H3 hr => ?_) hr
    obtain ⟨r5, h1, h2⟩ := Option.map_eq_some_iff.1 hr
    exact Option.map_eq_some_iff.2 ⟨r5, q3i h _ _ _ _ h1, h2⟩
   ·cases hr
 ·cases hr
theorem w1h {P : Program} {c : q0l} (h : q1a c) {lk : Nat} {ops : Array Oper} {σ : Env} : ∀ (xs : List Int) (H H' : Heap), rnds P c lk ops σ xs H = some H' → Stab lk H H'
 | [], H, H', e => by injection e with e; subst e; exact Stab.refl _ _
 | x :: xs, H, H', e => by
  obtain ⟨a, h1, h2⟩ := Option.bind_eq_some_iff.1 e
  exact (q2j h _ _ _ _ _ h1).trans (w1h h xs _ _ h2)
theorem perOrc_stab (c : q0l) (h : q1a c) : q1a (q9o c) := by
 intro lk g args H v H' hr
 unfold q9o at hr
 split at hr
 ·obtain ⟨r0, h0, hr⟩ := Option.bind_eq_some_iff.1 hr
  obtain ⟨r1, h1, hr⟩ := Option.bind_eq_some_iff.1 hr
  obtain ⟨r2, h2, hr⟩ := Option.bind_eq_some_iff.1 hr
  obtain ⟨q, hq, hr⟩ := Option.bind_eq_some_iff.1 hr
  obtain ⟨g, hg, hr⟩ := Option.bind_eq_some_iff.1 hr
  split at hr
  ·obtain ⟨H3, h3, hr⟩ := Option.bind_eq_some_iff.1 hr
   obtain ⟨r5, h5, hr⟩ := Option.map_eq_some_iff.1 hr
   simp only [Prod.mk.injEq] at hr
   obtain ⟨_, rfl⟩ := hr
   exact ((((q2j h _ _ _ _ _ h0).trans (q2j h _ _ _ _ _ h1)).trans (q2j h _ _ _ _ _ h2)).trans (w1h h _ _ _ h3)).trans (q2j h _ _ _ _ _ h5)
  ·cases hr
 ·cases hr
theorem HR.gr {base lk : Nat} {μ : Inj} {H : Heap} {W W' : World} {row : Option Nat} (h : HR base lk μ H W) (hg : W.grownBy W' row) (hr : ∀ r, row = some r → ∃ o : Obj, W.heap[r]? = some o ∧ o.isCells = false) : HR base lk μ H W' := by
 have hs : W.heap.size ≤ W'.heap.size := hg.size
 refine ⟨h.dom, fun b i hb => (h.lt b i hb).imp (fun x => Nat.lt_of_lt_of_le x hs) id, h.sz, h.len, fun b i B h1 h2 h3 j v h4 => ?_, fun b i B h1 h2 h3 h4 => ⟨(h.own b i B h1 h2 h3 h4).1, fun j hj => ?_⟩, h.disj, Nat.le_trans h.base hs, h.lk⟩
 ·obtain ⟨v', e1, e2⟩ := h.cell b i B h1 h2 h3 j v h4
  exact ⟨v', cell_kept e1 hg hr, e2⟩
 ·obtain ⟨⟨v', e1⟩, e2⟩ := (h.own b i B h1 h2 h3 h4).2 j hj
  exact ⟨⟨v', cell_kept e1 hg hr⟩, (frozen_kept e1 hg hr).trans e2⟩
theorem Below.gr {B : Nat} {w0 W W' : World} {row : Option Nat} (h : Below B w0 W) (hB : B ≤ w0.heap.size) (hg : W.grownBy W' row) (hr : ∀ r, row = some r → w0.heap.size ≤ r) : Below B w0 W' := by
 refine ⟨h.go.grown hg (Nat.le_trans hB h.size) (fun k hk => Nat.le_trans hB (hr k hk)), ⟨Nat.le_trans h.size hg.size, fun k o hk ho => ?_⟩⟩
 have hlt : k < w0.heap.size := (Array.getElem?_eq_some_iff.1 hk).1
 have h1 := h.oth.same k o hk ho
 exact (hg.block k (Array.getElem?_eq_some_iff.1 h1).1 (fun e => by have := hr k e.symm; omega)).trans h1
end Gx
end
