/- The relation between the mini heap and the model's world: an injection of blocks. -/
import Derived.Test.YtehnbdbhjeffaaaGreatGz3
import Derived.Laws.Cells
import Derived.RangeFuncCalls
set_option linter.all false
section
set_option autoImplicit false
namespace Gx
open Go Go.RowKit

structure Below (B : Nat) (w w' : World) : Prop where
 go : Go.RowKit.Below B w w'
 oth : KeepsOthers w w'
theorem Below.refl (B : Nat) (w : World) : Below B w w := ⟨.refl B w, .refl w⟩
theorem Below.trans {B : Nat} {a b c : World} (h : Below B a b) (k : Below B b c) : Below B a c := ⟨h.go.trans k.go, h.oth.trans k.oth⟩
theorem Below.mono {B B' : Nat} {w w' : World} (h : Below B w w') (hB : B' ≤ B) : Below B' w w' := ⟨h.go.mono hB, h.oth⟩
theorem Below.drew {B : Nat} {a w : World} (h : Below B a w) : Below B a w.drew := ⟨h.go.drew, h.oth.trans (.drew w)⟩
theorem Below.alloc {B : Nat} {a w : World} (h : Below B a w) (hB : B ≤ w.heap.size) (o : Obj) : Below B a (w.alloc o) := ⟨h.go.alloc hB o, h.oth.trans (.alloc w o)⟩
theorem Below.setCell {B : Nat} {a w : World} (h : Below B a w) {p : Addr} (hp : B ≤ p.block) (u : Value) : Below B a (w.setCell p u) := ⟨h.go.setCell hp u, h.oth.trans (.setCell w p u)⟩
theorem Below.size {B : Nat} {w w' : World} (h : Below B w w') : w.heap.size ≤ w'.heap.size := h.go.size
theorem Below.cell {B : Nat} {w w' : World} (h : Below B w w') {p : Addr} (hp : p.block < B) : w'.cell? p = w.cell? p := h.go.cell hp
theorem Below.frozen {B : Nat} {w w' : World} (h : Below B w w') {p : Addr} (hp : p.block < B) : w'.frozen? p = w.frozen? p := h.go.frozen hp

structure Info where
 r : Nat
 o : Nat
 ext : Nat
 sz : Nat

abbrev Inj := Nat → Option Info

inductive VR0 (μ : Inj) : Value → Value → Prop where
 | bool (b : Bool) : VR0 μ (.bool b) (.bool b)
 | int (k : IntKind) (n : Int) : VR0 μ (.int k n) (.int k n)
 | str (s : ByteArray) : VR0 μ (.string s) (.string s)
 | nilp : VR0 μ (.pointer none) (.pointer none)
 | ptr {b o : Nat} {i : Info} (h : μ b = some i) : VR0 μ (.pointer (some ⟨b, o, none⟩)) (.pointer (some ⟨i.r, i.o + o, none⟩))
 | nils : VR0 μ (.slice none 0 0) (.slice none 0 0)
 | sl {b o n : Nat} {i : Info} {a : Addr} {c : Nat} (h : μ b = some i) (hn : n ≤ c) (ha : c ≠ 0 → a = ⟨i.r, i.o + o, none⟩ ∧ o + c * i.sz ≤ i.ext) :
   VR0 μ (.slice (some ⟨b, o, none⟩) n n) (.slice (some a) n c)
 | emp {b o e : Nat} {a : Addr} : VR0 μ (.slice (some ⟨b, o, some e⟩) 0 0) (.slice (some a) 0 0)
 | func {f : FuncId} {cs ds : Array Value} (hs : cs.size = ds.size) (h : ∀ j, VR0 μ (cs.getD j .nilFunc) (ds.getD j .nilFunc)) :
   VR0 μ (.func (.func f) #[] cs) (.func (.func f) #[] ds)
 | nilf : VR0 μ .nilFunc .nilFunc
 | nili : VR0 μ .nilIface .nilIface

inductive VR (μ : Inj) : Value → Value → Prop where
 | one {v v' : Value} (h : VR0 μ v v') : VR μ v v'
 | agg {cs ds : Array Value} (hs : cs.size = ds.size) (h : ∀ j, VR0 μ (cs.getD j .nilFunc) (ds.getD j .nilFunc)) : VR μ (.agg cs) (.agg ds)
 | tuple {cs ds : Array Value} (hs : cs.size = ds.size) (h : ∀ j, VR μ (cs.getD j .nilFunc) (ds.getD j .nilFunc)) : VR μ (.tuple cs) (.tuple ds)
 | junk (v : Value) : VR μ Gx.junk v

def Le (n : Nat) (μ μ' : Inj) : Prop := (∀ b i, μ b = some i → μ' b = some i) ∧ ∀ b, b < n → μ' b = μ b
theorem Le.refl (n : Nat) (μ : Inj) : Le n μ μ := ⟨fun _ _ h => h, fun _ _ => rfl⟩
theorem Le.trans {n m : Nat} {a b c : Inj} (h : Le n a b) (k : Le m b c) (hn : n ≤ m) : Le n a c :=
 ⟨fun x i hx => k.1 x i (h.1 x i hx), fun x hx => (k.2 x (by omega)).trans (h.2 x hx)⟩

theorem VR0.mono {n : Nat} {μ μ' : Inj} (hl : Le n μ μ') {v v' : Value} (h : VR0 μ v v') : VR0 μ' v v' := by
 induction h with
 | bool b => exact .bool b
 | int k n => exact .int k n
 | str s => exact .str s
 | nilp => exact .nilp
 | ptr h => exact .ptr (hl.1 _ _ h)
 | nils => exact .nils
 | emp => exact .emp
 | sl h hn ha => exact .sl (hl.1 _ _ h) hn ha
 | func hs _ ih => exact .func hs ih
 | nilf => exact .nilf
 | nili => exact .nili

theorem VR.mono {n : Nat} {μ μ' : Inj} (hl : Le n μ μ') {v v' : Value} (h : VR μ v v') : VR μ' v v' := by
 induction h with
 | one h => exact .one (h.mono hl)
 | agg hs h => exact .agg hs fun j => (h j).mono hl
 | tuple hs _ ih => exact .tuple hs ih
 | junk v => exact .junk v

theorem VR0.one' {μ : Inj} {v v' : Value} (h : VR0 μ v v') : v'.oneCell' = true := by cases h <;> rfl
theorem VR0.cells' {μ : Inj} {v v' : Value} (h : VR0 μ v v') : v'.cells = #[v'] := by cases h <;> rfl

def LR (μ : Inj) (cs ds : List Value) : Prop := cs.length = ds.length ∧ ∀ (j : Nat) (v : Value), cs[j]? = some v → ∃ v', ds[j]? = some v' ∧ VR0 μ v v'
theorem LR.mono {n : Nat} {μ μ' : Inj} (hl : Le n μ μ') {cs ds : List Value} (h : LR μ cs ds) : LR μ' cs ds :=
 ⟨h.1, fun j v hj => let ⟨v', a, b⟩ := h.2 j v hj; ⟨v', a, b.mono hl⟩⟩
theorem LR.nil (μ : Inj) : LR μ [] [] := ⟨rfl, fun j v h => by simp at h⟩
theorem LR.cons {μ : Inj} {v v' : Value} {cs ds : List Value} (h : VR0 μ v v') (k : LR μ cs ds) : LR μ (v :: cs) (v' :: ds) := by
 refine ⟨by simp [k.1], fun j u hj => ?_⟩
 cases j with
 | zero => simp at hj; subst hj; exact ⟨v', by simp, h⟩
 | succ j => simp at hj; obtain ⟨u', a, b⟩ := k.2 j u hj; exact ⟨u', by simpa using a, b⟩
theorem LR.append {μ : Inj} {cs ds cs' ds' : List Value} (h : LR μ cs ds) (k : LR μ cs' ds') : LR μ (cs ++ cs') (ds ++ ds') := by
 refine ⟨by simp [h.1, k.1], fun j u hj => ?_⟩
 by_cases hlt : j < cs.length
 ·rw [List.getElem?_append_left hlt] at hj
  obtain ⟨u', a, b⟩ := h.2 j u hj
  exact ⟨u', by rw [List.getElem?_append_left (by rw [← h.1]; exact hlt)]; exact a, b⟩
 ·rw [List.getElem?_append_right (by omega)] at hj
  obtain ⟨u', a, b⟩ := k.2 _ u hj
  exact ⟨u', by rw [List.getElem?_append_right (by rw [← h.1]; omega), ← h.1]; exact a, b⟩
theorem LR.take {μ : Inj} {cs ds : List Value} (h : LR μ cs ds) (n : Nat) : LR μ (cs.take n) (ds.take n) := by
 refine ⟨by simp [h.1], fun j u hj => ?_⟩
 rw [List.getElem?_take] at hj
 split at hj
 ·obtain ⟨u', a, b⟩ := h.2 j u hj
  exact ⟨u', by rw [List.getElem?_take, if_pos (by assumption)]; exact a, b⟩
 ·simp at hj
theorem LR.drop {μ : Inj} {cs ds : List Value} (h : LR μ cs ds) (n : Nat) : LR μ (cs.drop n) (ds.drop n) := by
 refine ⟨by simp [h.1], fun j u hj => ?_⟩
 rw [List.getElem?_drop] at hj
 obtain ⟨u', a, b⟩ := h.2 _ u hj
 exact ⟨u', by rw [List.getElem?_drop]; exact a, b⟩
theorem LR.iput {μ : Inj} {cs ds vs us : List Value} (h : LR μ cs ds) (k : LR μ vs us) (o : Nat) : LR μ (iput cs o vs) (iput ds o us) := by
 unfold Gx.iput
 rw [← k.1]
 exact ((h.take o).append k).append (h.drop _)
theorem VR.agg_iff {μ : Inj} {cs : Array Value} {v : Value} (h : VR μ (.agg cs) v) : ∃ ds, v = .agg ds ∧ LR μ cs.toList ds.toList := by
 cases h with
 | one h => cases h
 | agg hs h =>
  refine ⟨_, rfl, by simpa using hs, fun j u hj => ?_⟩
  have := h j
  have hj' : cs[j]? = some u := by simpa using hj
  have hlt : j < cs.size := by have := (Array.getElem?_eq_some_iff.1 hj').1; exact this
  rw [Array.getD_eq_getD_getElem?, hj', Array.getD_eq_getD_getElem?, Array.getElem?_eq_getElem (by omega)] at this
  exact ⟨_, by rw [Array.getElem?_toList, Array.getElem?_eq_getElem (by omega)]; rfl, this⟩

theorem LR.getD {μ : Inj} {cs ds : Array Value} (h : LR μ cs.toList ds.toList) (j : Nat) : VR0 μ (cs.getD j .nilFunc) (ds.getD j .nilFunc) := by
 have hs : cs.size = ds.size := by simpa using h.1
 by_cases hj : j < cs.size
 ·obtain ⟨v', a, b⟩ := h.2 j (cs[j]) (by simp [hj])
  have ha : ds[j]? = some v' := by simpa using a
  rw [Array.getD_eq_getD_getElem?, Array.getD_eq_getD_getElem?, ha, Array.getElem?_eq_getElem hj]
  exact b
 ·rw [Array.getD_eq_getD_getElem?, Array.getD_eq_getD_getElem?, Array.getElem?_eq_none (by omega), Array.getElem?_eq_none (by omega)]
  exact .nilf

theorem VR.of_list {μ : Inj} {cs ds : Array Value} (h : LR μ cs.toList ds.toList) : VR μ (.agg cs) (.agg ds) :=
 .agg (by simpa using h.1) fun j => h.getD j

theorem VR.zero_of {μ : Inj} {v v' : Value} (h : VR μ v v') (hj : v ≠ Gx.junk) (ha : ∀ cs, v ≠ .agg cs) (ht : ∀ cs, v ≠ .tuple cs) : VR0 μ v v' := by
 cases h with
 | one h => exact h
 | agg hs h => exact absurd rfl (ha _)
 | tuple hs h => exact absurd rfl (ht _)
 | junk v => exact absurd rfl hj

theorem w2z {μ : Inj} {v v' : Value} (h : VR μ v v') {cs : List Value} (hc : q3d v = some cs) : LR μ cs v'.cells.toList := by
 cases h with
 | one h =>
  have e := h.cells'
  rw [e]
  cases h <;> (simp only [q3d] at hc; injection hc with hc; subst hc)
  all_goals exact .cons (by first | exact .bool _ | exact .int _ _ | exact .str _ | exact .nilp | (exact .ptr (by assumption)) | exact .nils | exact .emp | (exact .sl (by assumption) (by assumption) (by assumption)) | (exact .func (by assumption) (by assumption)) | exact .nilf | exact .nili) (.nil μ)
 | agg hs h =>
  simp only [q3d] at hc; injection hc with hc; subst hc
  obtain ⟨ds, e, hl⟩ := VR.agg_iff (VR.agg hs h)
  injection e with e; subst e; exact hl
 | tuple hs h => simp [q3d] at hc
 | junk v => simp [q3d, Gx.junk] at hc

theorem kok0_rel (μ : Inj) {v : Value} (h : kok0 v = true) : VR0 μ v v := by
 unfold kok0 at h
 split at h
 ·exact .bool _
 ·exact .int _ _
 ·exact .str _
 ·exact .nilp
 ·exact .nils
 ·exact .nilf
 ·exact .nili
 ·simp at h

theorem kok_rel (μ : Inj) {v : Value} (h : kok v = true) : VR μ v v := by
 unfold kok at h
 split at h
 ·rename_i vs
  have : vs = #[] := by simpa using h
  subst this
  exact .tuple rfl fun j => .one (by simpa using VR0.nilf)
 ·exact .one (kok0_rel μ h)

def ER (μ : Inj) (σ : Env) (tmps : Array Value) : Prop := ∀ t, VR μ (σ t) (tmps.getD t undef)

theorem q3t (μ : Inj) : VR μ undef undef := kok_rel μ rfl

theorem ev_rel {μ : Inj} {σ : Env} {a : Act} (h : ER μ σ a.tmps) (x : Operand) : VR μ (ev σ x) (a.eval x) := by
 cases x with
 | tmp t => exact h t
 | const v =>
  simp only [ev, Act.eval]
  split
  ·exact kok_rel μ (by assumption)
  ·exact .junk _
 | global g => exact .junk _
 | func f => exact .one (.func rfl fun j => by simpa using VR0.nilf)

structure HR (base lk : Nat) (μ : Inj) (H : Heap) (w : World) : Prop where
 dom : ∀ b i, μ b = some i → b < H.length
 lt : ∀ b i, μ b = some i → i.r < w.heap.size ∨ (i.o = 0 ∧ i.ext = 0)
 sz : ∀ b i B, μ b = some i → H[b]? = some B → B.sz = i.sz
 len : ∀ b i B, μ b = some i → H[b]? = some B → B.dead = false → B.c.length ≤ i.ext
 cell : ∀ b i B, μ b = some i → H[b]? = some B → B.dead = false → ∀ (j : Nat) (v : Value), B.c[j]? = some v → ∃ v', w.cell? ⟨i.r, i.o + j, none⟩ = some v' ∧ VR0 μ v v'
 own : ∀ b i B, μ b = some i → H[b]? = some B → B.dead = false → lk ≤ b → base ≤ i.r ∧ ∀ j, j < i.ext → (∃ v', w.cell? ⟨i.r, i.o + j, none⟩ = some v') ∧ w.frozen? ⟨i.r, i.o + j, none⟩ = false
 disj : ∀ b b' i i' B B', b ≠ b' → μ b = some i → μ b' = some i' → H[b]? = some B → H[b']? = some B' → B.dead = false → B'.dead = false → lk ≤ b →
  i.r ≠ i'.r ∨ i.o + i.ext ≤ i'.o ∨ i'.o + i'.ext ≤ i.o
 base : base ≤ w.heap.size
 lk : lk ≤ H.length

theorem HR.pos {base lk : Nat} {μ : Inj} {H : Heap} {w : World} (h : HR base lk μ H w) {b : Nat} {i : Info} (hb : μ b = some i) (hp : 0 < i.ext) : i.r < w.heap.size := (h.lt b i hb).resolve_right (by omega)
theorem HR.posc {base lk : Nat} {μ : Inj} {H : Heap} {w : World} (h : HR base lk μ H w) {b : Nat} {i : Info} {B : Blk} (hb : μ b = some i) (hB : H[b]? = some B) (hd : B.dead = false) {j : Nat} {v : Value} (hj : B.c[j]? = some v) : i.r < w.heap.size :=
 h.pos hb (by have := h.len b i B hb hB hd; have := (List.getElem?_eq_some_iff.1 hj).1; omega)

theorem HR.heap {base lk : Nat} {μ : Inj} {H : Heap} {w w' : World} (h : HR base lk μ H w) (e : w'.heap = w.heap) : HR base lk μ H w' := by
 have hc : ∀ a, w'.cell? a = w.cell? a := fun a => by unfold World.cell?; rw [e]
 have hf : ∀ a, w'.frozen? a = w.frozen? a := fun a => by unfold World.frozen?; rw [e]
 exact ⟨h.dom, fun b i hb => by rw [e]; exact h.lt b i hb, h.sz, h.len, fun b i B h1 h2 h3 j v h4 => by rw [hc]; exact h.cell b i B h1 h2 h3 j v h4,
  fun b i B h1 h2 h3 h4 => ⟨(h.own b i B h1 h2 h3 h4).1, fun j hj => by rw [hc, hf]; exact (h.own b i B h1 h2 h3 h4).2 j hj⟩, h.disj, by rw [e]; exact h.base, h.lk⟩

theorem HR.below {base lk : Nat} {μ : Inj} {H : Heap} {w w' : World} (h : HR base lk μ H w) (hb : Below w.heap.size w w') : HR base lk μ H w' := by
 refine ⟨h.dom, fun b i hi => (h.lt b i hi).imp (fun x => Nat.lt_of_lt_of_le x hb.size) id, h.sz, h.len, fun b i B h1 h2 h3 j v h4 => ?_, fun b i B h1 h2 h3 h4 => ⟨(h.own b i B h1 h2 h3 h4).1, fun j hj => ?_⟩, h.disj, Nat.le_trans h.base hb.size, h.lk⟩
 ·rw [hb.cell (p := ⟨i.r, i.o + j, none⟩) (h.posc h1 h2 h3 h4)]; exact h.cell b i B h1 h2 h3 j v h4
 ·rw [hb.cell (p := ⟨i.r, i.o + j, none⟩) (h.pos h1 (by omega)), hb.frozen (p := ⟨i.r, i.o + j, none⟩) (h.pos h1 (by omega))]; exact (h.own b i B h1 h2 h3 h4).2 j hj

theorem q3w {H : Heap} {b : Nat} {B : Blk} : q0e H b = some B ↔ H[b]? = some B ∧ B.dead = false := by
 unfold q0e
 cases h : H[b]? with
 | none => simp
 | some C =>
  simp only
  cases hd : C.dead
  ·simp; rintro rfl; exact hd
  ·simp; rintro rfl; exact hd

def ext (μ : Inj) (b : Nat) (i : Info) : Inj := fun x => if x = b then some i else μ x

theorem Le.ext {base lk : Nat} {μ : Inj} {H : Heap} {w : World} (h : HR base lk μ H w) (i : Info) : Le H.length μ (Gx.ext μ H.length i) := by
 refine ⟨fun b j hb => ?_, fun b hb => ?_⟩
 ·have := h.dom b j hb
  unfold Gx.ext
  rw [if_neg (by omega)]; exact hb
 ·unfold Gx.ext
  rw [if_neg (by omega)]

theorem w2a (w : World) (o : Obj) (a : Addr) (h : a.block < w.heap.size) : (w.alloc o).cell? a = w.cell? a := by
 unfold World.cell?
 rw [show (w.alloc o).heap = w.heap.push o from rfl, Array.getElem?_push, if_neg (by omega)]
theorem frozen_push_old (w : World) (o : Obj) (a : Addr) (h : a.block < w.heap.size) : (w.alloc o).frozen? a = w.frozen? a := by
 unfold World.frozen?
 rw [show (w.alloc o).heap = w.heap.push o from rfl, Array.getElem?_push, if_neg (by omega)]
theorem w2b (w : World) (ds : Array Value) (t : TypeId) (fz : Nat × Nat) (j : Nat) : (w.alloc (.cells ds t fz)).cell? ⟨w.heap.size, j, none⟩ = ds[j]? := by
 unfold World.cell?
 rw [show (w.alloc (.cells ds t fz)).heap = w.heap.push (.cells ds t fz) from rfl, Array.getElem?_push, if_pos rfl]
 simp
theorem frozen_push_new (w : World) (ds : Array Value) (t : TypeId) (fz : Nat × Nat) (j : Nat) (h : fz.2 ≤ fz.1 ∨ ds.size ≤ fz.1) (hj : j < ds.size) : (w.alloc (.cells ds t fz)).frozen? ⟨w.heap.size, j, none⟩ = false := by
 unfold World.frozen?
 rw [show (w.alloc (.cells ds t fz)).heap = w.heap.push (.cells ds t fz) from rfl, Array.getElem?_push, if_pos rfl]
 obtain ⟨lo, hi⟩ := fz
 simp only at h ⊢
 simp
 omega

theorem HR.new {base lk : Nat} {μ : Inj} {H : Heap} {w : World} (h : HR base lk μ H w) (cs : List Value) (k : Nat) (ds : Array Value) (t : TypeId) (fz : Nat × Nat)
  (hl : cs.length ≤ ds.size) (hr : LR μ cs (ds.toList.take cs.length)) (hz : fz.2 ≤ fz.1 ∨ ds.size ≤ fz.1) :
  HR base lk (Gx.ext μ H.length ⟨w.heap.size, 0, ds.size, k⟩) (H ++ [⟨cs, k, false⟩]) (w.alloc (.cells ds t fz)) := by
 have hle := Le.ext h ⟨w.heap.size, 0, ds.size, k⟩
 have hold : ∀ b i, Gx.ext μ H.length ⟨w.heap.size, 0, ds.size, k⟩ b = some i → b ≠ H.length → μ b = some i ∧ b < H.length := by
  intro b i hb hne
  unfold Gx.ext at hb; rw [if_neg hne] at hb
  exact ⟨hb, h.dom b i hb⟩
 have hnew : ∀ i, Gx.ext μ H.length ⟨w.heap.size, 0, ds.size, k⟩ H.length = some i → i = ⟨w.heap.size, 0, ds.size, k⟩ := by
  intro i hi; unfold Gx.ext at hi; rw [if_pos rfl] at hi; injection hi with hi; exact hi.symm
 have hgo : ∀ b, b < H.length → (H ++ [⟨cs, k, false⟩])[b]? = H[b]? := fun b hb => List.getElem?_append_left hb
 have hgn : (H ++ [(⟨cs, k, false⟩ : Blk)])[H.length]? = some ⟨cs, k, false⟩ := by simp
 refine ⟨?_, ?_, ?_, ?_, ?_, ?_, ?_, ?_, ?_⟩
 ·intro b i hb
  by_cases e : b = H.length
  ·subst e; simp
  ·have := (hold b i hb e).2; simp; omega
 ·intro b i hb
  by_cases e : b = H.length
  ·subst e; rw [hnew i hb]; left; show w.heap.size < (w.heap.push _).size; simp
  ·refine (h.lt b i (hold b i hb e).1).imp (fun x => ?_) id; show i.r < (w.heap.push _).size; simp; omega
 ·intro b i B hb hB
  by_cases e : b = H.length
  ·subst e; rw [hgn] at hB; injection hB with hB; subst hB; rw [hnew i hb]
  ·obtain ⟨h1, h2⟩ := hold b i hb e; rw [hgo b h2] at hB; exact h.sz b i B h1 hB
 ·intro b i B hb hB hd
  by_cases e : b = H.length
  ·subst e; rw [hgn] at hB; injection hB with hB; subst hB; rw [hnew i hb]; exact hl
  ·obtain ⟨h1, h2⟩ := hold b i hb e; rw [hgo b h2] at hB; exact h.len b i B h1 hB hd
 ·intro b i B hb hB hd j v hj
  by_cases e : b = H.length
  ·subst e; rw [hgn] at hB; injection hB with hB; subst hB; rw [hnew i hb]
   obtain ⟨v', a, b⟩ := hr.2 j v hj
   refine ⟨v', ?_, b.mono hle⟩
   simp only [Nat.zero_add]
   rw [w2b]
   rw [List.getElem?_take] at a
   split at a
   ·simpa using a
   ·simp at a
  ·obtain ⟨h1, h2⟩ := hold b i hb e; rw [hgo b h2] at hB
   obtain ⟨v', a, c⟩ := h.cell b i B h1 hB hd j v hj
   exact ⟨v', by rw [w2a _ _ _ (h.posc h1 hB hd hj)]; exact a, c.mono hle⟩
 ·intro b i B hb hB hd hlk
  by_cases e : b = H.length
  ·subst e; rw [hnew i hb]
   refine ⟨h.base, fun j hj => ⟨?_, ?_⟩⟩
   ·simp only [Nat.zero_add]
    rw [w2b]
    exact ⟨ds[j], by simp [show j < ds.size from hj]⟩
   ·simp only [Nat.zero_add]
    exact frozen_push_new _ _ _ _ _ hz hj
  ·obtain ⟨h1, h2⟩ := hold b i hb e; rw [hgo b h2] at hB
   obtain ⟨a, c⟩ := h.own b i B h1 hB hd hlk
   refine ⟨a, fun j hj => ?_⟩
   rw [w2a _ _ _ (h.pos h1 (by omega)), frozen_push_old _ _ _ (h.pos h1 (by omega))]
   exact c j hj
 ·intro b b' i i' B B' hne hb hb' hB hB' hd hd' hlk
  by_cases e : b = H.length
  ·subst e
   obtain ⟨h1, h2⟩ := hold b' i' hb' (Ne.symm hne)
   rw [hnew i hb]
   rcases h.lt b' i' h1 with g | ⟨g1, g2⟩
   ·exact .inl (by simp only; omega)
   ·exact .inr (.inr (by simp only; omega))
  ·obtain ⟨h1, h2⟩ := hold b i hb e; rw [hgo b h2] at hB
   by_cases e' : b' = H.length
   ·subst e'
    rw [hnew i' hb']
    rcases h.lt b i h1 with g | ⟨g1, g2⟩
    ·exact .inl (by simp only; omega)
    ·exact .inr (.inl (by simp only; omega))
   ·obtain ⟨h1', h2'⟩ := hold b' i' hb' e'; rw [hgo b' h2'] at hB'
    exact h.disj b b' i i' B B' hne h1 h1' hB hB' hd hd' hlk
 ·show base ≤ (w.heap.push _).size; have := h.base; simp; omega
 ·have := h.lk; simp; omega

end Gx
end
