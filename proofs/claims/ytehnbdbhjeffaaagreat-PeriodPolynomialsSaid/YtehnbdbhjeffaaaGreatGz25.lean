/- Each operation of the mini interpreter is one of the model's: arithmetic, conversions, externs. -/
import Derived.Test.YtehnbdbhjeffaaaGreatGz24
import Derived.Laws.Cover3
set_option linter.all false
section
set_option autoImplicit false
namespace Gx
open Go Go.RowKit
section
variable {P : Program} {w : World} {base lk : Nat} {μ : Inj} {H : Heap}

theorem depth_ge (P : Program) : 100 ≤ P.depth := by unfold Program.depth Made.depth; omega

theorem tbool_iff {t : TypeId} (h : tbool P t = true) : P.underlying t = some .bool := by
 unfold tbool at h; split at h
 ·assumption
 ·simp at h

theorem bits_sim (op : BinOp) (k : IntKind) (a b : Int) {v : Value} (h : q6t op k a b = some v) : (Op.intBits op k a b).run P w = .ok v w ∧ VR μ v v := by
 unfold q6t at h
 simp only at h
 split at h <;> first | (injection h with h; subst h; exact ⟨rfl, .one (.int _ _)⟩) | simp at h

theorem agg_eq {t : TypeId} {ks : List Nat} {xs ys : Array Value} {x' y' : Value} {b : Bool} (hx : VR μ (.agg xs) x') (hy : VR μ (.agg ys) y') (hk : q5m P t = some ks) (he : q0q ks xs.toList ys.toList = some b) :
  ∃ xs' ys', x' = .agg xs' ∧ y' = .agg ys' ∧ (Op.equalIn 10000 t (.agg xs') (.agg ys')).run P w = .ok b w ∧ P.eqGuardType P.depth t = false := by
 obtain ⟨xs', rfl, lx⟩ := hx.agg_iff
 obtain ⟨ys', rfl, ly⟩ := hy.agg_iff
 unfold q5m at hk
 split at hk
 ·rename_i fs hf
  obtain ⟨e1, e2, l1, l2⟩ := eqCells_same ks _ _ _ _ b he lx ly
  refine ⟨xs', ys', rfl, rfl, ?_, flat_guard _ _ _ hk _ (depth_ge P)⟩
  have hu := w0b hf
  have hg : tagg P t = some true := by unfold tagg; rw [hu]
  have hsz : tsz P t = some ks.length := by
   have hk' := hk
   unfold flatK at hk'
   rw [hu] at hk'
   simp only at hk'
   split at hk'
   ·simp at hk'
   ·split at hk'
    ·split at hk'
     ·injection hk' with hk'; subst hk'; assumption
     ·simp at hk'
    ·simp at hk'
  have s1 : xs'.size = ks.length := by have := lx.1; simp at this; simp at l1; omega
  have s2 : ys'.size = ks.length := by have := ly.1; simp at this; simp at l2; omega
  obtain ⟨x, y, p1, p2, p3⟩ := flat_eq (P := P) (w := w) 100 t ks hk 10000 (by omega) xs' ys' 0 b (by
   rw [List.drop_zero, List.drop_zero, List.take_of_length_le (by simp [s1]), List.take_of_length_le (by simp [s2]), e1, e2]; exact he)
  have hp : ∀ (Z : Array Value), Z.size = ks.length → (part t Z 0).run P w = .ok (.agg Z) w := by
   intro Z hZ
   unfold part; rw [Sem.run_bind, q5a hg]; simp only [Result.andThen_ok, if_true, Sem.run_bind, q1t hsz, Sem.run_pure]
   congr 2
   rw [Nat.zero_add, ← hZ]; exact Array.extract_size
  rw [hp _ s1] at p1; rw [hp _ s2] at p2
  injection p1 with p1; injection p2 with p2
  subst p1; subst p2
  exact p3
 ·simp at hk

theorem slice_nil_eq {t e : TypeId} (a : Option Addr) (n c : Nat) (ox oy : Operand) (he : q0z P t = some e) :
  (do eqGuard .eql t ox oy (.slice a n c) (.slice none 0 0); binOp .eql t (.slice a n c) (.slice none 0 0) : Sem Value).run P w = .ok (.bool a.isNone) w := by
 have e0 : eqGuard .eql t ox oy (.slice a n c) (.slice none 0 0) = pure () := rfl
 have e1 : binOp .eql t (.slice a n c) (.slice none 0 0) = (do pure (.bool (← Op.equal t (.slice a n c) (.slice none 0 0)))) := rfl
 rw [e0, e1, Sem.run_bind, Sem.run_pure]
 simp only [Result.andThen_ok, Sem.run_bind, run_equal_slice_nil w t e a n c (q2i he), Sem.run_pure]
theorem slice_nil_ne {t e : TypeId} (a : Option Addr) (n c : Nat) (ox oy : Operand) (he : q0z P t = some e) :
  (do eqGuard .neq t ox oy (.slice a n c) (.slice none 0 0); binOp .neq t (.slice a n c) (.slice none 0 0) : Sem Value).run P w = .ok (.bool !a.isNone) w := by
 have e0 : eqGuard .neq t ox oy (.slice a n c) (.slice none 0 0) = pure () := rfl
 have e1 : binOp .neq t (.slice a n c) (.slice none 0 0) = (do pure (.bool (!(← Op.equal t (.slice a n c) (.slice none 0 0))))) := rfl
 rw [e0, e1, Sem.run_bind, Sem.run_pure]
 simp only [Result.andThen_ok, Sem.run_bind, run_equal_slice_nil w t e a n c (q2i he), Sem.run_pure]

theorem bin_sim {op : BinOp} {t : TypeId} {x y x' y' v : Value} (ox oy : Operand) (hx : VR μ x x') (hy : VR μ y y') (h : ibin P op t x y = some v) :
  ∃ v', (do eqGuard op t ox oy x' y'; binOp op t x' y' : Sem Value).run P w = .ok v' w ∧ VR μ v v' := by
 have ib : ∀ (b : Bool), VR μ (.bool b) (.bool b) := fun b => .one (.bool b)
 have ii : ∀ (k : IntKind) (n : Int), VR μ (.int k n) (.int k n) := fun k n => .one (.int k n)
 have is : ∀ (s : ByteArray), VR μ (.string s) (.string s) := fun s => .one (.str s)
 unfold ibin at h
 split at h
 case h_1 | h_2 | h_3 =>
  have := hx.int_inv; subst this
  have := hy.int_inv; subst this
  split at h
  ·rename_i e; subst e
   injection h with h; subst h
   exact ⟨_, by simp [eqGuard, binOp, Op.intArith], ii _ _⟩
  ·simp at h
 case h_4 | h_5 =>
  have := hx.int_inv; subst this
  have := hy.int_inv; subst this
  split at h
  ·rename_i e; obtain ⟨e, hne⟩ := e; subst e
   injection h with h; subst h
   exact ⟨_, by simp [eqGuard, binOp, Op.intDiv, hne], ii _ _⟩
  ·simp at h
 case h_6 | h_7 =>
  have := hx.int_inv; subst this
  have := hy.int_inv; subst this
  split at h
  ·rename_i hb
   injection h with h; subst h
   exact ⟨_, by simp [eqGuard, binOp, Op.shift, show ¬ (_ < (0 : Int)) from Int.not_lt.2 hb], ii _ _⟩
  ·simp at h
 case h_8 | h_9 | h_10 | h_11 =>
  have := hx.int_inv; subst this
  have := hy.int_inv; subst this
  split at h
  ·rename_i e; subst e
   obtain ⟨h1, h2⟩ := bits_sim (P := P) (w := w) (μ := μ) _ _ _ _ h
   exact ⟨_, by simpa [eqGuard, binOp] using h1, h2⟩
  ·simp at h
 case h_12 | h_13 | h_14 | h_15 | h_16 | h_17 =>
  have := hx.int_inv; subst this
  have := hy.int_inv; subst this
  split at h
  ·rename_i e; subst e
   injection h with h; subst h
   exact ⟨_, by simp [eqGuard, binOp, Op.intCmp], ib _⟩
  ·simp at h
 case h_18 =>
  rename_i a b
  have := hx.str_inv; subst this
  have := hy.str_inv; subst this
  split at h
  ·rename_i hsz
   injection h with h; subst h
   refine ⟨_, ?_, is _⟩
   have hm : ¬ ((a.size + b.size : Nat) : Int) > IntKind.i64.max := by
    show ¬ ((a.size + b.size : Nat) : Int) > 9223372036854775807
    omega
   have e0 : eqGuard .add t ox oy (.string a) (.string b) = pure () := rfl
   have e1 : binOp .add t (.string a) (.string b) = Op.stringOp .add a b := rfl
   rw [e0, e1, Sem.run_bind, Sem.run_pure]
   simp only [Result.andThen_ok, Op.stringOp]
   rw [if_neg hm, Sem.run_pure]
  ·simp at h
 case h_19 | h_20 | h_21 | h_22 | h_23 | h_24 =>
  have := hx.str_inv; subst this
  have := hy.str_inv; subst this
  injection h with h; subst h
  exact ⟨_, by simp [eqGuard, binOp, Op.stringOp], ib _⟩
 case h_25 | h_26 =>
  have := hx.bool_inv; subst this
  have := hy.bool_inv; subst this
  split at h
  ·rename_i hb
   injection h with h; subst h
   exact ⟨_, by simp [eqGuard, binOp, Op.equal, Op.maxDepth, run_equalIn_bool' w 9999 t _ _ (tbool_iff hb)], ib _⟩
  ·simp at h
 case h_27 =>
  split at h
  ·rename_i ks hk
   obtain ⟨r, hr, rfl⟩ := Option.map_eq_some_iff.1 h
   obtain ⟨xs', ys', rfl, rfl, h1, h2⟩ := agg_eq (w := w) hx hy hk hr
   exact ⟨_, by rw [Sem.run_bind, run_eqGuard_agg _ _ _ _ _ _ _ h2]; simp only [Result.andThen_ok]; rw [run_eql_struct, h1]; rfl, ib _⟩
  ·simp at h
 case h_28 =>
  split at h
  ·rename_i ks hk
   obtain ⟨r, hr, rfl⟩ := Option.map_eq_some_iff.1 h
   obtain ⟨xs', ys', rfl, rfl, h1, h2⟩ := agg_eq (w := w) hx hy hk hr
   exact ⟨_, by rw [Sem.run_bind, run_eqGuard_agg _ _ _ _ _ _ _ h2]; simp only [Result.andThen_ok]; rw [run_neq_struct, h1]; rfl, ib _⟩
  ·simp at h
 case h_29 =>
  rename_i a n1 c1
  have := hy.nils_inv; subst this
  obtain ⟨a', c, rfl, hs⟩ := hx.slice_len
  split at h
  ·rename_i he
   obtain ⟨e, he⟩ := Option.isSome_iff_exists.1 he
   injection h with h; subst h
   refine ⟨.bool a'.isNone, ?_, ?_⟩
   ·exact slice_nil_eq a' _ _ ox oy he
   ·have : a'.isNone = a.isNone := by cases a <;> cases a' <;> simp_all
    rw [this]; exact ib _
  ·simp at h
 case h_30 =>
  rename_i a n1 c1
  have := hy.nils_inv; subst this
  obtain ⟨a', c, rfl, hs⟩ := hx.slice_len
  split at h
  ·rename_i he
   obtain ⟨e, he⟩ := Option.isSome_iff_exists.1 he
   injection h with h; subst h
   refine ⟨.bool (!a'.isNone), ?_, ?_⟩
   ·exact slice_nil_ne a' _ _ ox oy he
   ·have : a'.isNone = a.isNone := by cases a <;> cases a' <;> simp_all
    rw [this]; exact ib _
  ·simp at h
 case h_31 => simp at h

theorem un_sim {op : UnOp} {x x' v : Value} (hx : VR μ x x') (h : iun op x = some v) : ∃ v', (Op.unary op x').run P w = .ok v' w ∧ VR μ v v' := by
 unfold iun at h
 split at h
 ·have := hx.int_inv; subst this
  injection h with h; subst h
  exact ⟨_, by simp [Op.unary, Op.intArith], .one (.int _ _)⟩
 ·have := hx.int_inv; subst this
  obtain ⟨h1, h2⟩ := bits_sim (P := P) (w := w) (μ := μ) _ _ _ _ h
  exact ⟨_, by simpa [Op.unary] using h1, h2⟩
 ·have := hx.bool_inv; subst this
  injection h with h; subst h
  exact ⟨_, by simp [Op.unary], .one (.bool _)⟩
 ·simp at h

end
end Gx
end
