/- Each operation of the mini interpreter is one of the model's: fields, indexes, append. -/
import Derived.Test.YtehnbdbhjeffaaaGreatGz22
set_option linter.all false
section
set_option autoImplicit false
namespace Gx
open Go Go.RowKit
section
variable {P : Program} {w : World} {base lk : Nat} {μ : Inj} {H : Heap}

theorem w1u {t : TypeId} {x x' v : Value} {i : Nat} (hx : VR μ x x') (hs : q3l P t x i = some v) : ∃ v', (Instr.fieldAt t x' i).run P w = .ok v' w ∧ VR μ v v' := by
 unfold q3l at hs
 split at hs
 ·rename_i b o off u hf
  obtain ⟨i', hb, rfl⟩ := hx.ptr_inv
  split at hs
  ·rename_i n hn
   split at hs
   ·simp at hs
   ·rename_i h0
    injection hs with hs; subst hs
    obtain ⟨fs, f, h1, h2, rfl, rfl⟩ := tfield_iff hf
    refine ⟨.pointer (some ⟨i'.r, i'.o + (o + f.offset), none⟩), ?_, .one (.ptr hb)⟩
    unfold Instr.fieldAt
    rw [Sem.run_bind, q0v h1]
    simp only [Result.andThen_ok, h2, Instr.sureAddr, Sem.run_bind, Sem.run_pure, fieldPlace, q1t hn]
    rw [if_neg h0]
    simp only [Sem.run_pure, Result.andThen_ok, q3x, Nat.add_assoc]
  ·simp at hs
 ·simp at hs

theorem part_sim {t : TypeId} {cs ds : List Value} {o : Nat} {v : Value} (hr : LR μ cs ds) (hs : ipart P t cs o = some v) : ∃ v', (part t ds.toArray o).run P w = .ok v' w ∧ VR μ v v' := by
 unfold ipart at hs
 split at hs
 ·rename_i n hg hn
  cases hi : isub cs o n with
  | none => rw [hi] at hs; simp at hs
  | some l =>
   rw [hi] at hs; simp at hs; subst hs
   obtain ⟨h1, rfl⟩ := w4l hi
   refine ⟨.agg (ds.toArray.extract o (o + n)), ?_, ?_⟩
   ·unfold part
    rw [Sem.run_bind, q5a hg]
    simp only [Result.andThen_ok, if_true, Sem.run_bind, q1t hn, Sem.run_pure]
   ·apply VR.of_list
    have := (hr.drop o).take n
    simpa [List.extract_eq_take_drop] using this
 ·rename_i hg
  obtain ⟨v', a, c⟩ := hr.2 o v hs
  refine ⟨v', ?_, .one c⟩
  unfold part
  rw [Sem.run_bind, q5a hg]
  simp only [Result.andThen_ok, Bool.false_eq_true, if_false]
  have : ds.toArray[o]? = some v' := by simpa using a
  rw [this]; rfl
 ·simp at hs

theorem field_sim {t : TypeId} {x x' v : Value} {i : Nat} (hx : VR μ x x') (hs : w3q P t x i = some v) : ∃ v', (Instr.field t x' i).run P w = .ok v' w ∧ VR μ v v' := by
 unfold w3q at hs
 split at hs
 ·rename_i cs off u hf
  obtain ⟨ds, rfl, hr⟩ := hx.agg_iff
  obtain ⟨fs, f, h1, h2, rfl, rfl⟩ := tfield_iff hf
  obtain ⟨v', a, c⟩ := part_sim (P := P) (w := w) hr hs
  refine ⟨v', ?_, c⟩
  unfold Instr.field
  rw [Sem.run_bind, q0v h1]
  simp only [Result.andThen_ok, h2, asAgg, Sem.run_bind, Sem.run_pure]
  simpa using a
 ·simp at hs

theorem w1p {t : TypeId} {x x' ix ix' v : Value} (hx : VR μ x x') (hix : VR μ ix ix') (hs : q0i P t x ix = some v) : ∃ v', (Instr.indexAt t x' ix').run P w = .ok v' w ∧ VR μ v v' := by
 unfold q0i at hs
 split at hs
 ·rename_i k i
  have := hix.int_inv; subst this
  split at hs
  ·rename_i b o n m
   obtain ⟨rfl, j, a, c, rfl, hb, hnc, ha⟩ := hx.sl_inv
   split at hs
   ·rename_i e he
    split at hs
    ·rename_i q hq
     split at hs
     ·rename_i hc
      obtain ⟨c1, c2, c3⟩ := hc
      injection hs with hs; subst hs
      obtain ⟨rfl, _⟩ := ha (by omega)
      refine ⟨.pointer (some ⟨j.r, j.o + (o + i.toNat * q), none⟩), ?_, .one (.ptr hb)⟩
      unfold Instr.indexAt
      simp only [asIntOf, Sem.run_bind, Sem.run_pure, Result.andThen_ok, q0v (q2i he)]
      rw [if_pos ⟨c1, c2⟩]
      simp only [Sem.run_bind, q1t hq, Result.andThen_ok, Sem.run_pure, q3x, Nat.add_assoc]
     ·simp at hs
    ·simp at hs
   ·simp at hs
  ·rename_i b o
   obtain ⟨j, hb, rfl⟩ := hx.ptr_inv
   split at hs
   ·rename_i n e he
    split at hs
    ·rename_i q hq
     split at hs
     ·rename_i hc
      obtain ⟨c1, c2⟩ := hc
      injection hs with hs; subst hs
      refine ⟨.pointer (some ⟨j.r, j.o + (o + i.toNat * q), none⟩), ?_, .one (.ptr hb)⟩
      unfold Instr.indexAt
      simp only [asIntOf, Sem.run_bind, Sem.run_pure, Result.andThen_ok, q0v (w1d he), Instr.sureAddr]
      rw [if_pos ⟨c1, c2⟩]
      simp only [Sem.run_bind, q1t hq, Result.andThen_ok, Sem.run_pure, q3x, Nat.add_assoc]
     ·simp at hs
    ·simp at hs
   ·simp at hs
  ·simp at hs
 ·simp at hs

theorem index_sim {t : TypeId} {x x' ix ix' v : Value} (hx : VR μ x x') (hix : VR μ ix ix') (hs : w3p P t x ix = some v) : ∃ v', (Instr.index t x' ix').run P w = .ok v' w ∧ VR μ v v' := by
 unfold w3p at hs
 split at hs
 ·rename_i s k i
  have := hx.str_inv; subst this
  have := hix.int_inv; subst this
  split at hs
  ·rename_i hc
   obtain ⟨c1, c2, c3⟩ := hc
   injection hs with hs; subst hs
   refine ⟨_, ?_, .one (.int _ _)⟩
   unfold Instr.index
   simp only [asIntOf, Sem.run_bind, Sem.run_pure, Result.andThen_ok, q0v (q6u c1), if_pos c2]
   have hlt : i.toNat < s.size := by omega
   rw [getElem?_pos s i.toNat hlt]
   simp [byt, hlt]
  ·simp at hs
 ·rename_i cs k i
  obtain ⟨ds, rfl, hr⟩ := hx.agg_iff
  have := hix.int_inv; subst this
  split at hs
  ·rename_i n e he
   split at hs
   ·rename_i q hq
    split at hs
    ·rename_i hc
     obtain ⟨v', a, c⟩ := part_sim (P := P) (w := w) hr hs
     refine ⟨v', ?_, c⟩
     unfold Instr.index
     simp only [asIntOf, Sem.run_bind, Sem.run_pure, Result.andThen_ok, q0v (w1d he)]
     rw [if_pos hc]
     simp only [Sem.run_bind, q1t hq, Result.andThen_ok]
     simpa using a
    ·simp at hs
   ·simp at hs
  ·simp at hs
 ·simp at hs

theorem VR.slice_len {a : Option Addr} {n m : Nat} {v : Value} (h : VR μ (.slice a n m) v) : ∃ a' c, v = .slice a' n c ∧ a'.isSome = a.isSome := by
 cases h with
 | one h => cases h with
  | nils => exact ⟨_, _, rfl, rfl⟩
  | emp => exact ⟨_, _, rfl, rfl⟩
  | sl h hn ha => exact ⟨_, _, rfl, rfl⟩

theorem len_sim {t ty : TypeId} {x x' v : Value} (hx : VR μ x x') (hs : ilen P t x = some v) : ∃ v', (Builtin.len_ #[t] ty #[x']).run P w = .ok v' w ∧ VR μ v v' := by
 unfold ilen at hs
 split at hs
 ·rename_i s
  have := hx.str_inv; subst this
  split at hs
  ·rename_i hc
   injection hs with hs; subst hs
   exact ⟨_, by simp [Builtin.len_, q0v (q6u hc), goInt], .one (.int _ _)⟩
  ·simp at hs
 ·obtain ⟨a', c, rfl, _⟩ := hx.slice_len
  split at hs
  ·rename_i hc
   obtain ⟨e, he⟩ := Option.isSome_iff_exists.1 hc
   injection hs with hs; subst hs
   exact ⟨_, by simp [Builtin.len_, q0v (q2i he), goInt], .one (.int _ _)⟩
  ·simp at hs
 ·obtain ⟨ds, rfl, hr⟩ := hx.agg_iff
  cases ha : tarr P t with
  | none => rw [ha] at hs; simp at hs
  | some p =>
   obtain ⟨n, e⟩ := p
   rw [ha] at hs; simp at hs; subst hs
   exact ⟨_, by simp [Builtin.len_, q0v (w1d ha), goInt], .one (.int _ _)⟩
 ·simp at hs

theorem first_sim (h : HR base lk μ H w) {k n : Nat} {x x' : Value} {new : List Value} (hx : VR μ x x') (hs : q9r H k n x = some new) :
  ∃ ds, (Builtin.firstCells k n x').run P w = .ok ds w ∧ LR μ new ds.toList ∧ ds.size = new.length := by
 unfold q9r at hs
 split at hs
 ·have := hx.nils_inv; subst this
  split at hs
  ·injection hs with hs; subst hs
   exact ⟨#[], rfl, LR.nil μ, rfl⟩
  ·simp at hs
 ·rename_i b o m c
  obtain ⟨rfl, i, a, c', rfl, hb, hnc, ha⟩ := hx.sl_inv
  split at hs
  ·rename_i hc
   split at hs
   ·rename_i h0
    injection hs with hs; subst hs; subst h0
    exact ⟨#[], by simp [Builtin.firstCells, loadCells, loadCellsFrom], LR.nil μ, rfl⟩
   ·rename_i h0
    split at hs
    ·rename_i B hB
     obtain ⟨hB, hd⟩ := q3w.1 hB
     split at hs
     ·obtain ⟨h1, rfl⟩ := w4l hs
      obtain ⟨ds, g1, g2, g3⟩ := stretch h hb hB hd o (n * k) h1
      obtain ⟨rfl, _⟩ := ha (by omega)
      have hr := run_cells (P := P) w i.r (i.o + o) ds g3
      rw [g2] at hr
      exact ⟨ds.toArray, by simpa [Builtin.firstCells] using hr, by simpa using g1, by have := g1.1; simp only [List.size_toArray]; exact this.symm⟩
     ·simp at hs
    ·simp at hs
  ·simp at hs
 ·simp at hs

theorem growBy_le (newLen : Nat) : ∀ (r c : Nat), c ≤ 2 * newLen → 256 ≤ c → Builtin.growBy newLen r c ≤ 2 * newLen
 | 0, c, h, _ => h
 | r + 1, c, h, h2 => by
  unfold Builtin.growBy
  split
  ·exact h
  ·exact growBy_le newLen r _ (by omega) (by omega)

theorem next_le (need old : Nat) (h : old < need) : Builtin.nextslicecap need old ≤ 2 * need := by
 unfold Builtin.nextslicecap
 split
 ·omega
 ·split
  ·omega
  ·exact growBy_le need 4 old (by omega) (by omega)

theorem q9n (z : Array Value) (n : Nat) : (Builtin.zeroCells z n).size = n * z.size := by simp [Builtin.zeroCells]

theorem cap_sim {t ty : TypeId} {x x' v : Value} (hx : VR μ x x') (hs : icap P t x = some v) : ∃ v', (Builtin.cap_ #[t] ty #[x']).run P w = .ok v' w ∧ VR μ v v' := by
 unfold icap at hs
 split at hs
 ·have := hx.nils_inv; subst this
  split at hs
  ·rename_i hc
   obtain ⟨e, he⟩ := Option.isSome_iff_exists.1 hc
   injection hs with hs; subst hs
   exact ⟨_, by simp [Builtin.cap_, q0v (q2i he), goInt], .one (.int _ _)⟩
  ·simp at hs
 ·simp at hs

theorem zeroCells_list (z : Array Value) (n k : Nat) (hz : z.size = k) (hk : 0 < k) : (Builtin.zeroCells z n).toList = reps z.toList n := by
 subst hz
 exact zeros_eq z n z.size rfl hk

theorem appendN_sim (h : HR base lk μ H w) {t e t2 ty : TypeId} {s s' x x' v : Value} {H' : Heap} (he : q0z P t = some e) (hs : VR μ s s') (hx : VR μ x x') (ha : q5j P H e t2 s x = some (v, H')) :
  ∃ v' w' μ', (Builtin.append_ #[t, t2] ty #[s', x']).run P w = .ok v' w' ∧ Le H.length μ μ' ∧ HR base lk μ' H' w' ∧ Below base w w' ∧ VR μ' v v' := by
 unfold q5j at ha
 split at ha
 ·rename_i l kd hkd
  have := hs.nils_inv; subst this
  have := hx.int_inv; subst this
  split at ha
  ·rename_i k by_ zs hk hby hz
   split at ha
   ·rename_i hc
    obtain ⟨c1, c2, c3, c4, c4', c5⟩ := hc
    simp only [Option.some.injEq, Prod.mk.injEq] at ha
    obtain ⟨rfl, rfl⟩ := ha
    obtain ⟨n, rfl⟩ : ∃ n : Nat, l = (n : Int) := ⟨l.toNat, by omega⟩
    simp only [Int.toNat_natCast] at c5 ⊢
    have hn0 : 0 < n := by omega
    have hu := q2i he
    have hu2 := w1c hkd
    obtain ⟨ti, hti, hbb⟩ := q7v (P := P) (w := w) hby
    have hsm : n ≤ 70368744177664 := Nat.le_trans (Nat.le_mul_of_pos_right _ c3) c5
    let cap := (Question.appendCap n 0 e).cut (w.tape w.drawn (.appendCap n 0 e))
    have hcapge : n ≤ cap := by simp only [cap, Question.cut]; omega
    have hW : HR base lk μ H { w with drawn := w.drawn + 1 } := h.heap rfl
    obtain ⟨z', hz1', hz2', hz3'⟩ := q5x (P := P) (w := { w with drawn := w.drawn + 1 }) μ hz
    have hzs' : z'.cells.size = k := by have := hz3'.1; simp at this; omega
    obtain ⟨ti', hti', hbb'⟩ := q7v (P := P) (w := { w with drawn := w.drawn + 1 }) hby
    have hnew : (Builtin.zeroCells z'.cells n).toList = reps z'.cells.toList n := zeroCells_list _ _ _ hzs' c1
    have hsize : ((#[] : Array Value) ++ Builtin.zeroCells z'.cells n ++ Builtin.zeroCells z'.cells (cap - n)).size = cap * k := by
     simp only [Array.size_append, q9n, hzs', Array.size_empty, Nat.zero_add]
     rw [← Nat.add_mul]
     congr 1; omega
    have hlr : LR μ (reps zs n) (Builtin.zeroCells z'.cells n).toList := by rw [hnew]; exact hz3'.reps n
    have htake : ((#[] : Array Value) ++ Builtin.zeroCells z'.cells n ++ Builtin.zeroCells z'.cells (cap - n)).toList.take (reps zs n).length = (Builtin.zeroCells z'.cells n).toList := by
     rw [Array.toList_append, Array.toList_append, List.take_left']
     ·simp
     ·rw [hlr.1]; simp
    obtain ⟨μ', k1, k2, k3, k4⟩ := row_sim hW (t := e) (cs := reps zs n) (ds := (#[] : Array Value) ++ Builtin.zeroCells z'.cells n ++ Builtin.zeroCells z'.cells (cap - n)) k n cap (0, 0)
     (by rw [hsize, q4d, c2]; exact Nat.mul_le_mul_right _ hcapge) (by rw [htake]; exact hlr) (.inl (Nat.le_refl _)) hcapge (by rw [hsize]; exact Nat.le_refl _)
    refine ⟨_, _, μ', ?_, k1, k2, ((Below.refl base w).drew).trans k3, k4⟩
    unfold Builtin.append_
    have e1 : (#[t, t2] : Array TypeId)[0]? = some t := rfl
    have e2 : (#[t, t2] : Array TypeId)[1]? = some t2 := rfl
    have e3 : (#[.slice none 0 0, .int .i64 (n : Int)] : Array Value)[0]? = some (.slice none 0 0) := rfl
    have e4 : (#[.slice none 0 0, .int .i64 (n : Int)] : Array Value)[1]? = some (.int .i64 (n : Int)) := rfl
    simp only [e1, e2, e3, e4]
    rw [Sem.run_bind, q0v hu]
    simp only [Result.andThen_ok]
    rw [Sem.run_bind, q1t hk]
    simp only [Result.andThen_ok]
    rw [Sem.run_bind, q0v hu2]
    simp only [Result.andThen_ok]
    rw [Sem.run_bind, Sem.run_pure]
    have hwr : IntKind.i64.wrap (n : Int) = (n : Int) := by rw [IntKind.wrap_i64]; omega
    have g1 : ¬ ((n : Int) < 0) := by omega
    have g2 : ¬ ((n : Int) * ((by_ : Nat) : Int) > 2 ^ 48) := by
     rw [← Int.natCast_mul]
     generalize n * by_ = q at c5
     omega
    simp only [Result.andThen_ok, if_true]
    have hai : (asInt (.int .i64 (n : Int))).run P w = .ok (n : Int) w := by simp only [asInt, asIntOf, Sem.run_bind, Sem.run_pure, Result.andThen_ok]
    rw [Sem.run_bind, hai]
    simp only [Result.andThen_ok, hwr]
    rw [if_neg g1]
    rw [Sem.run_bind, hti]
    simp only [Result.andThen_ok, hbb]
    rw [if_neg g2]
    rw [Sem.run_bind, Sem.run_pure]
    simp only [Result.andThen_ok, Int.toNat_natCast, Nat.zero_add]
    rw [if_neg (by omega : ¬ n ≤ 0), Sem.run_bind, hti]
    simp only [Result.andThen_ok, hbb]
    have e5 : ¬ (((n : Nat) : Int) > IntKind.i64.max ∧ (True ∨ by_ = 0)) := by
     rintro ⟨h1, _⟩
     have : IntKind.i64.max = 9223372036854775807 := by decide
     rw [this] at h1; omega
    rw [if_neg e5, Sem.run_bind, hti]
    simp only [Result.andThen_ok, hbb]
    have hnx := next_le n 0 hn0
    have e6 : ¬ (Builtin.nextslicecap n 0 * by_ > 2 ^ 48) := by
     have := Nat.mul_le_mul_right by_ hnx
     rw [Nat.mul_assoc] at this
     omega
    rw [if_neg e6]
    have e7 : ¬ (n * k = 0) := Nat.ne_of_gt (Nat.mul_pos hn0 c1)
    have f0 : (Builtin.firstCells k 0 (.slice none 0 0)).run P { w with drawn := w.drawn + 1 } = .ok #[] { w with drawn := w.drawn + 1 } := rfl
    simp only [Sem.run_bind, run_choose, Question.forced, Bool.false_eq_true, if_false, Bool.not_true, Result.andThen_ok, hti', run_askRoom, f0, hz1', Sem.run_pure, newRow, run_newObj, if_neg e7]
    rfl
   ·simp at ha
  ·simp at ha
 ·simp at ha

theorem append_sim (h : HR base lk μ H w) {t t2 ty : TypeId} {s s' x x' v : Value} {H' : Heap} (hs : VR μ s s') (hx : VR μ x x') (ha : q2u P lk H t t2 s x = some (v, H')) :
  ∃ v' w' μ', (Builtin.append_ #[t, t2] ty #[s', x']).run P w = .ok v' w' ∧ Le H.length μ μ' ∧ HR base lk μ' H' w' ∧ Below base w w' ∧ VR μ' v v' := by
 unfold q2u at ha
 split at ha
 ·rename_i e e2 he he2
  split at ha
  ·rename_i k by_ zs n hk hby hz hlen
   split at ha
   ·simp at ha
   ·rename_i new hnew
    split at ha
    ·rename_i hc
     obtain ⟨c1, c2, c3⟩ := hc
     obtain ⟨ds, f1, f2, f3⟩ := first_sim (P := P) h hx hnew
     obtain ⟨ti, hti, hbb⟩ := q7v (P := P) (w := w) hby
     obtain ⟨z, hz1, hz2, hz3⟩ := q5x (P := P) (w := w) μ hz
     have hzs : z.cells.size = k := by have := hz3.1; simp at this; omega
     have hu := q2i he
     have hu2 := q2i he2
     have hlx : (Builtin.lenOf x').run P w = .ok n w := by
      unfold ilenOf at hlen
      split at hlen
      ·injection hlen with hlen; subst hlen
       obtain ⟨a', c', rfl, _⟩ := hx.slice_len
       rfl
      ·simp at hlen
     have hnl : new.length = n * k := by
      unfold q9r at hnew
      split at hnew
      ·split at hnew
       ·injection hnew with hnew; subst hnew; rename_i h0; subst h0; simp
       ·simp at hnew
      ·split at hnew
       ·split at hnew
        ·injection hnew with hnew; subst hnew; rename_i h0; subst h0; simp
        ·split at hnew
         ·split at hnew
          ·obtain ⟨h1, rfl⟩ := w4l hnew; simp; omega
          ·simp at hnew
         ·simp at hnew
       ·simp at hnew
      ·simp at hnew
     have grow : ∀ (b0 : Option Addr) (sLen sCap : Nat) (old : List Value) (olds : Array Value) (H0 : Heap), sCap < sLen + n → (sLen + n) * by_ ≤ 70368744177664 → (Builtin.firstCells k sLen (.slice b0 sLen sCap)).run P { w with drawn := w.drawn + 1 } = .ok olds { w with drawn := w.drawn + 1 } → LR μ old olds.toList → old.length = sLen * k → HR base lk μ H0 w →
       ∃ v' w' μ', (Builtin.append_ #[t, t2] ty #[.slice b0 sLen sCap, x']).run P w = .ok v' w' ∧ Le H0.length μ μ' ∧ HR base lk μ' (H0 ++ [⟨old ++ new, k, false⟩]) w' ∧ Below base w w' ∧
        VR μ' (.slice (some ⟨H0.length, 0, none⟩) (sLen + n) (sLen + n)) v' := by
      intro b0 sLen sCap old olds H0 hcap hbytes hold hlr hol hH0
      have hsm : sLen + n ≤ 70368744177664 := Nat.le_trans (Nat.le_mul_of_pos_right _ c3) hbytes
      let cap := (Question.appendCap (sLen + n) sCap e).cut (w.tape w.drawn (.appendCap (sLen + n) sCap e))
      have hcapge : sLen + n ≤ cap := by simp only [cap, Question.cut]; omega
      have hW : HR base lk μ H0 { w with drawn := w.drawn + 1 } := hH0.heap rfl
      obtain ⟨ds2, f1', f2', f3'⟩ := first_sim (P := P) (h.heap (w' := { w with drawn := w.drawn + 1 }) rfl) hx hnew
      obtain ⟨z', hz1', hz2', hz3'⟩ := q5x (P := P) (w := { w with drawn := w.drawn + 1 }) μ hz
      have hzs' : z'.cells.size = k := by have := hz3'.1; simp at this; omega
      obtain ⟨ti', hti', hbb'⟩ := q7v (P := P) (w := { w with drawn := w.drawn + 1 }) hby
      have ho := hlr.1
      simp at ho
      have hsize : (olds ++ ds2 ++ Builtin.zeroCells z'.cells (cap - (sLen + n))).size = cap * k := by
       simp only [Array.size_append, q9n, hzs', f3', ← ho, hol, hnl]
       rw [← Nat.add_mul, ← Nat.add_mul]
       congr 1; omega
      have htake : (olds ++ ds2 ++ Builtin.zeroCells z'.cells (cap - (sLen + n))).toList.take (old ++ new).length = olds.toList ++ ds2.toList := by
       rw [Array.toList_append, Array.toList_append, List.take_left']
       simp [← ho, f3']
      obtain ⟨μ', k1, k2, k3, k4⟩ := row_sim hW (t := e) (cs := old ++ new) (ds := olds ++ ds2 ++ Builtin.zeroCells z'.cells (cap - (sLen + n))) k (sLen + n) cap (0, 0)
       (by rw [hsize, List.length_append, hol, hnl, ← Nat.add_mul]; exact Nat.mul_le_mul_right _ hcapge) (by rw [htake]; exact hlr.append f2') (.inl (Nat.le_refl _)) hcapge (by rw [hsize]; exact Nat.le_refl _)
      refine ⟨_, _, μ', ?_, k1, k2, ((Below.refl base w).drew).trans k3, k4⟩
      unfold Builtin.append_
      have e1 : (#[t, t2] : Array TypeId)[0]? = some t := rfl
      have e2 : (#[t, t2] : Array TypeId)[1]? = some t2 := rfl
      have e3 : (#[.slice b0 sLen sCap, x'] : Array Value)[0]? = some (.slice b0 sLen sCap) := rfl
      have e4 : (#[.slice b0 sLen sCap, x'] : Array Value)[1]? = some x' := rfl
      simp only [e1, e2, e3, e4]
      rw [Sem.run_bind, q0v hu]
      simp only [Result.andThen_ok]
      rw [Sem.run_bind, q1t hk]
      simp only [Result.andThen_ok]
      rw [Sem.run_bind, q0v hu2]
      simp only [Result.andThen_ok]
      rw [Sem.run_bind, Sem.run_pure]
      simp only [Result.andThen_ok, Bool.false_eq_true, if_false, Bool.not_false, if_true]
      rw [Sem.run_bind, hlx]
      simp only [Result.andThen_ok]
      rw [if_neg (by omega)]
      rw [Sem.run_bind, hti]
      simp only [Result.andThen_ok, hbb]
      have e5 : ¬ ((((sLen + n : Nat) : Int) > IntKind.i64.max) ∧ (False ∨ by_ = 0)) := by
       rintro ⟨_, h | h⟩
       ·exact h
       ·omega
      rw [if_neg (by simpa using e5)]
      rw [Sem.run_bind, hti]
      simp only [Result.andThen_ok, hbb]
      have hnx := next_le (sLen + n) sCap hcap
      have e6 : Builtin.nextslicecap (sLen + n) sCap * by_ ≤ 2 ^ 48 := by
       have := Nat.mul_le_mul_right by_ hnx
       rw [Nat.mul_assoc] at this
       omega
      rw [if_neg (by omega)]
      simp only [Sem.run_bind, run_choose, Question.forced, Bool.false_eq_true, if_false, Result.andThen_ok, hti', run_askRoom, hold, f1', hz1', Sem.run_pure, newRow, run_newObj]
      rfl
     split at ha
     ·-- nil
      have := hs.nils_inv; subst this
      split at ha
      ·rename_i hb
       split at ha
       ·rename_i h0
        simp only [Option.some.injEq, Prod.mk.injEq] at ha
        obtain ⟨rfl, rfl⟩ := ha
        subst h0
        refine ⟨.slice none 0 0, w, μ, ?_, Le.refl _ μ, h, Below.refl _ _, .one .nils⟩
        unfold Builtin.append_
        have e1 : (#[t, t2] : Array TypeId)[0]? = some t := rfl
        have e2 : (#[t, t2] : Array TypeId)[1]? = some t2 := rfl
        have e3 : (#[.slice none 0 0, x'] : Array Value)[0]? = some (.slice none 0 0) := rfl
        have e4 : (#[.slice none 0 0, x'] : Array Value)[1]? = some x' := rfl
        simp only [e1, e2, e3, e4]
        rw [Sem.run_bind, q0v hu]
        simp only [Result.andThen_ok]
        rw [Sem.run_bind, q1t hk]
        simp only [Result.andThen_ok]
        rw [Sem.run_bind, q0v hu2]
        simp only [Result.andThen_ok]
        rw [Sem.run_bind, Sem.run_pure]
        simp only [Result.andThen_ok, Bool.false_eq_true, if_false, Bool.not_false, if_true]
        rw [Sem.run_bind, hlx]
        simp only [Result.andThen_ok]
        rw [if_pos (by omega)]
        simp only [Sem.run_bind, f1, Result.andThen_ok, Sem.run_pure]
       ·rename_i h0
        simp only [Option.some.injEq, Prod.mk.injEq] at ha
        obtain ⟨rfl, rfl⟩ := ha
        have := grow none 0 0 [] #[] H (by omega) (by rw [Nat.zero_add]; assumption) rfl (LR.nil μ) (by simp) h
        simpa using this
      ·simp at ha
     ·-- an empty literal
      obtain ⟨a, rfl⟩ := hs.emp_inv
      split at ha
      ·rename_i hb
       split at ha
       ·rename_i h0
        simp only [Option.some.injEq, Prod.mk.injEq] at ha
        obtain ⟨rfl, rfl⟩ := ha
        subst h0
        refine ⟨.slice (some a) 0 0, w, μ, ?_, Le.refl _ μ, h, Below.refl _ _, .one .emp⟩
        unfold Builtin.append_
        have e1 : (#[t, t2] : Array TypeId)[0]? = some t := rfl
        have e2 : (#[t, t2] : Array TypeId)[1]? = some t2 := rfl
        have e3 : (#[.slice (some a) 0 0, x'] : Array Value)[0]? = some (.slice (some a) 0 0) := rfl
        have e4 : (#[.slice (some a) 0 0, x'] : Array Value)[1]? = some x' := rfl
        simp only [e1, e2, e3, e4]
        rw [Sem.run_bind, q0v hu]
        simp only [Result.andThen_ok]
        rw [Sem.run_bind, q1t hk]
        simp only [Result.andThen_ok]
        rw [Sem.run_bind, q0v hu2]
        simp only [Result.andThen_ok]
        rw [Sem.run_bind, Sem.run_pure]
        simp only [Result.andThen_ok, Bool.false_eq_true, if_false, Bool.not_false, if_true]
        rw [Sem.run_bind, hlx]
        simp only [Result.andThen_ok]
        rw [if_pos (by omega)]
        have hds : ds.toList = [] := List.eq_nil_of_length_eq_zero (by simp [f3, hnl])
        have hst : (storeCells (a.add (0 * k)) ds.toList).run P w = .ok () w := by rw [hds]; rfl
        simp only [Sem.run_bind, f1, Result.andThen_ok, hst, Sem.run_pure]
       ·rename_i h0
        simp only [Option.some.injEq, Prod.mk.injEq] at ha
        obtain ⟨rfl, rfl⟩ := ha
        have := grow (some a) 0 0 [] #[] H (by omega) (by rw [Nat.zero_add]; assumption) (by simp [Builtin.firstCells, loadCells, loadCellsFrom]) (LR.nil μ) (by simp) h
        simpa using this
      ·simp at ha
     ·-- a slice
      rename_i b o m c
      obtain ⟨rfl, i, a, c', rfl, hb, hnc, haa⟩ := hs.sl_inv
      split at ha
      ·rename_i B hB
       obtain ⟨hB, hd⟩ := q3w.1 hB
       split at ha
       ·rename_i hcc
        obtain ⟨_, d2, d3, d4, d5⟩ := hcc
        simp only [Option.some.injEq, Prod.mk.injEq] at ha
        obtain ⟨rfl, rfl⟩ := ha
        have hsz := h.sz b i B hb hB
        have hblen := h.len b i B hb hB hd
        by_cases hfit : c + n ≤ c'
        ·-- there is room
         have hext : o + c * k + new.length ≤ i.ext ∧ (c' ≠ 0 → a = ⟨i.r, i.o + o, none⟩ ∧ o + c' * i.sz ≤ i.ext) := by
          refine ⟨?_, haa⟩
          by_cases hc0 : c' = 0
          ·have : n = 0 := by omega
           subst this; rw [hnl]; omega
          ·obtain ⟨_, hx2⟩ := haa hc0
           rw [hnl, Nat.add_assoc, ← Nat.add_mul]
           rw [← hsz, d2] at hx2
           have := Nat.mul_le_mul_right k hfit
           omega
         have hg := h.grow hb hB hd d3 o (c * k) (vs := new) (us := ds.toList) d5 hext.1 f2
         have hown := h.own b i B hb hB hd d3
         rw [show i.sz = k from by rw [← hsz, d2]] at hg
         refine ⟨.slice (some a) (c + n) c', w.setCells i.r (i.o + (o + c * k)) ds.toList, _, ?_, ?_, hg, q6k _ _ hown.1 _ _ _, ?_⟩
         ·unfold Builtin.append_
          have e1 : (#[t, t2] : Array TypeId)[0]? = some t := rfl
          have e2 : (#[t, t2] : Array TypeId)[1]? = some t2 := rfl
          have e3 : (#[.slice (some a) c c', x'] : Array Value)[0]? = some (.slice (some a) c c') := rfl
          have e4 : (#[.slice (some a) c c', x'] : Array Value)[1]? = some x' := rfl
          simp only [e1, e2, e3, e4]
          rw [Sem.run_bind, q0v hu]
          simp only [Result.andThen_ok]
          rw [Sem.run_bind, q1t hk]
          simp only [Result.andThen_ok]
          rw [Sem.run_bind, q0v hu2]
          simp only [Result.andThen_ok]
          rw [Sem.run_bind, Sem.run_pure]
          simp only [Result.andThen_ok, Bool.false_eq_true, if_false, Bool.not_false, if_true]
          rw [Sem.run_bind, hlx]
          simp only [Result.andThen_ok]
          rw [if_pos (by omega)]
          have hst : (storeCells (a.add (c * k)) ds.toList).run P w = .ok () (w.setCells i.r (i.o + (o + c * k)) ds.toList) := by
           by_cases hn0 : n = 0
           ·have : ds.toList = [] := by
             apply List.eq_nil_of_length_eq_zero
             simp [f3, hnl, hn0]
            rw [this]; rfl
           ·obtain ⟨rfl, hx2⟩ := haa (by omega)
            rw [q3x]
            have hone : ∀ u ∈ ds.toList, u.oneCell' = true := by
             intro u hu
             obtain ⟨j, hj⟩ := List.mem_iff_getElem?.1 hu
             have hjl : j < new.length := by rw [f2.1]; exact (List.getElem?_eq_some_iff.1 hj).1
             obtain ⟨u', p1, p2⟩ := f2.2 j new[j] (by simp [hjl])
             rw [hj] at p1; injection p1 with p1; subst p1
             exact p2.one'
            have hj' : ∀ j, j < ds.toList.length → o + c * k + j < i.ext := by
             intro j hj
             simp [f3] at hj
             omega
            have := run_storeCells_cells (P := P) i.r (i.o + o + c * k) ds.toList 0 w (fun j hj => by
              obtain ⟨u, hu⟩ := (hown.2 (o + c * k + j) (hj' j hj)).1
              rw [show i.o + o + c * k + 0 + j = i.o + (o + c * k + j) by omega, hu]; rfl) (fun j hj => by
              have := (hown.2 (o + c * k + j) (hj' j hj)).2
              rw [show i.o + o + c * k + 0 + j = i.o + (o + c * k + j) by omega]; exact this) hone
            simp only [Nat.add_zero] at this
            rw [this, Nat.add_assoc]
          simp only [Sem.run_bind, f1, Result.andThen_ok, hst, Sem.run_pure]
         ·exact Le.ext h _
         ·refine .one (.sl (i := ⟨i.r, i.o + o, i.ext - o, k⟩) (by simp [ext, List.length_set]) hfit (fun hc0 => ?_))
          obtain ⟨rfl, hx2⟩ := haa hc0
          rw [← hsz, d2] at hx2
          exact ⟨by simp, by simp only; omega⟩
        ·-- a new row
         have hkill := h.kill hB
         have hold : ∃ olds, (Builtin.firstCells k c (.slice (some a) c c')).run P { w with drawn := w.drawn + 1 } = .ok olds { w with drawn := w.drawn + 1 } ∧ LR μ ((B.c.drop o).take (c * k)) olds.toList := by
          by_cases hc0 : c = 0
          ·subst hc0
           exact ⟨#[], by simp [Builtin.firstCells, loadCells, loadCellsFrom], by simpa using LR.nil μ⟩
          ·obtain ⟨rfl, _⟩ := haa (by omega)
           obtain ⟨ds', g1, g2, g3⟩ := stretch (h.heap (w' := { w with drawn := w.drawn + 1 }) rfl) hb hB hd o (c * k) d5
           have hr := run_cells (P := P) { w with drawn := w.drawn + 1 } i.r (i.o + o) ds' g3
           rw [g2] at hr
           exact ⟨ds'.toArray, by simpa [Builtin.firstCells] using hr, by simpa using g1⟩
         obtain ⟨olds, o1, o2⟩ := hold
         have := grow (some a) c c' ((B.c.drop o).take (c * k)) olds (H.set b { B with dead := true }) (by omega) d4 o1 o2 (by simp; omega) hkill
         simpa using this
       ·simp at ha
      ·simp at ha
     ·simp at ha
    ·simp at ha
  ·simp at ha
 ·rename_i e he he2
  exact appendN_sim h he hs hx ha
 ·simp at ha

end
end Gx
end
