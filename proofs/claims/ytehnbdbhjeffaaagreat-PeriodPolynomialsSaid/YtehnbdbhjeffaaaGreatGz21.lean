/- Each operation of the mini interpreter is one of the model's: structs, slices, addresses, append. -/
import Derived.Test.YtehnbdbhjeffaaaGreatGz20
set_option linter.all false
section
set_option autoImplicit false
namespace Gx
open Go Go.RowKit
section
variable {P : Program} {w : World} {base lk : Nat} {μ : Inj} {H : Heap}

theorem build_sim {t : TypeId} {ps qs : List (Nat × Value)} {v : Value} (hp : PR μ ps qs) (h : ibuild P t ps = some v) :
  ∃ v', (Instr.build t qs.toArray).run P w = .ok v' w ∧ VR μ v v' := by
 unfold ibuild at h
 split at h
 ·rename_i zs pl hz hpl
  obtain ⟨z, hz1, hz2, hz3⟩ := q5x (P := P) (w := w) μ hz
  unfold q7q at hpl
  cases hf : w0c P t with
  | none => rw [hf] at hpl; simp at hpl
  | some fs =>
   rw [hf] at hpl
   simp only [Option.bind_some] at hpl
   have hm := places_run (P := P) (w := w) fs.toList pl hpl
   cases hi : q7d (fun i => pl[i]?) zs ps with
   | none => rw [hi] at h; simp at h
   | some out =>
    rw [hi] at h; simp at h; subst h
    have hz3' : LR μ zs z.cells.toList := hz3
    obtain ⟨rout, g1, g2⟩ := w4o ps qs zs z.cells out hp hz3' hi
    refine ⟨.agg rout, ?_, LR.of_agg g2⟩
    have hm2 : (fs.mapM (m := Sem) fun f => (do pure (f.offset, ← Go.sizeOf f.type) : Sem (Nat × Nat))).run P w = .ok pl.toArray w := by
     rw [Array.mapM_eq_mapM_toList, Sem.run_map, hm]; rfl
    have g1' : Instr.fill (fun (x : Nat) => pl.toArray[x]?) z.cells qs = some rout := by
     have : (fun (x : Nat) => pl.toArray[x]?) = (fun (i : Nat) => pl[i]?) := by funext x; simp
     rw [this]; exact g1
    unfold Instr.build
    rw [Sem.run_bind, hz1]
    simp only [Result.andThen_ok]
    rw [Sem.run_bind, q0v (w0b hf)]
    simp only [Result.andThen_ok]
    rw [Sem.run_bind, hm2]
    simp only [Result.andThen_ok]
    simp only [g1', Sem.run_pure]
 ·rename_i zs n e hz hpl ha
  obtain ⟨z, hz1, hz2, hz3⟩ := q5x (P := P) (w := w) μ hz
  split at h
  ·rename_i k hk
   cases hi : q7d (fun i => some (i * k, k)) zs ps with
   | none => rw [hi] at h; simp at h
   | some out =>
    rw [hi] at h; simp at h; subst h
    obtain ⟨rout, g1, g2⟩ := w4o ps qs zs z.cells out hp hz3 hi
    refine ⟨.agg rout, ?_, LR.of_agg g2⟩
    unfold Instr.build
    rw [Sem.run_bind, hz1]
    simp only [Result.andThen_ok]
    rw [Sem.run_bind, q0v (w1d ha)]
    simp only [Result.andThen_ok]
    rw [Sem.run_bind, q1t hk]
    simp only [Result.andThen_ok, g1, Sem.run_pure]
  ·simp at h
 ·simp at h

theorem reps_get (z : List Value) (n : Nat) : ∀ j, j < n * z.length → (reps z n)[j]? = z[j % z.length]? := by
 induction n with
 | zero => intro j hj; simp at hj
 | succ n ih =>
  intro j hj
  have hz : 0 < z.length := by
   rcases Nat.eq_zero_or_pos z.length with h | h
   ·rw [h] at hj; simp at hj
   ·exact h
  simp only [reps]
  by_cases h : j < z.length
  ·rw [List.getElem?_append_left h, Nat.mod_eq_of_lt h]
  ·rw [List.getElem?_append_right (by omega), ih _ (by rw [Nat.succ_mul] at hj; omega), ← Nat.mod_eq_sub_mod (by omega)]

theorem q4d (z : List Value) (n : Nat) : (reps z n).length = n * z.length := by
 induction n with
 | zero => simp [reps]
 | succ n ih => simp [reps, ih, Nat.succ_mul]; omega

theorem zeros_eq (z : Array Value) (n k : Nat) (hz : z.size = k) (hk : 0 < k) : ((Array.range (n * k)).map (z[· % z.size]!)).toList = reps z.toList n := by
 apply List.ext_getElem?
 intro j
 by_cases hj : j < n * k
 ·rw [reps_get _ _ _ (by simpa [hz] using hj)]
  have hm : j % k < k := Nat.mod_lt _ hk
  simp [hz, hj, Array.getElem!_eq_getD, hm]
 ·rw [List.getElem?_eq_none (by simp; omega), List.getElem?_eq_none (by rw [q4d]; simp [hz]; omega)]

theorem LR.reps {z z' : List Value} (h : LR μ z z') : ∀ n, LR μ (reps z n) (reps z' n)
 | 0 => LR.nil μ
 | n + 1 => h.append (LR.reps h n)

theorem q9w (h : HR base lk μ H w) {t : TypeId} {len : Nat} {ps qs : List (Nat × Value)} {v : Value} {H' : Heap} (hp : PR μ ps qs) (hb : q2e P H t len ps = some (v, H')) :
  ∃ v' w' μ', (Instr.buildSlice t len qs.toArray).run P w = .ok v' w' ∧ Le H.length μ μ' ∧ HR base lk μ' H' w' ∧ Below base w w' ∧ VR μ' v v' ∧ (len = 0 → VR μ' lit0 v') := by
 unfold q2e at hb
 split at hb
 ·simp at hb
 ·rename_i e he
  split at hb
  ·rename_i n zs hn hz
   split at hb
   ·rename_i hc
    obtain ⟨c1, c2, c3⟩ := hc
    cases hi : q7d (fun i => some (i * n, n)) (reps zs len) ps with
    | none => rw [hi] at hb; simp at hb
    | some out =>
     rw [hi] at hb; simp at hb
     obtain ⟨rfl, rfl⟩ := hb
     obtain ⟨z, hz1, hz2, hz3⟩ := q5x (P := P) (w := w) μ hz
     have hzs : z.cells.size = n := by have := hz3.1; simp at this; omega
     let zero : Array Value := if len * n = 0 then #[] else z.cells
     have hzrun : (if len * n = 0 then (pure #[] : Sem (Array Value)) else do pure (← zeroValue e).cells).run P w = .ok zero w := by
      by_cases h0 : len * n = 0
      ·simp [zero, h0]
      ·simp [zero, h0, hz1]
     have hzero : ((Array.range (len * n)).map (zero[· % zero.size]!)).toList = reps z.cells.toList len := by
      by_cases h0 : len * n = 0
      ·have hl : len = 0 := by
        rcases Nat.mul_eq_zero.1 h0 with h | h
        ·exact h
        ·omega
       subst hl; simp [reps]
      ·simp only [zero, if_neg h0]; exact zeros_eq z.cells len n hzs c1
     obtain ⟨rout, g1, g2⟩ := w4o ps qs (reps zs len) ((Array.range (len * n)).map (zero[· % zero.size]!)) out hp (by rw [hzero]; exact hz3.reps len) hi
     have gl := g2.1
     simp at gl
     have hlen : out.length = len * n := by
      have : ∀ (ps : List (Nat × Value)) (a b : List Value), q7d (fun i => some (i * n, n)) a ps = some b → b.length = a.length := by
       intro ps
       induction ps with
       | nil => intro a b hab; simp [q7d] at hab; rw [hab]
       | cons p ps ih =>
        intro a b hab
        simp only [q7d] at hab
        split at hab
        ·split at hab
         ·rename_i hh
          have := ih _ _ hab
          rw [this]; unfold iput; simp; omega
         ·simp at hab
        ·simp at hab
      rw [this _ _ _ hi, q4d, c2]
     obtain ⟨μ', k1, k2, k3, k4⟩ := row_sim h (t := e) (cs := out) (ds := rout) n len len (0, 0) (by omega) (by rw [List.take_of_length_le (by simp; omega)]; exact g2) (.inl (Nat.le_refl _)) (Nat.le_refl _) (by omega)
     refine ⟨.slice (some ⟨w.heap.size, 0, none⟩) len len, _, μ', ?_, k1, k2, k3, k4, fun hl0 => by subst hl0; exact .one .emp⟩
     unfold Instr.buildSlice
     rw [Sem.run_bind, q0v (q2i he)]
     simp only [Result.andThen_ok]
     rw [Sem.run_bind, q1t hn]
     simp only [Result.andThen_ok]
     rw [if_neg (by omega)]
     by_cases h0 : len * n = 0
     ·have hzd : zero = #[] := by simp [zero, h0]
      rw [hzd] at g1
      rw [if_pos h0]
      simp only [Sem.run_bind, Sem.run_pure, Result.andThen_ok, g1, newRow, run_newObj]
      rfl
     ·have hzd : zero = z.cells := by simp [zero, h0]
      rw [hzd] at g1
      rw [if_neg h0]
      simp only [Sem.run_bind, hz1, Sem.run_pure, Result.andThen_ok, g1, newRow, run_newObj]
      rfl
   ·simp at hb
  ·simp at hb

theorem VR.int_inv {k : IntKind} {n : Int} {v : Value} (h : VR μ (.int k n) v) : v = .int k n := by
 cases h with
 | one h => cases h; rfl
theorem VR.bool_inv {b : Bool} {v : Value} (h : VR μ (.bool b) v) : v = .bool b := by
 cases h with
 | one h => cases h; rfl
theorem VR.str_inv {s : ByteArray} {v : Value} (h : VR μ (.string s) v) : v = .string s := by
 cases h with
 | one h => cases h; rfl
theorem VR.nils_inv {v : Value} (h : VR μ (.slice none 0 0) v) : v = .slice none 0 0 := by
 cases h with
 | one h => cases h; rfl
theorem VR.emp_inv {b o e : Nat} {v : Value} (h : VR μ (.slice (some ⟨b, o, some e⟩) 0 0) v) : ∃ a, v = .slice (some a) 0 0 := by
 cases h with
 | one h => cases h with
  | emp => exact ⟨_, rfl⟩
theorem VR.sl_inv {b o n m : Nat} {v : Value} (h : VR μ (.slice (some ⟨b, o, none⟩) n m) v) : m = n ∧ ∃ i a c, v = .slice (some a) n c ∧ μ b = some i ∧ n ≤ c ∧ (c ≠ 0 → a = ⟨i.r, i.o + o, none⟩ ∧ o + c * i.sz ≤ i.ext) := by
 cases h with
 | one h => cases h with
  | sl h hn ha => exact ⟨rfl, _, _, _, rfl, h, hn, ha⟩

theorem makeSlice_sim (h : HR base lk μ H w) {t : TypeId} {l c l' c' v : Value} {H' : Heap} (hl : VR μ l l') (hc : VR μ c c') (hm : q4h P H t l c = some (v, H')) :
  ∃ v' w' μ', (Instr.makeSlice t l' c').run P w = .ok v' w' ∧ Le H.length μ μ' ∧ HR base lk μ' H' w' ∧ Below base w w' ∧ VR μ' v v' := by
 unfold q4h at hm
 split at hm
 ·rename_i l c
  have := hl.int_inv; subst this
  have := hc.int_inv; subst this
  split at hm
  ·simp at hm
  ·rename_i e he
   split at hm
   ·rename_i n b zs hn hb hz
    split at hm
    ·rename_i hcond
     obtain ⟨c1, c2, c3, c4, c5, c6⟩ := hcond
     simp only [Option.some.injEq, Prod.mk.injEq] at hm
     obtain ⟨rfl, rfl⟩ := hm
     obtain ⟨ti, hti, hbb⟩ := q7v (P := P) (w := w) hb
     obtain ⟨z, hz1, hz2, hz3⟩ := q5x (P := P) (w := w) μ hz
     have hzs : z.cells.size = n := by have := hz3.1; simp at this; omega
     have hwl : IntKind.i64.wrap l = l := by rw [IntWalk.i64_in]; omega
     have hwc : IntKind.i64.wrap c = c := by rw [IntWalk.i64_in]; omega
     obtain ⟨N, rfl⟩ := Int.eq_ofNat_of_zero_le (show 0 ≤ c by omega)
     obtain ⟨L, rfl⟩ := Int.eq_ofNat_of_zero_le c3
     let zero : Array Value := if N * n = 0 then #[] else z.cells
     have hzrun : (if N * n = 0 then (pure #[] : Sem (Array Value)) else do pure (← zeroValue e).cells).run P w = .ok zero w := by
      by_cases h0 : N * n = 0
      ·simp [zero, h0]
      ·simp [zero, h0, hz1]
     have hzero : ((Array.range (N * n)).map (zero[· % zero.size]!)).toList = reps z.cells.toList N := by
      by_cases h0 : N * n = 0
      ·have hl : N = 0 := by
        rcases Nat.mul_eq_zero.1 h0 with h | h
        ·exact h
        ·omega
       subst hl; simp [reps]
      ·simp only [zero, if_neg h0]; exact zeros_eq z.cells N n hzs c1
     have hsz : ((Array.range (N * n)).map (zero[· % zero.size]!)).size = N * n := by simp
     have hLN : L ≤ N := by omega
     have htake : ((Array.range (N * n)).map (zero[· % zero.size]!)).toList.take (reps zs L).length = reps z.cells.toList L := by
      rw [hzero, q4d, c2]
      have : ∀ (a b : Nat), a ≤ b → (reps z.cells.toList b).take (a * n) = reps z.cells.toList a := by
       intro a b hab
       apply List.ext_getElem?
       intro j
       rw [List.getElem?_take]
       split
       ·rename_i hj
        have hz' : z.cells.toList.length = n := by simpa using hzs
        rw [reps_get _ _ _ (by rw [hz']; exact Nat.lt_of_lt_of_le hj (Nat.mul_le_mul_right _ hab)), reps_get _ _ _ (by rw [hz']; exact hj)]
       ·rw [List.getElem?_eq_none]
        rw [q4d]; simp [hzs]; omega
      exact this L N hLN
     obtain ⟨μ', k1, k2, k3, k4⟩ := row_sim h (t := e) (cs := reps zs L) (ds := ((Array.range (N * n)).map (zero[· % zero.size]!))) n L N (0, 0)
      (by rw [q4d, hsz, c2]; exact Nat.mul_le_mul_right _ hLN) (by rw [htake]; exact hz3.reps L) (.inl (Nat.le_refl _)) hLN (by rw [hsz]; exact Nat.le_refl _)
     refine ⟨_, _, μ', ?_, k1, k2, k3, k4⟩
     unfold Instr.makeSlice
     rw [Sem.run_bind, q0v (q2i he)]
     simp only [Result.andThen_ok, asInt, asIntOf, Sem.run_bind, Sem.run_pure, hti, hwl, hwc, hbb]
     rw [if_neg]
     ·simp only [Sem.run_bind, run_askRoom, Result.andThen_ok, q1t hn]
      have e1 : (N : Int).toNat = N := by simp
      have e2 : (L : Int).toNat = L := by simp
      simp only [e1, e2]
      by_cases h0 : N * n = 0
      ·have hzd : zero = #[] := by simp [zero, h0]
       rw [if_pos h0, hzd]
       simp only [Sem.run_bind, Sem.run_pure, Result.andThen_ok, newRow, run_newObj]
       rfl
      ·have hzd : zero = z.cells := by simp [zero, h0]
       rw [if_neg h0, hzd]
       simp only [Sem.run_bind, hz1, Sem.run_pure, Result.andThen_ok, newRow, run_newObj]
       rfl
     ·simp
      omega
    ·simp at hm
   ·simp at hm
 ·simp at hm

end
end Gx
end
