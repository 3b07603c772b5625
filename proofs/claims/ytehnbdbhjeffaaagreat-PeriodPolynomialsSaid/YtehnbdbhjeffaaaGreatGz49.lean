/- Calls of period.periods: one fuel for all that is told. -/
import Derived.Test.YtehnbdbhjeffaaaGreatGz41
import Derived.Test.YtehnbdbhjeffaaaGreatGz48
set_option linter.all false
section
set_option autoImplicit false
namespace Gx
open Go Go.RowKit Go.Proofs
open Go.Proofs.Tryz (prog)
theorem mdLe : MdLe md mdO := by
 intro g
 show md0 g ≠ 5 ∧ (md0 g ≠ 3 → (if g = 49 then 5 else md0 g) = md0 g)
 refine ⟨?_, fun h => ?_⟩
 ·unfold md0
  split
  ·decide
  ·split
   ·decide
   ·split
    ·decide
    ·split <;> decide
 ·split
  ·rename_i hg
   subst hg
   exact absurd (by decide : md0 49 = 3) h
  ·rfl
def allL (L : List Int) : Nat → List (List Int)
 | 0 => [[]]
 | k + 1 => [] :: (allL L k).flatMap fun ys => L.map (· :: ys)
theorem mem_allL {L : List Int} : ∀ (k : Nat) (ys : List Int), (∀ y ∈ ys, y ∈ L) → ys.length ≤ k → ys ∈ allL L k
 | 0, [], _, _ => by simp [allL]
 | 0, y :: ys, _, h => by simp at h
 | k + 1, [], _, _ => by simp [allL]
 | k + 1, y :: ys, hm, h => by
  refine List.mem_cons_of_mem _ (List.mem_flatMap.2 ⟨ys, mem_allL k ys (fun z hz => hm z (List.mem_cons_of_mem _ hz)) (by simpa using h), ?_⟩)
  exact List.mem_map.2 ⟨y, hm y List.mem_cons_self, rfl⟩
theorem one_fuel {β : Type} (Q : Nat → β → Prop) (mono : ∀ n m b, n ≤ m → Q n b → Q m b) : ∀ (l : List β), (∀ b ∈ l, ∃ n, Q n b) → ∃ n, ∀ b ∈ l, Q n b
 | [], _ => ⟨0, fun b hb => by simp at hb⟩
 | b :: l, h => by
  obtain ⟨n, hn⟩ := h b List.mem_cons_self
  obtain ⟨m, hm⟩ := one_fuel Q mono l (fun c hc => h c (List.mem_cons_of_mem _ hc))
  refine ⟨max n m, fun c hc => ?_⟩
  rcases List.mem_cons.1 hc with rfl | hc
  ·exact mono _ _ _ (Nat.le_max_left n m) hn
  ·exact mono _ _ _ (Nat.le_max_right n m) (hm c hc)
def IOs (lk : Nat) (draw : Bool) (ops : Array Oper) (σ : Env) (H : Heap) (σ' : Env) (H' : Heap) : Prop := ∃ n, iops prog (wrap md (q1k prog md n)) lk draw ops ops.toList σ H = some (σ', H')
def RN (lk : Nat) (σ : Env) (ys : List Int) (H H' : Heap) : Prop := ∃ n, rnds prog (wrap md (q1k prog md n)) lk w2p σ ys H = some H'
theorem up_le {n m : Nat} (h : n ≤ m) : q3p (wrap md (q1k prog md n)) (q3q mdO (q1k prog mdO m)) :=
 wrap0_up mdLe (fun lk g args H r hr => icall_up mdLe m lk g args H r (icall_le (q3b n m h) lk g args H r hr))
theorem per_pcall {lk : Nat} {args : List Value} {H H0 H1 H2 H3 H5 : Heap} {σ0 σ1 σ2 σ5 : Env} {q : ItV} {g : Int} {k : IntKind} {e : Int}
  (h0 : IOs lk false perR0 (q4j args) H σ0 H0) (h1 : IOs lk false perR1 σ0 H0 σ1 H1) (h2 : IOs lk true perR2 σ1 H1 σ2 H2) (hq : itVal (σ2 12) H2 = some q)
  (hp : prVal (w1j prog md 0 154 [.int .i64 q.p] []) = some (g, k, e))
  (hall : ∀ ys : List Int, (∀ y ∈ ys, y ∈ pw g q.p q.n 1) → ys.length ≤ q.n → ∃ Hk, RN lk σ2 ys H2 Hk ∧ q2n prog Hk 3 (.pointer (some ⟨q.b1, q.o1, none⟩)) = some (.int .i64 q.p))
  (h3 : RN lk σ2 (pw g q.p q.n 1) H2 H3) (h5 : IOs lk false perR5 σ2 H3 σ5 H5) : w1j prog mdO lk 49 args H = some (σ5 4, H5) := by
 obtain ⟨n0, h0⟩ := h0
 obtain ⟨n1, h1⟩ := h1
 obtain ⟨n2, h2⟩ := h2
 obtain ⟨n3, h3⟩ := h3
 obtain ⟨n5, h5⟩ := h5
 obtain ⟨np, hp'⟩ : ∃ n, prVal (wrap md (q1k prog md n) 0 154 [.int .i64 q.p] []) = some (g, k, e) := by
  cases hc : w1j prog md 0 154 [.int .i64 q.p] [] with
  | none => rw [hc] at hp; cases hp
  | some r =>
   obtain ⟨n, hn⟩ := q2o.1 hc
   exact ⟨n, by rw [hn, ← hc]; exact hp⟩
 obtain ⟨na, ha⟩ := one_fuel (fun n ys => ∃ Hk, rnds prog (wrap md (q1k prog md n)) lk w2p σ2 ys H2 = some Hk ∧ q2n prog Hk 3 (.pointer (some ⟨q.b1, q.o1, none⟩)) = some (.int .i64 q.p))
  (fun n m ys hnm ⟨Hk, a, b⟩ => ⟨Hk, w0f (q5k hnm) _ _ _ a, b⟩) ((allL (pw g q.p q.n 1) q.n).filter fun ys => decide (∀ y ∈ ys, y ∈ pw g q.p q.n 1) && decide (ys.length ≤ q.n)) (fun ys hys => by
   rw [List.mem_filter, Bool.and_eq_true, decide_eq_true_iff, decide_eq_true_iff] at hys
   obtain ⟨Hk, ⟨n, a⟩, b⟩ := hall ys hys.2.1 hys.2.2
   exact ⟨n, Hk, a, b⟩)
 obtain ⟨m, hm⟩ : ∃ m, m = max n0 (max n1 (max n2 (max n3 (max n5 (max np na))))) := ⟨_, rfl⟩
 refine pcall_orc (n := m) (by rfl) ?_
 show q9o _ lk 49 args H = _
 unfold q9o
 rw [if_pos rfl]
 refine Option.bind_eq_some_iff.2 ⟨(σ0, H0), q3i (up_le (by omega)) _ _ _ _ h0, ?_⟩
 refine Option.bind_eq_some_iff.2 ⟨(σ1, H1), q3i (up_le (by omega)) _ _ _ _ h1, ?_⟩
 refine Option.bind_eq_some_iff.2 ⟨(σ2, H2), q3i (up_le (by omega)) _ _ _ _ h2, ?_⟩
 refine Option.bind_eq_some_iff.2 ⟨q, hq, ?_⟩
 refine Option.bind_eq_some_iff.2 ⟨(g, k, e), ?_, ?_⟩
 ·cases hc : wrap md (q1k prog md np) 0 154 [.int .i64 q.p] [] with
  | none => rw [hc] at hp'; cases hp'
  | some r => rw [up_le (n := np) (m := m) (by omega) _ _ _ _ _ hc, ← hc]; exact hp'
 ·rw [if_pos]
  ·refine Option.bind_eq_some_iff.2 ⟨H3, w0f (up_le (by omega)) _ _ _ h3, ?_⟩
   exact Option.map_eq_some_iff.2 ⟨(σ5, H5), q3i (up_le (by omega)) _ _ _ _ h5, rfl⟩
  ·intro ys hy hl
   obtain ⟨Hk, a, b⟩ := ha ys (by
    rw [List.mem_filter, Bool.and_eq_true, decide_eq_true_iff, decide_eq_true_iff]
    exact ⟨mem_allL _ _ hy hl, hy, hl⟩)
   exact ⟨Hk, w0f (up_le (by omega)) _ _ _ a, b⟩
end Gx
end
