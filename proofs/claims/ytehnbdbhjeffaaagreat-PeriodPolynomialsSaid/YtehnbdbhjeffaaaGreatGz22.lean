/- Each operation of the mini interpreter is one of the model's: cuts, fields, indexes, append. -/
import Derived.Test.YtehnbdbhjeffaaaGreatGz21
set_option linter.all false
section
set_option autoImplicit false
namespace Gx
open Go Go.RowKit
section
variable {P : Program} {w : World} {base lk : Nat} {μ : Inj} {H : Heap}

def OR (μ : Inj) : Option Value → Option Value → Prop
 | none, none => True
 | some v, some v' => VR μ v v'
 | _, _ => False

theorem q9g {v v' : Value} {x : Option Nat} (h : q2l (some v) = some x) (hv : VR μ v v') : ∃ k n, v' = .int k n ∧ 0 ≤ n ∧ x = some n.toNat := by
 unfold q2l at h
 split at h
 ·simp at *
 ·rename_i k n heq
  injection heq with heq; subst heq
  split at h
  ·injection h with h; subst h
   exact ⟨k, n, hv.int_inv, by assumption, rfl⟩
  ·simp at h
 ·simp at h

theorem w1g {k : IntKind} {n : Int} (h0 : 0 ≤ n) (y : Nat) (hy : n.toNat ≤ y) (code : BoundsCode) : (Instr.sliceBound (.int k n) y code).run P w = .ok n.toNat w := by
 unfold Instr.sliceBound
 simp only [asIntOf, Sem.run_bind, Sem.run_pure, Result.andThen_ok]
 rw [if_pos ⟨h0, by omega⟩]; rfl

theorem q9k (isS : Bool) (len cap : Nat) {lo hi mx lo' hi' mx' : Option Value} {l h m : Option Nat} (hl : OR μ lo lo') (hh : OR μ hi hi') (hm : OR μ mx mx')
  (el : q2l lo = some l) (eh : q2l hi = some h) (em : q2l mx = some m) (c1 : l.getD 0 ≤ h.getD len) (c2 : h.getD len ≤ m.getD cap) (c3 : m.getD cap ≤ cap) (c4 : h.isSome ∨ m = none) :
  (Instr.sliceBounds isS len cap lo' hi' mx').run P w = .ok (l.getD 0, h.getD len, m.getD cap) w := by
 have low : ∀ (y : Nat), l.getD 0 ≤ y → ∀ code, (match lo' with | some v => Instr.sliceBound v y code | none => (pure 0 : Sem Nat)).run P w = .ok (l.getD 0) w := by
  intro y hy code
  cases lo with
  | none => cases lo' with
   | none => simp [q2l] at el; subst el; rfl
   | some v => exact hl.elim
  | some v => cases lo' with
   | none => exact hl.elim
   | some v' =>
    obtain ⟨k, n, rfl, h0, rfl⟩ := q9g el hl
    simp only [Option.getD_some] at hy ⊢
    exact w1g h0 y hy code
 cases mx with
 | none => cases mx' with
  | some v => exact hm.elim
  | none =>
   simp [q2l] at em; subst em
   simp only [Option.getD_none] at c2 c3 ⊢
   cases hi with
   | none => cases hi' with
    | some v => exact hh.elim
    | none =>
     simp [q2l] at eh; subst eh
     simp only [Option.getD_none] at c1 c2 ⊢
     unfold Instr.sliceBounds
     simp only [Sem.run_bind, Sem.run_pure, Result.andThen_ok]
     cases lo' with
     | none =>
      have := low len c1 .sliceB
      simp only [Sem.run_pure, Result.ok.injEq, and_true] at this
      simp only [Sem.run_bind, Sem.run_pure, Result.andThen_ok]
      rw [← this]
     | some v =>
      have : (Instr.sliceBound v len .sliceB).run P w = .ok (l.getD 0) w := low len c1 .sliceB
      simp only [Sem.run_bind, Sem.run_pure, Result.andThen_ok, Option.isSome_none, Bool.false_eq_true, if_false, this]
   | some v => cases hi' with
    | none => exact hh.elim
    | some v' =>
     obtain ⟨k, n, rfl, h0, rfl⟩ := q9g eh hh
     simp only [Option.getD_some] at c1 c2 ⊢
     unfold Instr.sliceBounds
     simp only [Sem.run_bind, Sem.run_pure, Result.andThen_ok, w1g h0 cap c2]
     cases lo' with
     | none =>
      have := low n.toNat c1 .sliceB
      simp only [Sem.run_pure, Result.ok.injEq, and_true] at this
      simp only [Sem.run_bind, Sem.run_pure, Result.andThen_ok]
      rw [← this]
     | some v =>
      have : (Instr.sliceBound v n.toNat .sliceB).run P w = .ok (l.getD 0) w := low n.toNat c1 .sliceB
      simp only [Sem.run_bind, Sem.run_pure, Result.andThen_ok, Option.isSome_none, Bool.false_eq_true, if_false, this]
 | some m0 => cases mx' with
  | none => exact hm.elim
  | some m' =>
   obtain ⟨k, mn, rfl, hm0, rfl⟩ := q9g em hm
   simp only [Option.getD_some] at c2 c3 ⊢
   cases hi with
   | none => cases hi' with
    | some v => exact hh.elim
    | none => simp [q2l] at eh; subst eh; simp at c4
   | some v => cases hi' with
    | none => exact hh.elim
    | some v' =>
     obtain ⟨k', n, rfl, h0, rfl⟩ := q9g eh hh
     simp only [Option.getD_some] at c1 c2 ⊢
     unfold Instr.sliceBounds
     simp only [Sem.run_bind, Sem.run_pure, Result.andThen_ok, w1g hm0 cap c3, w1g h0 mn.toNat c2]
     cases lo' with
     | none =>
      have := low n.toNat c1 .slice3C
      simp only [Sem.run_pure, Result.ok.injEq, and_true] at this
      simp only [Sem.run_bind, Sem.run_pure, Result.andThen_ok]
      rw [← this]
     | some v =>
      have : (Instr.sliceBound v n.toNat .slice3C).run P w = .ok (l.getD 0) w := low n.toNat c1 .slice3C
      simp only [Sem.run_bind, Sem.run_pure, Result.andThen_ok, Option.isSome_some, if_true, this]

theorem slice_sim (h : HR base lk μ H w) {t : TypeId} {x x' v : Value} {lo hi mx lo' hi' mx' : Option Value} (hx : VR μ x x') (hl : OR μ lo lo') (hh : OR μ hi hi') (hm : OR μ mx mx')
  (hs : q4w P H t x lo hi mx = some v) : ∃ v', (Instr.sliceAt t x' lo' hi' mx').run P w = .ok v' w ∧ VR μ v v' := by
 unfold q4w at hs
 split at hs
 ·rename_i l h' m el eh em
  split at hs
  ·-- a string
   rename_i s
   have := hx.str_inv; subst this
   split at hs
   ·rename_i hc
    obtain ⟨hc, rfl⟩ := hc
    simp only at hs
    split at hs
    ·rename_i hb
     injection hs with hs; subst hs
     refine ⟨_, ?_, .one (.str _)⟩
     have hu := q6u hc
     have hbr := q9k (P := P) (w := w) false s.size s.size hl hh hm el eh em hb.1 (by simpa using hb.2) (by simp) (.inr rfl)
     have hmx : mx' = none := by
      cases mx with
      | none => cases mx' with
       | none => rfl
       | some v => exact hm.elim
      | some v => exfalso; unfold q2l at em; split at em <;> simp at *
     subst hmx
     unfold Instr.sliceAt
     rw [Sem.run_bind, q0v hu]
     simp only [Result.andThen_ok]
     unfold Instr.slice
     rw [Sem.run_bind, q0v hu]
     simp only [Result.andThen_ok, Option.isSome_none, Bool.false_eq_true, if_false, Sem.run_bind, hbr, Sem.run_pure]
    ·simp at hs
   ·simp at hs
  ·-- nil
   have := hx.nils_inv; subst this
   split at hs
   ·rename_i hc
    obtain ⟨c1, c2, c3, c4, c5⟩ := hc
    injection hs with hs; subst hs
    obtain ⟨n, hn'⟩ := Option.isSome_iff_exists.1 c1
    obtain ⟨e, he, hn0⟩ := Option.bind_eq_some_iff.1 hn'
    have hn := q1t (w := w) hn0
    refine ⟨_, ?_, .one .nils⟩
    have hu := q2i he
    have hbr := q9k (P := P) (w := w) true 0 0 hl hh hm el eh em (by omega) (by omega) (by omega) c5
    unfold Instr.sliceAt
    rw [Sem.run_bind, q0v hu]
    simp only [Result.andThen_ok]
    unfold Instr.slice
    rw [Sem.run_bind, q0v hu]
    simp only [Result.andThen_ok, Sem.run_bind, hbr]
    simp only [hn, Result.andThen_ok, Sem.run_pure, c2, c3, c4]
    rfl
   ·simp at hs
  ·-- a slice
   rename_i b o n m'
   obtain ⟨rfl, i, a, c, rfl, hb, hnc, ha⟩ := hx.sl_inv
   split at hs
   ·simp at hs
   ·rename_i e he
    split at hs
    ·rename_i k B hk hB
     simp only at hs
     split at hs
     ·rename_i hc
      obtain ⟨c1, c2, c3, c4, c5, c6⟩ := hc
      injection hs with hs; subst hs
      have hu := q2i he
      have hmc : m.getD c ≤ c := by
       cases m with
       | none => simp
       | some q => simp only [Option.getD_some] at c4 c5 ⊢; omega
      have hhm : h'.getD m' ≤ m.getD c := by
       cases m with
       | none => simp only [Option.getD_none] at c4 ⊢; omega
       | some q => simpa using c4
      have hbr := q9k (P := P) (w := w) true m' c hl hh hm el eh em c3 hhm hmc c6
      refine ⟨.slice (if m.getD c = l.getD 0 then some a else (some a).map (·.add (l.getD 0 * k))) (h'.getD m' - l.getD 0) (m.getD c - l.getD 0), ?_, .one ?_⟩
      ·unfold Instr.sliceAt
       rw [Sem.run_bind, q0v hu]
       simp only [Result.andThen_ok]
       unfold Instr.slice
       rw [Sem.run_bind, q0v hu]
       simp only [Result.andThen_ok, Sem.run_bind, hbr, q1t hk, Sem.run_pure]
      ·have hsz := h.sz b i B hb hB
       by_cases hml : m.getD c = l.getD 0
       ·rw [if_pos hml]
        have e1 : m.getD c - l.getD 0 = 0 := by omega
        exact .sl hb (by omega) (fun hne => absurd e1 hne)
       ·rw [if_neg hml]
        refine .sl hb (by omega) (fun _ => ?_)
        obtain ⟨rfl, hext⟩ := ha (by omega)
        simp only
        rw [q3x]
        refine ⟨by rw [Nat.add_assoc], ?_⟩
        have : l.getD 0 * k + (m.getD c - l.getD 0) * k ≤ c * k := by
         rw [← Nat.add_mul]
         exact Nat.mul_le_mul_right _ (by omega)
        rw [← hsz, c1] at hext ⊢
        omega
     ·simp at hs
    ·simp at hs
  ·-- an array
   rename_i b o
   obtain ⟨i, hb, rfl⟩ := hx.ptr_inv
   split at hs
   ·simp at hs
   ·rename_i n e he
    split at hs
    ·rename_i k B hk hB
     obtain ⟨hB, hd⟩ := q3w.1 hB
     simp only at hs
     split at hs
     ·rename_i hc
      obtain ⟨c1, c0, c2, c3, c4, c5⟩ := hc
      injection hs with hs; subst hs
      subst c4
      have hu := w1d he
      have hbr := q9k (P := P) (w := w) false n n hl hh hm el eh em c2 (by simpa using c3) (by simp) (.inr rfl)
      refine ⟨.slice (some (if n = l.getD 0 then ⟨i.r, i.o + o, none⟩ else (⟨i.r, i.o + o, none⟩ : Addr).add (l.getD 0 * k))) (h'.getD n - l.getD 0) (n - l.getD 0), ?_, .one ?_⟩
      ·unfold Instr.sliceAt
       rw [Sem.run_bind, q0v hu]
       simp only [Result.andThen_ok, Instr.sureAddr, Sem.run_bind, Sem.run_pure, hbr, q1t hk, Option.getD_none]
      ·have hsz := h.sz b i B hb hB
       have hlen := h.len b i B hb hB hd
       by_cases hml : n = l.getD 0
       ·rw [if_pos hml]
        have e1 : n - l.getD 0 = 0 := by omega
        exact .sl hb (by omega) (fun hne => absurd e1 hne)
       ·rw [if_neg hml]
        refine .sl hb (by omega) (fun _ => ?_)
        rw [q3x]
        refine ⟨by rw [Nat.add_assoc], ?_⟩
        have : l.getD 0 * k + (n - l.getD 0) * k ≤ n * k := by
         rw [← Nat.add_mul]
         exact Nat.mul_le_mul_right _ (by omega)
        rw [← hsz, c1]
        omega
     ·simp at hs
    ·simp at hs
  ·simp at hs
 ·simp at hs
end
end Gx
end
