/- The iterator over the powers of a primitive root. -/
import Derived.Test.YtehnbdbhjeffaaaGreatGz10
import Derived.Test.YtehnbdbhjeffaaaGreatGz34
import Derived.WalkKit
import Derived.TacticsIn
import Derived.BigFrameIn
import Derived.RangeFuncFrom
import Derived.RangeFuncLeaves
set_option linter.all false
section
set_option autoImplicit false
namespace Gx
open Go Go.RowKit Go.Proofs
def pwn (g p x : Int) : Int := (wrap64 (x * g)).tmod p
def pw (g p : Int) : Nat → Int → List Int
 | 0, _ => []
 | n + 1, x => x :: pw g p n (pwn g p x)
def pwx (g p : Int) : Nat → Int → Int
 | 0, x => x
 | n + 1, x => pwx g p n (pwn g p x)
theorem pwx_succ (g p : Int) : ∀ (n : Nat) (x : Int), pwx g p (n + 1) x = pwn g p (pwx g p n x)
 | 0, x => rfl
 | n + 1, x => pwx_succ g p n (pwn g p x)
theorem pw_snoc (g p : Int) : ∀ (n : Nat) (x : Int), pw g p (n + 1) x = pw g p n x ++ [pwx g p n x]
 | 0, x => rfl
 | n + 1, x => by
  show x :: pw g p (n + 1) (pwn g p x) = x :: (pw g p n (pwn g p x) ++ [pwx g p n (pwn g p x)])
  rw [pw_snoc g p n]
theorem pw_len (g p : Int) : ∀ (n : Nat) (x : Int), (pw g p n x).length = n
 | 0, x => rfl
 | n + 1, x => by simp [pw, pw_len g p n]
theorem pwx_mem (g p : Int) : ∀ (n i : Nat) (x : Int), i < n → pwx g p i x ∈ pw g p n x
 | 0, i, x, h => by omega
 | n + 1, 0, x, h => List.mem_cons_self
 | n + 1, i + 1, x, h => List.mem_cons_of_mem _ (pwx_mem g p n i (pwn g p x) (by omega))
def left13 (n : Nat) (a : Act) : Nat := match a.tmps.getD 13 undef with
 | .int _ k => n - k.toNat
 | _ => 0
theorem left13_of {n : Nat} {a : Act} {k : IntKind} {i : Int} (h : a.tmps.getD 13 undef = .int k i) : left13 n a = n - i.toNat := by
 unfold left13; rw [h]
set_option maxRecDepth 100000 in
set_option maxHeartbeats 2000000 in
theorem powers_stops (F : Fence) (hro : F.round = none) (hfn : ∀ f, F.fn f) (hdp : F.depth = none) {b1 o1 b2 o2 : Nat} {p g : Int} {e0 : Value} {n dp : Nat} (hp : p ≠ 0) (hn : (n : Int) ≤ 9223372036854775806) (w : World) (h1 : w.cell? ⟨b1, o1, none⟩ = some (.int .i64 p)) (h2 : w.cell? ⟨b2, o2, none⟩ = some (.int .i64 n))
  (hPR : ∀ (k : Nat) (W : World), CallsIn F k Tryz.prog 154 #[.int .i64 p] W fun e W' => e = .returned (.tuple #[.int .i64 g, e0]) ∧ Below W.heap.size W W') :
  SeqStopsK (α := { x : Int // x ∈ pw g p n 1 }) F dp Tryz.prog 153 #[.pointer (some ⟨b1, o1, none⟩), .pointer (some ⟨b2, o2, none⟩)] (fun v => #[Value.int .i64 v.1]) (fun A B => A.cell? ⟨b1, o1, none⟩ = some (.int .i64 p) → B.cell? ⟨b1, o1, none⟩ = some (.int .i64 p)) (fun xs => xs.map (·.1) = pw g p n 1) (fun _ => True) n w := by
 intro l J Jx W hW hJ hJx hY h0
 have hlt1 : b1 < w.heap.size := by
  obtain ⟨o, ho, _⟩ := cells_of_cell h1
  exact (Array.getElem?_eq_some_iff.1 ho).1
 have hlt2 : b2 < w.heap.size := by
  obtain ⟨o, ho, _⟩ := cells_of_cell h2
  exact (Array.getElem?_eq_some_iff.1 ho).1
 have c1 : W.cell? ⟨b1, o1, none⟩ = some (.int .i64 p) := (hW.cell hlt1).trans h1
 have c2 : W.cell? ⟨b2, o2, none⟩ = some (.int .i64 n) := (hW.cell hlt2).trans h2
 refine callsIn_of_wp Tryz.func153 rfl (hfn _) ?_ hro
 simp only [Tryz.f153, List.size_toArray, List.length_cons, List.length_nil, Nat.reduceAdd, Nat.reduceSub, Array.replicate_succ, Array.replicate_zero, List.push_toArray, List.append_toArray, List.nil_append, List.cons_append, Array.size_append]
 gi_wp2
 refine (hPR _ W).mono ?_
 rintro e W1 ⟨rfl, hb1⟩
 have g1 : W.grownBy W1 none := ⟨hb1.go.os, hb1.go.tape, hb1.go.output, hb1.size, fun k hk _ => hb1.go.block k hk⟩
 have hJ1 : J [] W1 := hJ [] W W1 none h0 g1 (fun r e => by cases e)
 have c3 : W1.cell? ⟨b1, o1, none⟩ = some (.int .i64 p) := (hb1.cell (by have := hW.size; simp only; omega)).trans c1
 have c4 : W1.cell? ⟨b2, o2, none⟩ = some (.int .i64 n) := (hb1.cell (by have := hW.size; simp only; omega)).trans c2
 gi_wp2
 refine wpIn_loop (fun a W2 => ∃ (i : Nat) (pre : List { x : Int // x ∈ pw g p n 1 }) (u14 u15 u16 u17 u18 u19 u20 u21 u22 u23 u24 : Value), i ≤ n ∧ pre.map (·.1) = pw g p i 1 ∧ J pre W2 ∧ W2.cell? ⟨b1, o1, none⟩ = some (.int .i64 p) ∧ a = { tmps := #[.func (.yield l) #[] #[], .pointer (some ⟨b1, o1, none⟩), .pointer (some ⟨b2, o2, none⟩), undef, .int .i64 g, e0, .int .i64 (pwx g p i 1), .tuple #[.int .i64 g, e0], .int .i64 p, .tuple #[.int .i64 g, e0], .int .i64 g, e0, .int .i64 (n : Int), .int .i64 (i : Int), u14, u15, u16, u17, u18, u19, u20, u21, u22, u23, u24], defers := [] })
  (fun a _ => left13 n a) ⟨0, [], undef, undef, undef, undef, undef, undef, undef, undef, undef, undef, undef, Nat.zero_le _, rfl, hJ1, c3, rfl⟩ ?_
 rintro a W2 ⟨i, pre, u14, u15, u16, u17, u18, u19, u20, u21, u22, u23, u24, hi, hpre, hJi, hc, rfl⟩
 by_cases hin : i < n
 ·have hd : decide ((i : Int) < (n : Int)) = true := decide_eq_true (by omega)
  obtain ⟨f1, t1, as1, bo1, hy1, hR1⟩ := hY pre ⟨pwx g p i 1, pwx_mem g p n i 1 hin⟩ W2 hJi (by have := congrArg List.length hpre; rw [List.length_map, pw_len] at this; omega)
  simp only at hy1
  gi_wp2
  refine hR1.mono ?_
  rintro e W3 (⟨rfl, hJ3, hk3⟩ | ⟨rfl, hx3⟩)
  ·have hc3 := hk3 hc
   gi_wp2
   have e1 : pwx g p (i + 1) 1 = (wrap64 (pwx g p i 1 * g)).tmod p := pwx_succ g p i 1
   have e2 : ((i + 1 : Nat) : Int) = (i : Int) + 1 := by simp
   refine ⟨⟨i + 1, pre ++ [⟨pwx g p i 1, pwx_mem g p n i 1 hin⟩], _, _, _, _, _, _, _, _, _, _, _, hin, by rw [pw_snoc, List.map_append, hpre]; rfl, hJ3, hc3, by rw [e1, e2]⟩, ?_⟩
   rw [left13_of (k := .i64) (i := (i : Int) + 1) rfl, left13_of (k := .i64) (i := (i : Int)) rfl]
   omega
  ·gi_wp2
   refine bodyPost_ret (results_none rfl _ _ _) rfl ?_
   exact ⟨⟨_, rfl⟩, .inr ⟨_, trivial, hx3⟩⟩
 ·have hd : decide ((i : Int) < (n : Int)) = false := decide_eq_false (by omega)
  gi_wp2
  have : i = n := by omega
  subst this
  go_end0
  exact ⟨⟨_, rfl⟩, .inl ⟨_, hpre, hJi⟩⟩
end Gx
end
