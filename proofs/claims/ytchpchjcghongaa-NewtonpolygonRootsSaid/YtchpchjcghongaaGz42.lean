/- The law Roots. -/
import Derived.Test.YtchpchjcghongaaGz18
import Derived.Test.YtchpchjcghongaaGz41
set_option linter.all false
set_option linter.unusedVariables false
set_option linter.unusedSimpArgs false
set_option linter.unnecessarySimpa false
set_option linter.deprecated false
section
set_option autoImplicit false
namespace Gx
open Go Go.Proofs
set_option maxRecDepth 10000
theorem icall_yes {P : Program} {md : FuncId → Nat} {lk : Nat} {g : FuncId} {fn : Func} {body : Code} {args : List Value} {H : Heap} (hg : P.funcs[g]? = some fn) (hb : fn.body = some body) (h : Runs P md lk body (args0 args) H (Ends P fn fun u _ => u = .bool true)) : ∃ n H', icall P md n lk g args H = some (.bool true, H') := by
  obtain ⟨n, v, H', h1, h2⟩ := icall_of hg hb h
  exact ⟨n, H', by rw [h1, h2]⟩
/-- A bound of the coefficients. -/
theorem prodR_bound (rs : List Int) (h : ∀ r ∈ rs, r.natAbs ≤ 32768) (hl : rs.length ≤ 8) (k : Nat) : (cf (prodR rs) k).natAbs ≤ 294912 ^ rs.length := by
  have : ∀ n, n ≤ rs.length → ∀ k, (cf (prodR (rs.take n)) k).natAbs ≤ 294912 ^ n := by
    intro n
    induction n with
    | zero =>
      intro _ k
      by_cases hk : k < (prodR (rs.take 0)).length
      · have : prodR (rs.take 0) = [1] := rfl
        rw [this] at hk ⊢
        have hk0 : k = 0 := by simpa using hk
        subst hk0
        decide
      · rw [cf_ge (by omega)]; simp
    | succ n ih =>
      intro hn k
      have hi := ih (by omega)
      have hr := h rs[n] (List.getElem_mem _)
      have hfl := prodR_len (rs.take n)
      rw [List.length_take, Nat.min_eq_left (by omega)] at hfl
      rw [List.take_add_one, List.getElem?_eq_getElem (by omega), Option.toList_some, prodR_app, cf_mulP]
      have hlin : ∀ j, (cf (linP rs[n]) j).natAbs ≤ 32768 := by
        intro j
        by_cases hj : j < (linP rs[n]).length
        · have : j = 0 ∨ j = 1 := by simp [linP] at hj; omega
          rcases this with rfl | rfl
          · have : cf (linP rs[n]) 0 = 0 - rs[n] := rfl
            rw [this]; omega
          · have : cf (linP rs[n]) 1 = 1 := rfl
            rw [this]; decide
        · rw [cf_ge (by omega)]; simp
      have hm : ∀ i, (mulT (prodR (rs.take n)) (linP rs[n]) k i).natAbs ≤ 294912 ^ n * 32768 := by
        intro i
        unfold mulT
        split
        · rw [Int.natAbs_mul]; exact Nat.mul_le_mul (hi i) (hlin _)
        · simp
      have hs : ∀ m, (sumTo (mulT (prodR (rs.take n)) (linP rs[n]) k) m).natAbs ≤ m * (294912 ^ n * 32768) := by
        intro m
        induction m with
        | zero => simp [sumTo]
        | succ m ihm =>
          rw [sumTo, Nat.add_mul]
          have := Int.natAbs_add_le (sumTo (mulT (prodR (rs.take n)) (linP rs[n]) k) m) (mulT (prodR (rs.take n)) (linP rs[n]) k m)
          have := hm m
          omega
      have h1 := hs (prodR (rs.take n)).length
      rw [hfl] at h1
      unfold mulC
      rw [hfl]
      refine Nat.le_trans h1 ?_
      have h2 : (n + 1) * (294912 ^ n * 32768) ≤ 9 * (294912 ^ n * 32768) := Nat.mul_le_mul_right _ (by omega)
      refine Nat.le_trans h2 ?_
      rw [Nat.pow_succ]
      omega
  have := this rs.length (Nat.le_refl _) k
  rwa [List.take_length] at this
theorem prodR_bl (rs : List Int) (h : ∀ r ∈ rs, r.natAbs ≤ 32768) (hl : rs.length ≤ 8) : ∀ z ∈ prodR rs, (bytes z.natAbs).length ≤ 20 := by
  intro z hz
  obtain ⟨k, hk, rfl⟩ := List.getElem_of_mem hz
  rw [← cf_lt hk]
  have h1 := prodR_bound rs h hl k
  apply bl_le
  have h2 : 294912 ^ rs.length ≤ 294912 ^ 8 := Nat.pow_le_pow_right (by decide) hl
  have h3 : 294912 ^ 8 < 256 ^ 20 := by decide
  omega
theorem ok_prodR {rs : List Int} (h : ∀ r ∈ rs, r.natAbs ≤ 32768) (hl : rs.length ≤ 8) : OkP (prodR rs) := by
  have hlen := prodR_len rs
  refine ⟨by omega, fun z hz => by have := prodR_bl rs h hl z hz; omega, fun h0 => ?_⟩
  have e : (prodR rs).length - 1 = rs.length := by omega
  have h2 := prodR_last rs
  rw [cf_lt (by omega)] at h2
  have : (prodR rs)[(prodR rs).length - 1] = (prodR rs)[rs.length]'(by omega) := by congr 1
  rw [this, h2]; decide
theorem vp_15 {q n : Nat} (hq : 2 ≤ q) (hn : n ≠ 0) (h : n ≤ 32768) : vp q n < 20 := by
  apply Nat.lt_of_not_le
  intro hle
  have h1 := (vp_dvd hq hn 20).2 hle
  have h2 := Nat.le_of_dvd (by omega) h1
  have h3 : 2 ^ 20 ≤ q ^ 20 := Nat.pow_le_pow_left hq _
  have h4 : (2 : Nat) ^ 20 = 1048576 := by decide
  omega
/-- How often each exponent has been met. -/
def cntV (q : Nat) (rs : List Int) (v : Nat) : Nat := rs.countP fun r => decide (vz q r = (v : Int))
def cntL (q : Nat) (rs : List Int) : List MI := (List.range 20).map fun v => (⟨(cntV q rs v : Int)⟩ : MI)
theorem cntL_len (q : Nat) (rs : List Int) : (cntL q rs).length = 20 := by simp [cntL]
theorem cntV_app (q : Nat) (rs : List Int) (r : Int) (v : Nat) : cntV q (rs ++ [r]) v = cntV q rs v + if vz q r = (v : Int) then 1 else 0 := by
  unfold cntV
  rw [List.countP_append]
  congr 1
  by_cases h : vz q r = (v : Int) <;> simp [h]
theorem cntL_app (q : Nat) (rs : List Int) (r : Int) (v : Nat) (hv : vz q r = (v : Int)) (h20 : v < 20) : cntL q (rs ++ [r]) = (cntL q rs).set v ⟨((cntV q rs v + 1 : Nat) : Int)⟩ := by
  apply List.ext_getElem
  · rw [List.length_set, cntL_len, cntL_len]
  · intro i h1 h2
    rw [List.getElem_set]
    simp only [cntL, List.getElem_map, List.getElem_range]
    rw [cntV_app]
    by_cases hi : v = i
    · subst hi
      rw [if_pos hv, if_pos rfl]
    · rw [if_neg (by omega), if_neg hi]; rfl
theorem k_Of1 (lk : Nat) (H : Heap) : gcall Try.prog md lk 6 [.slice (some ⟨H.length, 0, none⟩) 1 1] (H ++ [⟨[.int .i64 1], 1, false⟩]) = some (.slice (some ⟨H.length + 1, 0, none⟩) 1 1, H ++ [⟨[.int .i64 1], 1, false⟩, lblk [(1 : Int)]]) := by
  have hs : SL (H ++ [lblk [(⟨1⟩ : MI)]]) (some ⟨H.length, 0, none⟩) [(⟨1⟩ : MI)] := Own.sl (lo := 0) (.inr ⟨_, rfl, Nat.zero_le _, ilive_new _ _⟩)
  have k := r11_Of lk (H ++ [lblk [(⟨1⟩ : MI)]]) (some ⟨H.length, 0, none⟩) [⟨1⟩] 1 rfl (by decide) (fun x hx => by simp at hx; subst hx; show I64 1; omega) (fun _ => by decide) hs
  have e : mkA (H ++ [lblk [(⟨1⟩ : MI)]]) ([(⟨1⟩ : MI)].map (·.v)) = some ⟨H.length + 1, 0, none⟩ := by simp [mkA]
  rw [e] at k
  have e2 : H ++ [lblk [(⟨1⟩ : MI)]] ++ mkN ([(⟨1⟩ : MI)].map (·.v)) = H ++ [⟨[.int .i64 1], 1, false⟩, lblk [(1 : Int)]] := by rw [List.append_assoc]; rfl
  rw [e2] at k
  exact k
theorem k_Of2 (lk : Nat) (H : Heap) (x : Int) (hx : I64 x) : gcall Try.prog md lk 6 [.slice (some ⟨H.length, 0, none⟩) 2 2] (H ++ [⟨[.int .i64 x, .int .i64 1], 1, false⟩]) = some (.slice (some ⟨H.length + 1, 0, none⟩) 2 2, H ++ [⟨[.int .i64 x, .int .i64 1], 1, false⟩, lblk [x, (1 : Int)]]) := by
  have hs : SL (H ++ [lblk [(⟨x⟩ : MI), ⟨1⟩]]) (some ⟨H.length, 0, none⟩) [(⟨x⟩ : MI), ⟨1⟩] := Own.sl (lo := 0) (.inr ⟨_, rfl, Nat.zero_le _, ilive_new _ _⟩)
  have k := r11_Of lk (H ++ [lblk [(⟨x⟩ : MI), ⟨1⟩]]) (some ⟨H.length, 0, none⟩) [⟨x⟩, ⟨1⟩] 2 rfl (by decide) (fun y hy => by
    simp at hy
    rcases hy with rfl | rfl
    · exact hx
    · show I64 1; omega) (fun _ => by show (1 : Int) ≠ 0; decide) hs
  have e : mkA (H ++ [lblk [(⟨x⟩ : MI), ⟨1⟩]]) ([(⟨x⟩ : MI), ⟨1⟩].map (·.v)) = some ⟨H.length + 1, 0, none⟩ := by simp [mkA]
  rw [e] at k
  have e2 : H ++ [lblk [(⟨x⟩ : MI), ⟨1⟩]] ++ mkN ([(⟨x⟩ : MI), ⟨1⟩].map (·.v)) = H ++ [⟨[.int .i64 x, .int .i64 1], 1, false⟩, lblk [x, (1 : Int)]] := by rw [List.append_assoc]; rfl
  rw [e2] at k
  exact k
theorem cells_mi (m : List MI) : cells m = m.map fun x => .int .i64 x.v := by
  induction m with
  | nil => rfl
  | cons x r ih => rw [cells_cons, ih]; rfl
theorem mi_get (m : List MI) (i : Nat) (h : i < m.length) : (cells m)[i]? = some (.int .i64 m[i].v) := by rw [cells_mi]; simp [h]
theorem mi_put (m : List MI) (i : Nat) (x : MI) (h : i < m.length) : iput (cells m) i [.int .i64 x.v] = cells (m.set i x) := by
  rw [cells_mi, cells_mi, List.map_set]
  unfold iput
  rw [List.set_eq_take_append_cons_drop, if_pos (by rw [List.length_map]; exact h)]
  simp
theorem tmod_zero {n : Int} {q : Nat} : Int.tmod n (q : Int) = 0 ↔ n.natAbs % q = 0 := by
  rw [← Int.dvd_iff_tmod_eq_zero]
  constructor
  · intro h
    have := Int.natAbs_dvd_natAbs.2 h
    rw [Int.natAbs_natCast] at this
    exact Nat.mod_eq_zero_of_dvd this
  · intro h
    have := Nat.dvd_of_mod_eq_zero h
    exact Int.dvd_natAbs.1 (Int.natCast_dvd_natCast.2 this)
theorem want_pre (c : Nat → Nat) (d k : Nat) (h : k + d = 20) : ∃ r, wantTo c 20 = wantTo c k ++ r := by
  induction d generalizing k with
  | zero => obtain rfl : k = 20 := by omega
            exact ⟨[], by simp⟩
  | succ d ih =>
    obtain ⟨r, hr⟩ := ih (k + 1) (by omega)
    have e : wantTo c (k + 1) = wantTo c k ++ if c (19 - k) = 0 then [] else [⟨((-((19 - k : Nat) : Int) : Int) : Rat), (c (19 - k) : Int)⟩] := rfl
    rw [e, List.append_assoc] at hr
    exact ⟨_, hr⟩
theorem want_at (c : Nat → Nat) (k : Nat) (hk : k < 20) (h0 : c (19 - k) ≠ 0) : ∃ h : (wantTo c k).length < (wantTo c 20).length, (wantTo c 20)[(wantTo c k).length] = ⟨((-((19 - k : Nat) : Int) : Int) : Rat), (c (19 - k) : Int)⟩ := by
  obtain ⟨r, hr⟩ := want_pre c (20 - (k + 1)) (k + 1) (by omega)
  have e : wantTo c (k + 1) = wantTo c k ++ if c (19 - k) = 0 then [] else [⟨((-((19 - k : Nat) : Int) : Int) : Rat), (c (19 - k) : Int)⟩] := rfl
  rw [e, if_neg h0, List.append_assoc] at hr
  have hl : (wantTo c k).length < (wantTo c 20).length := by rw [hr]; simp
  refine ⟨hl, ?_⟩
  simp only [hr]
  rw [List.getElem_append_right (Nat.le_refl _)]
  simp
theorem want_len (c : Nat → Nat) (k : Nat) : (wantTo c k).length ≤ k := by
  induction k with
  | zero => simp [wantTo]
  | succ k ih => rw [wantTo, List.length_append]; split <;> simp <;> omega
theorem roots_run (H : Heap) (a : Option Addr) (r : List I16) (p : Nat) (hs : SL H a r) (hl : r.length ≤ maxLen) (hp : p < 256) :
    ∃ fuel H', icall Try.prog md fuel H.length 3 [.slice a r.length r.length, .int .u8 (p : Int)] H = some (.bool true, H') := by
  have hl' : r.length ≤ 9223372036854775807 := Nat.le_trans hl (by decide)
  refine icall_yes Try.func3 rfl ?_
  have k0 := fun lk H' => l13_awake lk H'
  by_cases h8 : r.length ≤ 8
  case neg =>
    have f1 : (8 < ((r.length : Nat) : Int)) = True := eq_true (by omega)
    simp -dsimp only [go_sem, k0, f1]
  have f1 : (8 < ((r.length : Nat) : Int)) = False := eq_false (by omega)
  have e1 : IntKind.i64.wrap (p : Int) = (p : Int) := w64 (by omega) (by omega)
  have e2 : Int.tmod (p : Int) 100 = ((p % 100 : Nat) : Int) := by rw [Int.tmod_eq_emod_of_nonneg (by omega)]; omega
  have e3 : IntKind.i64.wrap (((p % 100 : Nat) : Int)) = ((p % 100 : Nat) : Int) := w64 (by omega) (by omega)
  have hq : p % 100 < 100 := Nat.mod_lt _ (by decide)
  generalize p % 100 = q at *
  have k1 := fun lk H' => r9_IsPrime lk H' (q : Int)
  simp -dsimp only [go_sem, k0, f1, e1, e2, e3, reps, k_Of1]
  obtain ⟨rs, hrs⟩ : ∃ rs, rs = r.map (·.v) := ⟨_, rfl⟩
  have hrl : rs.length = r.length := by rw [hrs, List.length_map]
  have hr16 : ∀ x ∈ rs, x.natAbs ≤ 32768 := by
    intro x hx
    rw [hrs] at hx
    obtain ⟨y, _, rfl⟩ := List.mem_map.1 hx
    have := y.h
    omega
  refine r_join_blk (fun σ H' => ∃ af, Ext H H' ∧ SL H' af (prodR rs) ∧ ilive H' (H.length + 2) = some (lblk (cntL q rs)) ∧ (∀ x ∈ rs, x ≠ 0) ∧ σ 5 = .int .i64 (q : Int) ∧ σ 6 = .slice af (r.length + 1) (r.length + 1) ∧ σ 7 = .pointer (some ⟨H.length + 2, 0, none⟩)) ?_ ?_
  · refine r_loop (m := fun (s : Nat × Option Addr) => r.length - s.1) (I := fun s σ H' => s.1 ≤ r.length ∧ Ext H H' ∧ H.length + 3 ≤ H'.length ∧ SL H' s.2 (prodR (rs.take s.1)) ∧ ilive H' (H.length + 2) = some (lblk (cntL q (rs.take s.1))) ∧ (∀ x ∈ rs.take s.1, x ≠ 0) ∧ σ 0 = .slice a r.length r.length ∧ σ 5 = .int .i64 (q : Int) ∧ σ 6 = .slice s.2 (s.1 + 1) (s.1 + 1) ∧ σ 7 = .pointer (some ⟨H.length + 2, 0, none⟩) ∧ σ 8 = .int .i64 (s.1 : Int)) (0, some ⟨H.length + 1, 0, none⟩) ?_ ?_
    · refine ⟨Nat.zero_le _, Ext.app _ _, by simp, Own.sl (lo := 0) (.inr ⟨_, rfl, Nat.zero_le _, ?_⟩), ?_, fun x h => by simp at h, rfl, rfl, rfl, rfl, rfl⟩
      · simp -dsimp only [go_sem]; rfl
      · simp -dsimp only [go_sem]; rfl
    · rintro ⟨i, af⟩ σ H' ⟨i1, hE, hlen, sf, hC, hnz, g0, g5, g6, g7, g8⟩
      simp only [] at i1 sf hC hnz g6 g8
      by_cases hi : i < r.length
      · have c1 : ((i : Int) < ((r.length : Nat) : Int)) = True := eq_true (by omega)
        obtain ⟨b, o, B, rfl, hB, hz, hgt⟩ := hs.i16 i hi
        have hB' := hE.live hB
        have hx16 := r[i].h
        have hxi : rs[i]'(by omega) = r[i].v := by simp [hrs]
        generalize r[i].v = x at *
        by_cases h0 : x = 0
        · have c2 : (x = 0) = True := eq_true h0
          simp -dsimp only [go_sem, g0, g5, g8, c1, hB', hz, hgt, hi, c2]
        have c2 : (x = 0) = False := eq_false h0
        by_cases hpr : 2 ≤ (q : Int) ∧ (q : Int) ≤ 65521 ∧ Pr (q : Int).toNat
        case neg =>
          rw [decide_eq_false hpr] at k1
          simp -dsimp only [go_sem, g0, g5, g8, c1, hB', hz, hgt, hi, c2, k1]
        rw [decide_eq_true hpr] at k1
        have hq2 : 2 ≤ q := by omega
        have w1 : IntKind.i64.wrap x = x := w64 (by omega) (by omega)
        have w2 : IntKind.i64.wrap (0 - x) = 0 - x := w64 (by omega) (by omega)
        have k2 := fun lk H' => k_Of2 lk H' (0 - x) (by omega)
        have hpl := prodR_len (rs.take i)
        rw [List.length_take, Nat.min_eq_left (by omega)] at hpl
        have ht16 : ∀ y ∈ rs.take i, y.natAbs ≤ 32768 := fun y hy => hr16 y (List.mem_of_mem_take hy)
        have hlast := prodR_last (rs.take i)
        rw [List.length_take, Nat.min_eq_left (by omega)] at hlast
        have sf2 : SL (H' ++ [⟨[.int .i64 (0 - x), .int .i64 1], 1, false⟩, lblk [0 - x, (1 : Int)]]) af (prodR (rs.take i)) := (Ext.app _ _).sl sf
        have sl2 : SL (H' ++ [⟨[.int .i64 (0 - x), .int .i64 1], 1, false⟩, lblk [0 - x, (1 : Int)]]) (some ⟨H'.length + 1, 0, none⟩) (linP x) := Own.sl (lo := 0) (.inr ⟨_, rfl, Nat.zero_le _, by simp -dsimp only [go_sem]; rfl⟩)
        have bx : (bytes (0 - x).natAbs).length ≤ 8 := bl_small (by omega)
        have b1 : (bytes (1 : Int).natAbs).length ≤ 8 := bl_small (by decide)
        have k3 := fun lk => r11_Mul lk (H' ++ [⟨[.int .i64 (0 - x), .int .i64 1], 1, false⟩, lblk [0 - x, (1 : Int)]]) af (some ⟨H'.length + 1, 0, none⟩) (prodR (rs.take i)) (linP x) (i + 1) 2 20 8 hpl.symm rfl (by omega) (by decide) (by decide) (by decide) (prodR_bl _ ht16 (by rw [List.length_take]; omega)) (fun z hz => by
          simp [linP] at hz
          rcases hz with rfl | rfl
          · have : -x = 0 - x := by omega
            rw [this]; exact bx
          · exact b1) (by omega) (by show 0 < 2; decide) (by rw [hpl, Nat.add_sub_cancel, hlast]; decide) (by show (1 : Int) ≠ 0; decide) sf2 sl2
        have htk : rs.take (i + 1) = rs.take i ++ [x] := by
          rw [List.take_add_one, List.getElem?_eq_getElem (by omega), Option.toList_some, hxi]
        have hpn : mulP (prodR (rs.take i)) (linP x) = prodR (rs.take (i + 1)) := by rw [htk, prodR_app]
        have hpl2 := prodR_len (rs.take (i + 1))
        rw [List.length_take, Nat.min_eq_left (by omega)] at hpl2
        rw [hpn, hpl2] at k3
        have sN := (mk_own (H' ++ [⟨[.int .i64 (0 - x), .int .i64 1], 1, false⟩, lblk [0 - x, (1 : Int)]]) (prodR (rs.take (i + 1)))).low (lo' := H.length + 3) (by rw [List.length_append]; omega)
        have hEN := (hE.more [⟨[.int .i64 (0 - x), .int .i64 1], 1, false⟩, lblk [0 - x, (1 : Int)]]).more (mkN (prodR (rs.take (i + 1))))
        have hCN := ilive_app (N := mkN (prodR (rs.take (i + 1)))) (ilive_app (N := [⟨[.int .i64 (0 - x), .int .i64 1], 1, false⟩, lblk [0 - x, (1 : Int)]]) hC)
        have hBN := hEN.live hB
        generalize mkA (H' ++ [⟨[.int .i64 (0 - x), .int .i64 1], 1, false⟩, lblk [0 - x, (1 : Int)]]) (prodR (rs.take (i + 1))) = aN at *
        simp only [List.append_assoc, List.cons_append, List.nil_append] at k3 sN hEN hCN hBN
        simp -dsimp only [go_sem, g0, g5, g6, g8, c1, hB', hz, hgt, hi, c2, k1, w1, w2, reps, k2, k3, hBN]
        have hKl : H.length + 3 ≤ (H' ++ ⟨[.int .i64 (0 - x), .int .i64 1], 1, false⟩ :: lblk [0 - x, (1 : Int)] :: mkN (prodR (rs.take (i + 1)))).length := by rw [List.length_append]; omega
        clear k3 sf2 sl2 k2
        generalize H' ++ ⟨[.int .i64 (0 - x), .int .i64 1], 1, false⟩ :: lblk [0 - x, (1 : Int)] :: mkN (prodR (rs.take (i + 1))) = K at *
        refine r_loop (m := fun (s : Int × Nat) => s.1.natAbs) (I := fun s σ H2 => s.1 ≠ 0 ∧ s.1.natAbs ≤ 32768 ∧ (s.2 : Int) + vz q s.1 = vz q x ∧ H2 = K ∧ σ 0 = .slice (some ⟨b, o, none⟩) r.length r.length ∧ σ 5 = .int .i64 (q : Int) ∧ σ 6 = .slice aN (i + 1 + 1) (i + 1 + 1) ∧ σ 7 = .pointer (some ⟨H.length + 2, 0, none⟩) ∧ σ 8 = .int .i64 (i : Int) ∧ σ 9 = .int .i64 (s.2 : Int) ∧ σ 10 = .int .i64 s.1) (x, 0) ⟨h0, by show x.natAbs ≤ 32768; omega, by show ((0 : Nat) : Int) + vz q x = vz q x; omega, rfl, g0, g5, rfl, g7, g8, rfl, rfl⟩ ?_
        clear g0 g5 g6 g7 g8
        rintro ⟨n, v⟩ σ H2 ⟨n0, n16, nv, rfl, g0, g5, g6, g7, g8, g9, g10⟩
        simp only [] at n0 n16 nv g9 g10
        have f3 : ((q : Int) = 0) = False := eq_false (by omega)
        have hv20 := vp_15 hq2 (show n.natAbs ≠ 0 by omega) n16
        have hx20 := vp_15 hq2 (show x.natAbs ≠ 0 by omega) (show x.natAbs ≤ 32768 by omega)
        by_cases hm : n.natAbs % q = 0
        · have c3 : Int.tmod n (q : Int) = 0 := tmod_zero.2 hm
          have hst := vp_step hq2 (show n.natAbs ≠ 0 by omega) hm
          have hna : (Int.tdiv n (q : Int)).natAbs = n.natAbs / q := by rw [Int.natAbs_tdiv, Int.natAbs_natCast]; rfl
          have hlt : n.natAbs / q < n.natAbs := Nat.div_lt_self (by omega) hq2
          have hn0 : n.natAbs / q ≠ 0 := by
            intro h
            have := Nat.div_mul_cancel (Nat.dvd_of_mod_eq_zero hm)
            rw [h] at this; omega
          have hvz : vz q n = vz q (Int.tdiv n (q : Int)) + 1 := by
            unfold vz
            rw [hna, hst]; omega
          generalize hd : Int.tdiv n (q : Int) = n2 at *
          have w3 : IntKind.i64.wrap n2 = n2 := w64 (by omega) (by omega)
          have hvv := vz_nn q n
          have hxx : vz q x < 20 := by unfold vz; omega
          have e7 : IntKind.i64.wrap ((v : Int) + 1) = ((v + 1 : Nat) : Int) := by rw [w64 (by omega) (by omega)]; omega
          simp -dsimp only [go_sem, g5, g9, g10, f3, c3, hd, w3, e7]
          exact ⟨by omega, by omega, next (n2, v + 1) (by show n2.natAbs < n.natAbs; omega) ⟨by show n2 ≠ 0; omega, by show n2.natAbs ≤ 32768; omega, by show ((v + 1 : Nat) : Int) + vz q n2 = vz q x; omega, rfl, g0, g5, g6, g7, g8, rfl, rfl⟩⟩
        · have c3 : (Int.tmod n (q : Int) = 0) = False := eq_false (fun h => hm (tmod_zero.1 h))
          have hvn : vz q n = 0 := by unfold vz; rw [vp_stop hm]; rfl
          have hvx : vz q x = (v : Int) := by omega
          have hv2 : v < 20 := by
            have : vz q x < 20 := by unfold vz; omega
            omega
          have hcl := cntL_len q (rs.take i)
          have hget : (cells (cntL q (rs.take i)))[v]? = some (.int .i64 (cntV q (rs.take i) v : Int)) := by
            rw [mi_get _ v (by omega)]; simp [cntL]
          have hput := mi_put (cntL q (rs.take i)) v ⟨((cntV q (rs.take i) v + 1 : Nat) : Int)⟩ (by omega)
          rw [← cntL_app q (rs.take i) x v hvx hv2, ← htk] at hput
          have hle8 : cntV q (rs.take i) v ≤ 8 := by
            have := List.countP_le_length (p := fun r => decide (vz q r = (v : Int))) (l := rs.take i)
            unfold cntV
            rw [List.length_take] at this
            omega
          have w4 : IntKind.i64.wrap ((cntV q (rs.take i) v : Int) + 1) = ((cntV q (rs.take i) v + 1 : Nat) : Int) := by rw [w64 (by omega) (by omega)]; omega
          have e7 : IntKind.i64.wrap ((i : Int) + 1) = ((i + 1 : Nat) : Int) := by rw [w64 (by omega) (by omega)]; omega
          have hcn2 : ilive H2 (H.length + 2) = some ⟨cells (cntL q (rs.take i)), 1, false⟩ := hCN
          have hcl2 : (cells (cntL q (rs.take i))).length = 20 := by rw [cells_mi, List.length_map, hcl]
          have hl20 : v < (cells (cntL q (rs.take i))).length := by omega
          simp -dsimp only [go_sem, g5, g7, g8, g9, g10, f3, c3, hcn2, hget, w4, hput, e7, hl20]
          refine ⟨by omega, hv2, hv2, next (i + 1, aN) (by show r.length - (i + 1) < r.length - i; omega) ⟨hi, hEN.set (by omega) _, by rw [List.length_set]; omega, (sN.set (fun c o e hc => ?_)).sl, ilive_set_self (by omega) rfl, fun y hy => ?_, g0, g5, g6, g7, rfl⟩⟩
          · rcases sN with ⟨h, _⟩ | ⟨b, h, h2, h4⟩
            · rw [h] at hc; cases hc
            · rw [h] at hc; cases hc; omega
          · simp only [] at hy
            rw [htk] at hy
            rcases List.mem_append.1 hy with hy | hy
            · exact hnz y hy
            · simp only [List.mem_singleton] at hy
              rw [hy]; exact h0
      · have c1 : ((i : Int) < ((r.length : Nat) : Int)) = False := eq_false (by omega)
        have hir : i = r.length := by omega
        subst hir
        have ht : rs.take r.length = rs := by rw [List.take_of_length_le]; omega
        rw [ht] at sf hC hnz
        simp -dsimp only [go_sem, g0, g8, c1]
        exact ⟨af, hE, sf, hC, hnz, g5, g6, g7⟩
  · rintro σ H' ⟨af, hE, sf, hC, hnz, g5, g6, g7⟩
    have hrlen := prodR_len rs
    by_cases hpr : 2 ≤ (q : Int) ∧ (q : Int) ≤ 65521 ∧ Pr (q : Int).toNat
    case neg =>
      rw [decide_eq_false hpr] at k1
      simp -dsimp only [go_sem, g5, k1]
    rw [decide_eq_true hpr] at k1
    have hPr : Pr q := hpr.2.2
    have okR := ok_prodR hr16 (by omega)
    have kS := fun lk => (p_Sides lk H' af ((prodR rs).map ofI) (r.length + 1) (q : Int) (by rw [List.length_map, hrlen, hrl]) (by omega) sf.toI).2 (prodR rs) q rfl rfl okR hPr.1 (by omega) hPr (by omega)
    rw [roots_sides hPr rs (fun y hy => ⟨hnz y hy, by have := vp_15 hPr.1 (show y.natAbs ≠ 0 by have := hnz y hy; omega) (hr16 y hy); unfold vz; omega⟩) (cntV q rs) (fun v => rfl)] at kS
    have hSl := want_len (cntV q rs) 20
    have sS := mk_sl H' (wantTo (cntV q rs) 20)
    have hC2 : ilive (H' ++ mkN (wantTo (cntV q rs) 20)) (H.length + 2) = some ⟨cells (cntL q rs), 1, false⟩ := ilive_app hC
    have hat := want_at (cntV q rs)
    have hle8 : ∀ v, cntV q rs v ≤ 8 := fun v => by
      have := List.countP_le_length (p := fun r => decide (vz q r = (v : Int))) (l := rs)
      unfold cntV; omega
    have hcget : ∀ v, v < 20 → (cells (cntL q rs))[v]? = some (.int .i64 (cntV q rs v : Int)) := fun v hv => by
      rw [mi_get _ v (by rw [cntL_len]; exact hv)]; simp [cntL]
    simp -dsimp only [go_sem, g5, g6, k1, kS]
    have hdef : ∀ k, wantTo (cntV q rs) (k + 1) = wantTo (cntV q rs) k ++ if cntV q rs (19 - k) = 0 then [] else [⟨((-((19 - k : Nat) : Int) : Int) : Rat), (cntV q rs (19 - k) : Int)⟩] := fun k => rfl
    have hlk := fun k => want_len (cntV q rs) k
    generalize hW : wantTo (cntV q rs) = Wt at *
    generalize cntV q rs = c at *
    generalize hS20 : Wt 20 = S at *
    generalize mkA H' S = aS at *
    generalize H' ++ mkN S = K at *
    have hlen20 : (cells (cntL q rs)).length = 20 := by rw [cells_mi, List.length_map, cntL_len]
    refine r_loop (m := fun k => 20 - k) (I := fun k σ H2 => k ≤ 20 ∧ H2 = K ∧ σ 7 = .pointer (some ⟨H.length + 2, 0, none⟩) ∧ σ 11 = .slice aS S.length S.length ∧ σ 13 = .int .i64 ((Wt k).length : Int) ∧ σ 14 = .int .i64 (19 - (k : Int))) 0 ⟨Nat.zero_le _, rfl, g7, rfl, by rw [← hW]; rfl, rfl⟩ ?_
    clear g5 g6 g7
    rintro k σ H2 ⟨hk, rfl, g7, g11, g13, g14⟩
    by_cases hk20 : k < 20
    · have hu : (19 : Int) - (k : Int) = ((19 - k : Nat) : Int) := by omega
      have hc0 := hcget (19 - k) (by omega)
      have hc8 := hle8 (19 - k)
      have hd := hdef k
      have hat' := hat k hk20
      have hnx : (19 : Int) - ((k + 1 : Nat) : Int) = ((19 - k : Nat) : Int) - 1 := by omega
      have hlkk := hlk k
      rw [hu] at g14
      have hu20 : 19 - k < 20 := by omega
      generalize 19 - k = u at *
      have c1 : (0 ≤ (u : Int)) = True := eq_true (by omega)
      have e7 : IntKind.i64.wrap ((u : Int) - 1) = (u : Int) - 1 := w64 (by omega) (by omega)
      by_cases h0 : c u = 0
      · have c2 : ((c u : Int) = 0) = True := eq_true (by omega)
        rw [if_pos h0, List.append_nil] at hd
        simp -dsimp only [go_sem, g7, g11, g13, g14, c1, hC2, hc0, c2, e7, hlen20, hu20]
        exact next (k + 1) (by show 20 - (k + 1) < 20 - k; omega) ⟨by omega, rfl, g7, g11, by rw [hd]; exact g13, by
          show Value.int .i64 ((u : Int) - 1) = .int .i64 (19 - ((k + 1 : Nat) : Int))
          rw [hnx]⟩
      · have c2 : ((c u : Int) = 0) = False := eq_false (by omega)
        rw [if_neg h0] at hd
        obtain ⟨hlt, hSe⟩ := hat' h0
        obtain ⟨bS, oS, BS, rfl, hBS, zS, gS, gSn⟩ := sS.allS (by omega)
        have gs := gS _ hlt
        have gsn := gSn _ hlt
        rw [hSe] at gs gsn
        have c3 : (((S.length : Nat) : Int) ≤ (((Wt k).length : Nat) : Int)) = False := eq_false (by omega)
        have w5 : IntKind.i64.wrap (0 - (u : Int)) = -(u : Int) := by rw [w64 (by omega) (by omega)]; omega
        have kF := fun lk H' => r3_FromInt lk H' (-(u : Int)) (by omega)
        have e8 : IntKind.i64.wrap ((((Wt k).length : Nat) : Int) + 1) = (((Wt k).length + 1 : Nat) : Int) := by rw [w64 (by omega) (by omega)]; omega
        have c4 : (((-(u : Int) : Int) : Rat) = ((-(u : Int) : Int) : Rat)) = True := eq_self _
        have c5 : ((c u : Int) = (c u : Int)) = True := eq_self _
        simp only [] at gs gsn
        simp -dsimp only [go_sem, g7, g11, g13, g14, c1, hC2, hc0, c2, c3, hBS, zS, gs, gsn, hlt, w5, kF, c4, c5, e7, e8, hlen20, hu20]
        exact next (k + 1) (by show 20 - (k + 1) < 20 - k; omega) ⟨by omega, rfl, g7, g11, by rw [hd, List.length_append]; rfl, by
          show Value.int .i64 ((u : Int) - 1) = .int .i64 (19 - ((k + 1 : Nat) : Int))
          rw [hnx]⟩
    · have hk2 : k = 20 := by omega
      subst hk2
      have c1 : ((19 : Int) - ((20 : Nat) : Int)) = -1 := rfl
      rw [c1] at g14
      rw [hS20] at g13
      have c2 : ((0 : Int) ≤ -1) = False := eq_false (by omega)
      have c3 : (((S.length : Nat) : Int) = ((S.length : Nat) : Int)) = True := eq_self _
      simp -dsimp only [go_sem, g11, g13, g14, c2, c3]
end Gx
end
