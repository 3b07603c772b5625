/- Each operation of the mini interpreter is one of the model's: comparisons of structs, arithmetic, conversions. -/
import Derived.Test.YtehnbdbhjeffaaaGreatGz23
import Derived.Laws.StructEq
import Derived.Laws.BytesString
set_option linter.all false
section
set_option autoImplicit false
namespace Gx
open Go Go.RowKit
section
variable {P : Program} {w : World} {base lk : Nat} {μ : Inj} {H : Heap}

theorem eqCells_same : ∀ (ks : List Nat) (xs ys xs' ys' : List Value) (b : Bool), q0q ks xs ys = some b → LR μ xs xs' → LR μ ys ys' → xs' = xs ∧ ys' = ys ∧ xs.length = ks.length ∧ ys.length = ks.length := by
 intro ks
 induction ks with
 | nil =>
  intro xs ys xs' ys' b h hx hy
  unfold q0q at h
  split at h <;> simp_all
  have h1 := hx.1
  have h2 := hy.1
  simp at h1 h2
  exact ⟨List.length_eq_zero_iff.1 h1.symm, List.length_eq_zero_iff.1 h2.symm⟩
 | cons k ks ih =>
  intro xs ys xs' ys' b h hx hy
  have step : ∀ (x y : Value) (xr yr : List Value) (r : Bool), xs = x :: xr → ys = y :: yr → q0q ks xr yr = some r → (∀ v, VR0 μ x v → v = x) → (∀ v, VR0 μ y v → v = y) →
    xs' = xs ∧ ys' = ys ∧ xs.length = (k :: ks).length ∧ ys.length = (k :: ks).length := by
   intro x y xr yr r ex ey er px py
   subst ex; subst ey
   cases xs' with
   | nil => have := hx.1; simp at this
   | cons x' xr' =>
    cases ys' with
    | nil => have := hy.1; simp at this
    | cons y' yr' =>
     obtain ⟨u, a, c⟩ := hx.2 0 x rfl
     simp at a; subst a
     obtain ⟨u', a', c'⟩ := hy.2 0 y rfl
     simp at a'; subst a'
     have hx' : LR μ xr xr' := ⟨by have := hx.1; simpa using this, fun j v hj => by simpa using hx.2 (j + 1) v (by simpa using hj)⟩
     have hy' : LR μ yr yr' := ⟨by have := hy.1; simpa using this, fun j v hj => by simpa using hy.2 (j + 1) v (by simpa using hj)⟩
     obtain ⟨q1, q2, q3, q4⟩ := ih xr yr xr' yr' r er hx' hy'
     rw [px _ c, py _ c', q1, q2]
     exact ⟨rfl, rfl, by simp [q3], by simp [q4]⟩
  unfold q0q at h
  split at h
  ·simp_all
  ·rename_i ks' a xr b' yr hk
   injection hk with hk1 hk2; subst hk2
   cases he : q0q ks xr yr with
   | none => rw [he] at h; simp at h
   | some r => exact step _ _ xr yr r rfl rfl he (fun v hv => by cases hv; rfl) (fun v hv => by cases hv; rfl)
  ·rename_i ks' k1 a xr k2 b' yr hk
   injection hk with hk1 hk2; subst hk2
   split at h
   ·cases he : q0q ks xr yr with
    | none => rw [he] at h; simp at h
    | some r => exact step _ _ xr yr r rfl rfl he (fun v hv => by cases hv; rfl) (fun v hv => by cases hv; rfl)
   ·simp at h
  ·rename_i ks' a xr b' yr hk
   injection hk with hk1 hk2; subst hk2
   cases he : q0q ks xr yr with
   | none => rw [he] at h; simp at h
   | some r => exact step _ _ xr yr r rfl rfl he (fun v hv => by cases hv; rfl) (fun v hv => by cases hv; rfl)
  ·simp at h

theorem eqCells_len : ∀ (ks : List Nat) (xs ys : List Value) (b : Bool), q0q ks xs ys = some b → xs.length = ks.length ∧ ys.length = ks.length := by
 intro ks
 induction ks with
 | nil => intro xs ys b h; unfold q0q at h; split at h <;> simp_all
 | cons k ks ih =>
  intro xs ys b h
  unfold q0q at h
  split at h
  ·simp_all
  ·rename_i hk
   injection hk with hk1 hk2; subst hk2
   obtain ⟨r, hr, _⟩ := Option.map_eq_some_iff.1 h
   obtain ⟨a1, a2⟩ := ih _ _ _ hr; simp [a1, a2]
  ·rename_i hk
   injection hk with hk1 hk2; subst hk2
   split at h
   ·obtain ⟨r, hr, _⟩ := Option.map_eq_some_iff.1 h
    obtain ⟨a1, a2⟩ := ih _ _ _ hr; simp [a1, a2]
   ·simp at h
  ·rename_i hk
   injection hk with hk1 hk2; subst hk2
   obtain ⟨r, hr, _⟩ := Option.map_eq_some_iff.1 h
   obtain ⟨a1, a2⟩ := ih _ _ _ hr; simp [a1, a2]
  ·simp at h

theorem eqCells_append : ∀ (ks ks' : List Nat) (xs ys : List Value) (b : Bool), q0q (ks ++ ks') xs ys = some b →
  ∃ b1 b2, q0q ks (xs.take ks.length) (ys.take ks.length) = some b1 ∧ q0q ks' (xs.drop ks.length) (ys.drop ks.length) = some b2 ∧ b = (b1 && b2) := by
 intro ks
 induction ks with
 | nil => intro ks' xs ys b h; exact ⟨true, b, by simp [q0q], by simpa using h, by simp⟩
 | cons k ks ih =>
  intro ks' xs ys b h
  rw [List.cons_append] at h
  unfold q0q at h
  split at h
  ·simp_all
  ·rename_i hk
   injection hk with hk1 hk2; subst hk1; subst hk2
   obtain ⟨r, hr, rfl⟩ := Option.map_eq_some_iff.1 h
   obtain ⟨b1, b2, h1, h2, rfl⟩ := ih _ _ _ _ hr
   exact ⟨_, b2, by simp [q0q, h1]; rfl, by simpa using h2, by simp [Bool.and_assoc]⟩
  ·rename_i hk
   injection hk with hk1 hk2; subst hk1; subst hk2
   split at h
   ·rename_i hkk
    obtain ⟨r, hr, rfl⟩ := Option.map_eq_some_iff.1 h
    obtain ⟨b1, b2, h1, h2, rfl⟩ := ih _ _ _ _ hr
    exact ⟨_, b2, by simp [q0q, h1, hkk]; rfl, by simpa using h2, by simp [Bool.and_assoc]⟩
   ·simp at h
  ·rename_i hk
   injection hk with hk1 hk2; subst hk1; subst hk2
   obtain ⟨r, hr, rfl⟩ := Option.map_eq_some_iff.1 h
   obtain ⟨b1, b2, h1, h2, rfl⟩ := ih _ _ _ _ hr
   exact ⟨_, b2, by simp [q0q, h1]; rfl, by simpa using h2, by simp [Bool.and_assoc]⟩
  ·simp at h

theorem w0s {k : Nat} {xs ys : List Value} {b : Bool} (h : q0q [k] xs ys = some b) :
  (k = 0 ∧ ∃ p q, xs = [.bool p] ∧ ys = [.bool q] ∧ b = (p == q)) ∨ (k = 1 ∧ ∃ n p q, xs = [.int n p] ∧ ys = [.int n q] ∧ b = (p == q)) ∨ (k = 2 ∧ ∃ p q, xs = [.string p] ∧ ys = [.string q] ∧ b = (p.toList == q.toList)) := by
 obtain ⟨l1, l2⟩ := eqCells_len _ _ _ _ h
 unfold q0q at h
 split at h
 ·simp_all
 ·rename_i hk
  injection hk with hk1 hk2; subst hk1; subst hk2
  simp at l1 l2; subst l1; subst l2
  simp [q0q] at h
  exact .inl ⟨rfl, _, _, rfl, rfl, by rw [← h]⟩
 ·rename_i hk
  injection hk with hk1 hk2; subst hk1; subst hk2
  simp at l1 l2; subst l1; subst l2
  split at h
  ·rename_i e; subst e
   simp [q0q] at h
   exact .inr (.inl ⟨rfl, _, _, _, rfl, rfl, by rw [← h]⟩)
  ·simp at h
 ·rename_i hk
  injection hk with hk1 hk2; subst hk1; subst hk2
  simp at l1 l2; subst l1; subst l2
  simp [q0q] at h
  exact .inr (.inr ⟨rfl, _, _, rfl, rfl, by rw [← h]⟩)
 ·simp at h

theorem flat_eq : ∀ (d : Nat) (t : TypeId) (ks : List Nat), flatK P d t = some ks → ∀ (D : Nat), d ≤ D → ∀ (X Y : Array Value) (o : Nat) (b : Bool),
  q0q ks ((X.toList.drop o).take ks.length) ((Y.toList.drop o).take ks.length) = some b →
  ∃ x y, (part t X o).run P w = .ok x w ∧ (part t Y o).run P w = .ok y w ∧ (Op.equalIn D t x y).run P w = .ok b w := by
 intro d
 induction d with
 | zero => intro t ks h; simp [flatK] at h
 | succ d ih =>
  intro t ks h D hD X Y o b he
  obtain ⟨D, rfl⟩ : ∃ m, D = m + 1 := ⟨D - 1, by omega⟩
  have one : ∀ (x : Value), ((X.toList.drop o).take 1) = [x] → X[o]? = some x := by
   intro x hx
   have : ((X.toList.drop o).take 1)[0]? = some x := by rw [hx]; rfl
   rw [List.getElem?_take, if_pos (by omega), List.getElem?_drop] at this
   simpa using this
  have oneY : ∀ (x : Value), ((Y.toList.drop o).take 1) = [x] → Y[o]? = some x := by
   intro x hx
   have : ((Y.toList.drop o).take 1)[0]? = some x := by rw [hx]; rfl
   rw [List.getElem?_take, if_pos (by omega), List.getElem?_drop] at this
   simpa using this
  unfold flatK at h
  split at h
  ·rename_i hu
   split at h
   ·injection h with h; subst h
    have hg : tagg P t = some false := by unfold tagg; rw [hu]
    rcases w0s he with ⟨_, p, q, hx, hy, rfl⟩ | ⟨h0, _⟩ | ⟨h0, _⟩
    ·refine ⟨_, _, ?_, ?_, run_equalIn_bool' w D t p q hu⟩
     ·unfold part; rw [Sem.run_bind, q5a hg]; simp only [Result.andThen_ok, Bool.false_eq_true, if_false, one _ hx]; rfl
     ·unfold part; rw [Sem.run_bind, q5a hg]; simp only [Result.andThen_ok, Bool.false_eq_true, if_false, oneY _ hy]; rfl
    ·simp at h0
    ·simp at h0
   ·simp at h
  ·rename_i k hu
   split at h
   ·injection h with h; subst h
    have hg : tagg P t = some false := by unfold tagg; rw [hu]
    rcases w0s he with ⟨h0, _⟩ | ⟨_, n, p, q, hx, hy, rfl⟩ | ⟨h0, _⟩
    ·simp at h0
    ·refine ⟨_, _, ?_, ?_, run_equalIn_int w D t n k p q hu⟩
     ·unfold part; rw [Sem.run_bind, q5a hg]; simp only [Result.andThen_ok, Bool.false_eq_true, if_false, one _ hx]; rfl
     ·unfold part; rw [Sem.run_bind, q5a hg]; simp only [Result.andThen_ok, Bool.false_eq_true, if_false, oneY _ hy]; rfl
    ·simp at h0
   ·simp at h
  ·rename_i hu
   split at h
   ·injection h with h; subst h
    have hg : tagg P t = some false := by unfold tagg; rw [hu]
    rcases w0s he with ⟨h0, _⟩ | ⟨h0, _⟩ | ⟨_, p, q, hx, hy, rfl⟩
    ·simp at h0
    ·simp at h0
    ·refine ⟨_, _, ?_, ?_, run_equalIn_string w D t p q hu⟩
     ·unfold part; rw [Sem.run_bind, q5a hg]; simp only [Result.andThen_ok, Bool.false_eq_true, if_false, one _ hx]; rfl
     ·unfold part; rw [Sem.run_bind, q5a hg]; simp only [Result.andThen_ok, Bool.false_eq_true, if_false, oneY _ hy]; rfl
   ·simp at h
  ·rename_i fs hu
   split at h
   ·simp at h
   ·rename_i hst
    split at h
    ·rename_i ks' hfs
     split at h
     ·rename_i hsz
      injection h with h; subst h
      have hg : tagg P t = some true := by unfold tagg; rw [hu]
      have hpart : ∀ (Z : Array Value), (part t Z o).run P w = .ok (.agg (Z.extract o (o + ks'.length))) w := by
       intro Z
       unfold part; rw [Sem.run_bind, q5a hg]; simp only [Result.andThen_ok, if_true, Sem.run_bind, q1t hsz, Sem.run_pure]
      have hex : ∀ (Z : Array Value), (Z.extract o (o + ks'.length)).toList = (Z.toList.drop o).take ks'.length := by
       intro Z; simp [List.extract_eq_take_drop]
      refine ⟨_, _, hpart X, hpart Y, ?_⟩
      rw [run_equalIn_struct w D t _ _ (by simp only [Program.fieldsOf, hu]) (by simpa using hst)]
      have hfo : (P.fieldsOf t).toList = fs.toList := by simp only [Program.fieldsOf, hu]
      rw [hfo]
      rw [← hex X, ← hex Y] at he
      generalize X.extract o (o + ks'.length) = X' at he ⊢
      generalize Y.extract o (o + ks'.length) = Y' at he ⊢
      have key : ∀ (l : List Field) (acc : Nat) (kl : List Nat) (bl : Bool), flatFs (flatK P d) l acc = some kl → q0q kl (X'.toList.drop acc) (Y'.toList.drop acc) = some bl →
        (Op.eqFields D X' Y' l).run P w = .ok bl w := by
       intro l
       induction l with
       | nil =>
        intro acc kl bl h1 h2
        simp [flatFs] at h1; subst h1
        unfold q0q at h2
        split at h2 <;> simp_all [Op.eqFields]
       | cons f l ihl =>
        intro acc kl bl h1 h2
        simp only [flatFs] at h1
        split at h1
        ·rename_i hc
         obtain ⟨c1, rfl⟩ := hc
         split at h1
         ·rename_i kf hkf
          obtain ⟨kr, hkr, rfl⟩ := Option.map_eq_some_iff.1 h1
          obtain ⟨b1, b2, e1, e2, rfl⟩ := eqCells_append _ _ _ _ _ h2
          obtain ⟨x, y, p1, p2, p3⟩ := ih f.type kf hkf D (by omega) X' Y' f.offset b1 e1
          rw [List.drop_drop, List.drop_drop] at e2
          have := ihl _ kr b2 hkr e2
          simp only [Op.eqFields, if_pos c1, Sem.run_bind, p1, p2, p3, Result.andThen_ok]
          cases b1
          ·simp
          ·simpa using this
         ·simp at h1
        ·simp at h1
      exact key fs.toList 0 ks' b hfs (by simpa using he)
     ·simp at h
    ·simp at h
  ·simp at h

theorem flat_guard : ∀ (d : Nat) (t : TypeId) (ks : List Nat), flatK P d t = some ks → ∀ (D : Nat), d ≤ D → P.eqGuardType D t = false := by
 intro d
 induction d with
 | zero => intro t ks h; simp [flatK] at h
 | succ d ih =>
  intro t ks h D hD
  obtain ⟨D, rfl⟩ : ∃ m, D = m + 1 := ⟨D - 1, by omega⟩
  unfold flatK at h
  split at h
  ·rename_i hu; simp [Program.eqGuardType, hu]
  ·rename_i hu; simp [Program.eqGuardType, hu]
  ·rename_i hu; simp [Program.eqGuardType, hu]
  ·rename_i fs hu
   split at h
   ·simp at h
   ·split at h
    ·rename_i ks' hfs
     have key : ∀ (l : List Field) (acc : Nat) (kl : List Nat), flatFs (flatK P d) l acc = some kl → ∀ f ∈ l, P.eqGuardType D f.type = false := by
      intro l
      induction l with
      | nil => intro acc kl _ f hf; simp at hf
      | cons g l ihl =>
       intro acc kl h1 f hf
       simp only [flatFs] at h1
       split at h1
       ·split at h1
        ·rename_i kf hkf
         obtain ⟨kr, hkr, rfl⟩ := Option.map_eq_some_iff.1 h1
         rcases List.mem_cons.1 hf with rfl | hf
         ·exact ih _ kf hkf D (by omega)
         ·exact ihl _ kr hkr f hf
        ·simp at h1
       ·simp at h1
     simp only [Program.eqGuardType, hu]
     rw [← Bool.not_eq_true, Array.any_eq_true']
     rintro ⟨f, hf, hp⟩
     have := key _ _ _ hfs f (by simpa using hf)
     simp [this] at hp
    ·simp at h
  ·simp at h

end
end Gx
end
