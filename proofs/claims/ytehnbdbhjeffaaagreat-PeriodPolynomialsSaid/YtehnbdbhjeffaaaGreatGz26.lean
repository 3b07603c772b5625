/- Each operation of the mini interpreter is one of the model's: conversions, calls. -/
import Derived.Test.YtehnbdbhjeffaaaGreatGz25
set_option linter.all false
section
set_option autoImplicit false
namespace Gx
open Go Go.RowKit
section
variable {P : Program} {w : World} {base lk : Nat} {μ : Inj} {H : Heap}

theorem freeze_new (w : World) (c : Array Value) (e : TypeId) (n : Nat) : (w.alloc (.cells c e)).freeze ⟨w.heap.size, n, none⟩ 1 = w.alloc (.cells c e (n, n + 1)) := by
 unfold World.freeze
 rw [if_neg (by omega)]
 show ({ w with heap := (w.heap.push (.cells c e)).modify w.heap.size _ } : World) = { w with heap := w.heap.push (.cells c e (n, n + 1)) }
 congr 1
 apply Array.ext
 ·simp
 ·intro i h1 h2
  rw [Array.getElem_modify]
  split
  ·rename_i hi
   subst hi
   simp
  ·rename_i hi
   simp at h1
   rw [Array.getElem_push_lt (by omega), Array.getElem_push_lt (by omega)]

theorem bytesOf_map : ∀ (cs : List Value) (l : List UInt8), q5u cs = some l → ∃ ns : List Int, cs = ns.map (Value.int .u8) ∧ l = ns.map fun n => UInt8.ofNat n.toNat
 | [], l, h => by simp [q5u] at h; subst h; exact ⟨[], rfl, rfl⟩
 | c :: cs, l, h => by
  unfold q5u at h
  split at h
  ·simp_all
  ·rename_i n r heq
   injection heq with h1 h2; subst h1; subst h2
   obtain ⟨l', hl, rfl⟩ := Option.map_eq_some_iff.1 h
   obtain ⟨ns, e1, e2⟩ := bytesOf_map cs l' hl
   exact ⟨n :: ns, by simp [e1], by simp [e2]⟩
  ·simp at h

theorem LR.ints : ∀ {ns : List Int} {k : IntKind} {ds : List Value}, LR μ (ns.map (Value.int k)) ds → ds = ns.map (Value.int k) := by
 intro ns k ds h
 apply List.ext_getElem?
 intro j
 have hl := h.1
 simp at hl
 by_cases hj : j < ns.length
 ·obtain ⟨v', a, c⟩ := h.2 j (.int k ns[j]) (by simp [hj])
  cases c
  rw [a]; simp [hj]
 ·rw [List.getElem?_eq_none (by omega), List.getElem?_eq_none (by simp; omega)]

theorem fold_push (f : Int → UInt8) : ∀ (ns : List Int) (a : Array UInt8), ns.foldl (fun (r : ByteArray) n => r.push (f n)) ⟨a⟩ = ⟨a ++ (ns.map f).toArray⟩
 | [], a => by simp
 | n :: ns, a => by
  rw [List.foldl_cons]
  show ns.foldl _ (⟨a.push (f n)⟩ : ByteArray) = _
  rw [fold_push f ns]
  simp

theorem convert_sim (h : HR base lk μ H w) {src dst : TypeId} {x x' v : Value} {H' : Heap} (hx : VR μ x x') (hc : q4p P H src dst x = some (v, H')) :
  ∃ v' w' μ', (convert src dst x').run P w = .ok v' w' ∧ Le H.length μ μ' ∧ HR base lk μ' H' w' ∧ Below base w w' ∧ VR μ' v v' := by
 unfold q4p at hc
 split at hc
 ·rename_i k n
  have := hx.int_inv; subst this
  split at hc
  ·rename_i k1 k2 h1 h2
   simp only [Option.some.injEq, Prod.mk.injEq] at hc
   obtain ⟨rfl, rfl⟩ := hc
   exact ⟨_, w, μ, by simp [convert, q0v (w1c h1), q0v (w1c h2), Conv.intToInt], Le.refl _ μ, h, Below.refl _ _, .one (.int _ _)⟩
  ·simp at hc
 ·rename_i s
  have := hx.str_inv; subst this
  split at hc
  ·rename_i hs
   split at hc
   ·rename_i hd
    simp only [Option.some.injEq, Prod.mk.injEq] at hc
    obtain ⟨rfl, rfl⟩ := hc
    exact ⟨_, w, μ, by simp [convert, q0v (q6u hs), q0v (q6u hd)], Le.refl _ μ, h, Below.refl _ _, .one (.str _)⟩
   ·split at hc
    ·rename_i e he
     split at hc
     ·rename_i hb
      split at hc
      ·rename_i hz
       simp only [Option.some.injEq, Prod.mk.injEq] at hc
       obtain ⟨rfl, rfl⟩ := hc
       let cap := (Question.appendCap s.size 0 e).cut (w.tape w.drawn (.appendCap s.size 0 e))
       have hcap : s.size ≤ cap := by simp only [cap, Question.cut]; omega
       let ds : Array Value := s.data.map (fun b => Value.int .u8 b.toNat) ++ Array.replicate (cap - s.size) (.int .u8 0)
       have hds : ds.size = cap := by
        have : s.data.size = s.size := rfl
        simp [ds, this]; omega
       have hlist : s.toList.map (fun b => Value.int .u8 b.toNat) = (s.data.map (fun b => Value.int .u8 b.toNat)).toList := by
        rw [ByteArray.toList_eq]; simp
       have hll : (s.toList.map (fun b => Value.int .u8 b.toNat)).length = s.size := by
        rw [hlist]; simp
       have hW : HR base lk μ H { w with drawn := w.drawn + 1 } := h.heap rfl
       obtain ⟨μ', k1, k2, k3, k4⟩ := row_sim hW (t := e) (cs := s.toList.map fun b => Value.int .u8 b.toNat) (ds := ds) 1 s.size cap (cap, cap + 1)
        (by rw [hll, hds]; exact hcap) (by
         rw [hll]
         have : ds.toList.take s.size = s.toList.map (fun b => Value.int .u8 b.toNat) := by
          rw [hlist]; simp only [ds, Array.toList_append]
          rw [List.take_left']; simp
         rw [this]
         refine ⟨rfl, fun j u hj => ⟨u, hj, ?_⟩⟩
         rw [List.getElem?_map] at hj
         obtain ⟨b, _, rfl⟩ := Option.map_eq_some_iff.1 hj
         exact .int _ _) (.inr (by rw [hds]; exact Nat.le_refl _)) hcap (by rw [hds]; omega)
       refine ⟨_, _, μ', ?_, k1, k2, ((Below.refl base w).drew).trans k3, k4⟩
       have hu : (convert src dst (.string s)).run P w = (Conv.stringToBytes e s).run P w := by
        simp only [convert, Sem.run_bind, q0v (q6u hs), q0v (q2i he), Result.andThen_ok, q0v (w1c hb)]
       rw [hu]
       unfold Conv.stringToBytes
       simp only [Sem.run_bind, run_choose, Question.forced, Bool.false_eq_true, if_false, Result.andThen_ok, newRow, run_newObj, Sem.run_pure]
       have hsh : ∀ (W : World), (markStringish ⟨W.heap.size, 0, none⟩).run P (W.alloc (.cells ds e)) = .ok () ((W.alloc (.cells ds e)).freeze ⟨W.heap.size, ds.size, none⟩ 1) := by
        intro W
        have : (W.alloc (.cells ds e)).shape? W.heap.size = some (e, ds.size) := by
         unfold World.shape?
         rw [show (W.alloc (.cells ds e)).heap = W.heap.push (.cells ds e) from rfl]
         simp
        simp only [markStringish, Sem.run_bind, run_shape, this, Result.andThen_ok, run_freeze]
       have := hsh { w with drawn := w.drawn + 1 }
       rw [freeze_new] at this
       rw [hds] at this
       have e1 : ({ w with drawn := w.drawn + 1 } : World).heap.size = w.heap.size := rfl
       rw [e1] at this
       show (Result.andThen (Sem.run P (markStringish ⟨w.heap.size, 0, none⟩) (({ w with drawn := w.drawn + 1 } : World).alloc (.cells ds e))) _) = _
       rw [this]
       rfl
      ·simp at hc
     ·simp at hc
    ·simp at hc
  ·simp at hc
 ·rename_i a n c
  split at hc
  ·rename_i e he
   split at hc
   ·rename_i hcond
    obtain ⟨h8, hs⟩ := hcond
    split at hc
    ·rename_i cs hf
     obtain ⟨l, hl, hv⟩ := Option.map_eq_some_iff.1 hc
     simp only [Prod.mk.injEq] at hv
     obtain ⟨rfl, rfl⟩ := hv
     obtain ⟨ds, f1, f2, f3⟩ := first_sim (P := P) h hx hf
     obtain ⟨ns, rfl, rfl⟩ := bytesOf_map cs l hl
     have hd := LR.ints f2
     refine ⟨_, w, μ, ?_, Le.refl _ μ, h, Below.refl _ _, .one (.str _)⟩
     have hu : (convert src dst x').run P w = (Conv.bytesToString x').run P w := by
      obtain ⟨a', c', rfl, _⟩ := hx.slice_len
      simp only [convert, Sem.run_bind, q0v (q2i he), q0v (q6u hs), Result.andThen_ok]
      simp only [Sem.run_bind, q0v (w1c h8), Result.andThen_ok]
     rw [hu]
     obtain ⟨a', c', rfl, ha⟩ := hx.slice_len
     cases a' with
     | none =>
      have : ns = [] := by
       simp only [Builtin.firstCells, Sem.run_pure] at f1
       injection f1 with f1; subst f1
       simpa using hd.symm
      subst this
      rfl
     | some a'' =>
      simp only [Builtin.firstCells, Nat.mul_one] at f1
      have := run_bytesToString (P := P) w a'' n c' ns (by rw [f1]; congr 1; rw [← hd])
      rw [this]
      congr 2
      have := fold_push (fun n => UInt8.ofNat n.toNat) ns #[]
      rw [Array.empty_append] at this
      exact this
    ·simp at hc
   ·simp at hc
  ·simp at hc
 ·simp at hc

theorem fold_sim {f : Value → Value → Option Value} {g : Value → Value → Sem Value} (hfg : ∀ x y x' y' v, VR μ x x' → VR μ y y' → f x y = some v → ∃ v', (g x' y').run P w = .ok v' w ∧ VR μ v v') :
  ∀ (ys ys' : List Value) (x x' v : Value), ys.length = ys'.length → (∀ j, VR μ (ys.getD j undef) (ys'.getD j undef)) → VR μ x x' → ifold f x ys = some v → ∃ v', (ys'.foldlM g x').run P w = .ok v' w ∧ VR μ v v'
 | [], ys', x, x', v, hl, hy, hx, h => by
  have : ys' = [] := List.length_eq_zero_iff.1 hl.symm
  subst this
  simp [ifold] at h; subst h
  exact ⟨x', rfl, hx⟩
 | y :: ys, [], x, x', v, hl, hy, hx, h => by simp at hl
 | y :: ys, y' :: ys', x, x', v, hl, hy, hx, h => by
  unfold ifold at h
  split at h
  ·rename_i z hz
   obtain ⟨z', h1, h2⟩ := hfg x y x' y' z hx (by simpa using hy 0) hz
   obtain ⟨v', h3, h4⟩ := fold_sim hfg ys ys' z z' v (by simpa using hl) (fun j => by simpa using hy (j + 1)) h2 h
   exact ⟨v', by rw [List.foldlM_cons, Sem.run_bind, h1]; exact h3, h4⟩
  ·simp at h

theorem max2_sim {x y x' y' v : Value} (hx : VR μ x x') (hy : VR μ y y') (h : imax2 x y = some v) : ∃ v', (Builtin.max2 x' y').run P w = .ok v' w ∧ VR μ v v' := by
 unfold imax2 at h
 split at h
 ·have := hx.int_inv; subst this
  have := hy.int_inv; subst this
  split at h
  ·injection h with h; subst h; exact ⟨_, rfl, .one (.int _ _)⟩
  ·simp at h
 ·simp at h
theorem min2_sim {x y x' y' v : Value} (hx : VR μ x x') (hy : VR μ y y') (h : imin2 x y = some v) : ∃ v', (Builtin.min2 x' y').run P w = .ok v' w ∧ VR μ v v' := by
 unfold imin2 at h
 split at h
 ·have := hx.int_inv; subst this
  have := hy.int_inv; subst this
  split at h
  ·injection h with h; subst h; exact ⟨_, rfl, .one (.int _ _)⟩
  ·simp at h
 ·simp at h

def sub64 : Array Value → Sem Value := fun args => do
 let (x, y, b) ← Extern.MathBitsCarry.three "Sub64" args
 pure (Extern.MathBitsCarry.pair ((x + Extern.MathBitsCarry.m64 - y - b) % Extern.MathBitsCarry.m64) (if x < y + b then 1 else 0))

theorem run_sub64 (x y b : Nat) (hb : b ≤ 1) (w : World) :
  (sub64 #[.int .u64 x, .int .u64 y, .int .u64 b]).run P w =
   .ok (.tuple #[.int .u64 (((x + 18446744073709551616 - y - b) % 18446744073709551616 : Nat) : Int), .int .u64 ((if x < y + b then 1 else 0 : Nat) : Int)]) w := by
 have : b = 0 ∨ b = 1 := by omega
 rcases this with rfl | rfl <;> rfl

theorem w1l (n : String) (h : n = "math/bits.Add64" ∨ n = "math/bits.Sub64" ∨ n = "") : Extern.allNextRows.lookup n = none := by
 rcases h with rfl | rfl | rfl <;> kernel_rfl

theorem extern_sim {f : FuncId} {fn : Func} (hf : P.funcs[f]? = some fn) (hb : fn.body = none) (ho : fn.origin = "") {args : List Value} {args' : Array Value} {v : Value} (hl : args.length = args'.size) (ha : ∀ j, VR μ (args.getD j undef) (args'.getD j undef))
  (h : w0p fn.name args = some v) : (callFunc f args').run P w = .ok (.value v) w ∧ VR μ v v := by
 unfold w0p at h
 split at h
 ·rename_i x y c
  have e0 : args'[0]? = some (.int .u64 x) := by
   have := (ha 0)
   simp at this hl
   have := this.int_inv
   rw [Array.getElem?_eq_getElem (by omega)] at this ⊢
   simpa using this
  have e1 : args'[1]? = some (.int .u64 y) := by
   have := (ha 1)
   simp at this hl
   have := this.int_inv
   rw [Array.getElem?_eq_getElem (by omega)] at this ⊢
   simpa using this
  have e2 : args'[2]? = some (.int .u64 c) := by
   have := (ha 2)
   simp at this hl
   have := this.int_inv
   rw [Array.getElem?_eq_getElem (by omega)] at this ⊢
   simpa using this
  have harr : args' = #[.int .u64 x, .int .u64 y, .int .u64 c] := by
   apply Array.ext_getElem?
   intro j
   match j with
   | 0 => rw [e0]; rfl
   | 1 => rw [e1]; rfl
   | 2 => rw [e2]; rfl
   | j + 3 => rw [Array.getElem?_eq_none (by simp at hl; omega), Array.getElem?_eq_none (by simp)]
  subst harr
  split at h
  ·rename_i hc
   obtain ⟨h0, h1, h2, h3⟩ := hc
   have tup : ∀ (a b : Int), VR μ (.tuple #[.int .u64 a, .int .u64 b]) (.tuple #[.int .u64 a, .int .u64 b]) := by
    intro a b
    refine .tuple rfl fun j => .one ?_
    match j with
    | 0 => exact .int _ _
    | 1 => exact .int _ _
    | j + 2 => exact .nilf
   split at h
   ·rename_i hn
    injection h with h; subst h
    refine ⟨?_, tup _ _⟩
    have hnx : Extern.findNext fn = none := by
     unfold Extern.findNext
     simp only [hn, ho, w1l _ (.inl rfl), w1l _ (.inr (.inr rfl))]; rfl
    have hfd : Extern.find fn = some add64Entry := by
     unfold Extern.find
     simp only [hn]
     have a1 : Extern.allGenericRows.lookup "math/bits.Add64" = none := by kernel_rfl
     have a2 : Extern.allTypedRows.lookup "math/bits.Add64" = none := by kernel_rfl
     have a3 : Extern.allRows.lookup "math/bits.Add64" = some add64Entry := by kernel_rfl
     simp only [a1, a2, a3]; rfl
    rw [run_callFunc_extern hf (by rw [hn]; decide) (by rw [hb]; rfl) hnx hfd, run_add64 x y c h0 h1 h2 h3]
    rfl
   ·split at h
    ·rename_i hn
     split at h
     ·rename_i hy
      injection h with h; subst h
      refine ⟨?_, tup _ _⟩
      have hnx : Extern.findNext fn = none := by
       unfold Extern.findNext
       simp only [hn, ho, w1l _ (.inr (.inl rfl)), w1l _ (.inr (.inr rfl))]; rfl
      have hfd : Extern.find fn = some sub64 := by
       unfold Extern.find
       simp only [hn]
       have a1 : Extern.allGenericRows.lookup "math/bits.Sub64" = none := by kernel_rfl
       have a2 : Extern.allTypedRows.lookup "math/bits.Sub64" = none := by kernel_rfl
       have a3 : Extern.allRows.lookup "math/bits.Sub64" = some sub64 := by kernel_rfl
       simp only [a1, a2, a3]; rfl
      obtain ⟨X, rfl⟩ := Int.eq_ofNat_of_zero_le h0
      obtain ⟨Y, rfl⟩ := Int.eq_ofNat_of_zero_le h1
      obtain ⟨C, rfl⟩ := Int.eq_ofNat_of_zero_le h2
      rw [run_callFunc_extern hf (by rw [hn]; decide) (by rw [hb]; rfl) hnx hfd, run_sub64 X Y C (by omega)]
      simp only [Result.andThen_ok]
      congr 4
      congr 1
      ·congr 1; omega
      ·congr 2
       split <;> split <;> first | rfl | omega
     ·simp at h
    ·simp at h
  ·simp at h
 ·simp at h
end
end Gx
end
