/- The arguments of a call, as the mini interpreter sees them. -/
import Derived.Test.YtehnbdbhjeffaaaGreatGz34
import GoSem.ClaimChange
import Derived.ChangeArms
set_option linter.all false
section
set_option autoImplicit false
namespace Gx
open Go Go.RowKit

def WT (P : Program) (H : Heap) : Nat → TypeId → List Value → Prop
 | 0, _, _ => False
 | n + 1, t, us =>
  match P.underlying t with
  | some .bool => ∃ b, us = [.bool b]
  | some (.int k) => ∃ x, us = [.int k x] ∧ (Lit.int k x).wf = true
  | some .string => ∃ s, us = [.string s] ∧ s.size ≤ maxLen
  | some (.slice e) => us = [.slice none 0 0] ∨ ∃ b len B, us = [.slice (some ⟨b, 0, none⟩) len len] ∧ H[b]? = some B ∧ B.dead = false ∧ tsz P e = some B.sz ∧ len ≤ maxLen ∧ B.c.length = len * B.sz ∧
    ∀ i, i < len → WT P H n e ((B.c.drop (i * B.sz)).take B.sz)
  | some (.struct fs) => tsz P t = some us.length ∧ ∀ f ∈ fs.toList, ∃ k, tsz P f.type = some k ∧ WT P H n f.type ((us.drop f.offset).take k)
  | _ => False

theorem WT.more {P : Program} {H H' : Heap} (h : ∀ (b : Nat) (B : Blk), H[b]? = some B → H'[b]? = some B) : ∀ (n : Nat) (t : TypeId) (us : List Value), WT P H n t us → WT P H' n t us
 | 0, _, _, hw => hw.elim
 | n + 1, t, us, hw => by
  unfold WT at hw ⊢
  generalize P.underlying t = d at hw ⊢
  split at hw <;> (try simp only) <;> (try exact hw.elim)
  ·exact hw
  ·exact hw
  ·exact hw
  ·rcases hw with hw | ⟨b, len, B, h1, h2, h3, h4, h5, h6, h7⟩
   ·exact .inl hw
   ·exact .inr ⟨b, len, B, h1, h b B h2, h3, h4, h5, h6, fun i hi => WT.more h n _ _ (h7 i hi)⟩
  ·exact ⟨hw.1, fun f hf => let ⟨k, h1, h2⟩ := hw.2 f hf; ⟨k, h1, WT.more h n _ _ h2⟩⟩

def lay (P : Program) (g : TypeId → Bool) : List Field → Nat → Option Nat
 | [], acc => some acc
 | f :: r, acc => if f.offset = acc ∧ g f.type = true then match tsz P f.type with
   | some k => lay P g r (acc + k)
   | none => none
  else none

def imp (P : Program) : Nat → TypeId → Bool
 | 0, _ => false
 | n + 1, t =>
  match P.underlying t with
  | some .bool | some (.int _) | some .string => true
  | some (.slice e) => imp P n e && (match tsz P e with | some k => decide (0 < k) | none => false)
  | some (.struct fs) => match lay P (imp P n) fs.toList 0, tsz P t with
   | some a, some b => a == b
   | _, _ => false
  | _ => false

section
variable {P : Program} {W : World} {base : Nat} {μ : Inj} {H : Heap}

theorem HR.addRo (h : HR base H.length μ H W) (i : Info) (cs : List Value) (hr : i.r < W.heap.size ∨ (i.o = 0 ∧ i.ext = 0)) (hl : cs.length ≤ i.ext)
  (hcell : ∀ (j : Nat) (v : Value), cs[j]? = some v → ∃ v', W.cell? ⟨i.r, i.o + j, none⟩ = some v' ∧ VR0 μ v v') :
  HR base (H ++ [(⟨cs, i.sz, false⟩ : Blk)]).length (ext μ H.length i) (H ++ [⟨cs, i.sz, false⟩]) W := by
 have hle := Le.ext h i
 have hlen : (H ++ [(⟨cs, i.sz, false⟩ : Blk)]).length = H.length + 1 := by simp
 have hold : ∀ b j, ext μ H.length i b = some j → b ≠ H.length → μ b = some j ∧ b < H.length := by
  intro b j hb hne
  unfold ext at hb; rw [if_neg hne] at hb
  exact ⟨hb, h.dom b j hb⟩
 have hnew : ∀ j, ext μ H.length i H.length = some j → j = i := by
  intro j hi; unfold ext at hi; rw [if_pos rfl] at hi; injection hi with hi; exact hi.symm
 have hgo : ∀ b, b < H.length → (H ++ [⟨cs, i.sz, false⟩])[b]? = H[b]? := fun b hb => List.getElem?_append_left hb
 have hgn : (H ++ [(⟨cs, i.sz, false⟩ : Blk)])[H.length]? = some ⟨cs, i.sz, false⟩ := by simp
 have hdom : ∀ b j, ext μ H.length i b = some j → b < (H ++ [(⟨cs, i.sz, false⟩ : Blk)]).length := by
  intro b j hb
  rw [hlen]
  by_cases e : b = H.length
  ·omega
  ·have := (hold b j hb e).2; omega
 refine ⟨hdom, ?_, ?_, ?_, ?_, fun b j B hb _ _ hk => absurd (hdom b j hb) (by omega), fun b b' j j' B B' _ hb _ _ _ _ _ hk => absurd (hdom b j hb) (by omega), h.base, Nat.le_refl _⟩
 ·intro b j hb
  by_cases e : b = H.length
  ·subst e; rw [hnew j hb]; exact hr
  ·exact h.lt b j (hold b j hb e).1
 ·intro b j B hb hB
  by_cases e : b = H.length
  ·subst e; rw [hgn] at hB; injection hB with hB; subst hB; rw [hnew j hb]
  ·obtain ⟨h1, h2⟩ := hold b j hb e; rw [hgo b h2] at hB; exact h.sz b j B h1 hB
 ·intro b j B hb hB hd
  by_cases e : b = H.length
  ·subst e; rw [hgn] at hB; injection hB with hB; subst hB; rw [hnew j hb]; exact hl
  ·obtain ⟨h1, h2⟩ := hold b j hb e; rw [hgo b h2] at hB; exact h.len b j B h1 hB hd
 ·intro b j B hb hB hd x v hx
  by_cases e : b = H.length
  ·subst e; rw [hgn] at hB; injection hB with hB; subst hB; rw [hnew j hb]
   obtain ⟨v', a, c⟩ := hcell x v hx
   exact ⟨v', a, c.mono hle⟩
  ·obtain ⟨h1, h2⟩ := hold b j hb e; rw [hgo b h2] at hB
   obtain ⟨v', a, c⟩ := h.cell b j B h1 hB hd x v hx
   exact ⟨v', a, c.mono hle⟩

def In (P : Program) (W : World) (base : Nat) (μ : Inj) (H : Heap) (n : Nat) (t : TypeId) (cs : List Value) : Prop :=
 ∃ N μ' us, Le H.length μ μ' ∧ HR base (H ++ N).length μ' (H ++ N) W ∧ LR μ' us cs ∧ WT P (H ++ N) n t us

theorem cells_get {a : Addr} {n : Nat} {cs : List Value} (h : W.cells? base a n = some cs) : cs.length = n ∧ ∀ j, j < n → ∃ v, cs[j]? = some v ∧ W.cell? (a.add j) = some v := by
 unfold World.cells? at h
 split at h
 ·have key : ∀ (n m : Nat) (cs : List Value), ((List.range' m n).mapM fun i => W.cell? (a.add i)) = some cs → cs.length = n ∧ ∀ j, j < n → ∃ v, cs[j]? = some v ∧ W.cell? (a.add (m + j)) = some v := by
   intro n
   induction n with
   | zero => intro m cs h; simp at h; subst h; exact ⟨rfl, fun j hj => by omega⟩
   | succ n ih =>
    intro m cs h
    rw [List.range'_succ, List.mapM_cons] at h
    cases hv : W.cell? (a.add m) with
    | none => rw [hv] at h; simp at h
    | some v =>
     rw [hv] at h
     cases hl : ((List.range' (m + 1) n).mapM fun i => W.cell? (a.add i)) with
     | none => rw [hl] at h; simp at h
     | some cs' =>
      rw [hl] at h
      simp at h; subst h
      obtain ⟨h1, h2⟩ := ih (m + 1) cs' hl
      refine ⟨by simp [h1], fun j hj => ?_⟩
      cases j with
      | zero => exact ⟨v, rfl, by simpa using hv⟩
      | succ j =>
       obtain ⟨v', a1, a2⟩ := h2 j (by omega)
       exact ⟨v', by simpa using a1, by rw [show m + (j + 1) = m + 1 + j by omega]; exact a2⟩
  rw [List.range_eq_range'] at h
  obtain ⟨h1, h2⟩ := key n 0 cs h
  exact ⟨h1, fun j hj => by have := h2 j hj; simpa using this⟩
 ·simp at h

theorem cell_addr {a : Addr} {v : Value} (h : W.cell? a = some v) : a.spot = none ∧ a.block < W.heap.size := by
 unfold World.cell? at h
 split at h
 ·rename_i hb
  split at h
  ·simp at h
  ·rename_i hs
   exact ⟨by cases hsp : a.spot <;> simp_all, (Array.getElem?_eq_some_iff.1 hb).1⟩
 ·simp at h

theorem grow_get {H N : Heap} (b : Nat) (B : Blk) (h : H[b]? = some B) : (H ++ N)[b]? = some B := by
 have := (List.getElem?_eq_some_iff.1 h).1
 rw [List.getElem?_append_left this]; exact h

theorem WT.grow {H N : Heap} {n : Nat} {t : TypeId} {us : List Value} (h : WT P H n t us) : WT P (H ++ N) n t us := WT.more (fun b B hb => grow_get b B hb) n t us h

theorem w1q {n : Nat} {cs : List Value} : ∀ (fs : List Field) (acc tot : Nat) (μ : Inj) (H : Heap) (us : List Value), lay P (imp P n) fs acc = some tot → tot ≤ cs.length →
  (∀ f ∈ fs, ∀ k, tsz P f.type = some k → ∀ (μ : Inj) (H : Heap), HR base H.length μ H W → In P W base μ H n f.type ((cs.drop f.offset).take k)) → HR base H.length μ H W → LR μ us (cs.take acc) → us.length = acc →
  ∃ N μ' us', Le H.length μ μ' ∧ HR base (H ++ N).length μ' (H ++ N) W ∧ LR μ' us' (cs.take tot) ∧ us'.length = tot ∧ us'.take acc = us ∧ ∀ f ∈ fs, ∃ k, tsz P f.type = some k ∧ WT P (H ++ N) n f.type ((us'.drop f.offset).take k)
 | [], acc, tot, μ, H, us, hl, ht, _, hR, hu, hul => by
  simp [lay] at hl; subst hl
  exact ⟨[], μ, us, Le.refl _ _, by simpa using hR, hu, hul, List.take_of_length_le (by omega), fun f hf => by simp at hf⟩
 | f :: fs, acc, tot, μ, H, us, hl, ht, ih, hR, hu, hul => by
  simp only [lay] at hl
  split at hl
  ·rename_i hc
   obtain ⟨rfl, _⟩ := hc
   split at hl
   ·rename_i k hk
    have hge : ∀ (fs : List Field) (acc tot : Nat), lay P (imp P n) fs acc = some tot → acc ≤ tot := by
     intro fs
     induction fs with
     | nil => intro acc tot h; simp [lay] at h; omega
     | cons g gs ihg =>
      intro acc tot h
      simp only [lay] at h
      split at h
      ·split at h
       ·have := ihg _ _ h; omega
       ·simp at h
      ·simp at h
    have hkt := hge _ _ _ hl
    obtain ⟨N, μ1, vs, h1, h2, h3, h4⟩ := ih f (by simp) k hk μ H hR
    have hvl : vs.length = k := by rw [h3.1]; simp; omega
    have hnew : LR μ1 (us ++ vs) (cs.take (f.offset + k)) := by
     rw [List.take_add]
     exact (hu.mono h1).append h3
    obtain ⟨N', μ2, us', k1, k2, k3, k4, k5, k6⟩ := w1q fs (f.offset + k) tot μ1 (H ++ N) (us ++ vs) hl ht (fun g hg => ih g (by simp [hg])) h2 hnew (by simp [hul, hvl])
    refine ⟨N ++ N', μ2, us', h1.trans k1 (by simp), by rw [← List.append_assoc]; exact k2, k3, k4, ?_, ?_⟩
    ·have : us'.take f.offset = (us'.take (f.offset + k)).take f.offset := by rw [List.take_take, Nat.min_eq_left (by omega)]
     rw [this, k5, List.take_left' hul]
    ·intro g hg
     rcases List.mem_cons.1 hg with rfl | hg
     ·refine ⟨k, hk, ?_⟩
      rw [← List.append_assoc]
      have : (us'.drop g.offset).take k = vs := by
       have e : us'.take (g.offset + k) = us ++ vs := k5
       have : ((us'.take (g.offset + k)).drop g.offset) = vs := by rw [e, List.drop_left' hul]
       rw [List.drop_take, show g.offset + k - g.offset = k by omega] at this
       exact this
      rw [this]
      exact h4.grow
     ·obtain ⟨k', a, b⟩ := k6 g hg
      exact ⟨k', a, by rw [← List.append_assoc]; exact b⟩
   ·simp at hl
  ·simp at hl

theorem w0v {e : TypeId} {k : Nat} (hk : tsz P e = some k) : P.cellsOf e = k := by
 unfold Program.cellsOf
 unfold tsz at hk
 rw [hk]; rfl

theorem import_ok {K : Type} (enc : TypeId × Value → K) : ∀ (n fuel : Nat) (t : TypeId) (cs : List Value) (x : DataW K × List MemPlace), DataW.trod enc P W 0 (fun _ => true) true fuel t cs = some x → imp P n t = true →
  ∀ (μ : Inj) (H : Heap), HR base H.length μ H W → In P W base μ H n t cs := by
 intro n
 induction n with
 | zero => intro fuel t cs x _ hi; simp [imp] at hi
 | succ n ih =>
  intro fuel t cs x h hi μ H hR
  have nil : ∀ us, LR μ us cs → WT P (H ++ []) (n + 1) t us → In P W base μ H (n + 1) t cs := by
   intro us h1 h2
   exact ⟨[], μ, us, Le.refl _ _, by simpa using hR, h1, h2⟩
  unfold imp at hi
  split at hi
  ·rename_i hu
   cases fuel with
   | zero => simp [DataW.trod] at h
   | succ fuel =>
    simp only [DataW.trod, hu] at h
    split at h <;> simp_all
    exact nil [.bool _] (.cons (.bool _) (.nil μ)) (by unfold WT; rw [hu]; exact ⟨_, rfl⟩)
  ·rename_i k hu
   cases fuel with
   | zero => simp [DataW.trod] at h
   | succ fuel =>
    simp only [DataW.trod, hu] at h
    split at h <;> simp_all
    rename_i hk
    obtain ⟨⟨rfl, hwf⟩, _⟩ := h
    exact nil [.int _ _] (.cons (.int _ _) (.nil μ)) (by unfold WT; rw [hu]; exact ⟨_, rfl, hwf⟩)
  ·rename_i hu
   cases fuel with
   | zero => simp [DataW.trod] at h
   | succ fuel =>
    simp only [DataW.trod, hu] at h
    split at h <;> simp_all
    exact nil [.string _] (.cons (.str _) (.nil μ)) (by unfold WT; rw [hu]; exact ⟨_, rfl, h.1⟩)
  ·rename_i e hu
   rw [Bool.and_eq_true] at hi
   obtain ⟨hie, hsz⟩ := hi
   split at hsz
   ·rename_i k hk
    have hk0 : 0 < k := by simpa using hsz
    have hcell := w0v hk
    rcases DataW.trod_slice hu h with ⟨rfl, _⟩ | ⟨a, len, cap, elems, rest, m, _, rfl, _, _, hlc, hcm, hel, hget, hrest, _⟩
    ·exact nil [.slice none 0 0] (.cons .nils (.nil μ)) (by unfold WT; rw [hu]; exact .inl rfl)
    ·obtain ⟨hrl, hrget⟩ := hrest rfl
     rw [hcell] at hget hrget
     have hall : ∀ i, i < cap → ∃ c y, W.cells? 0 (a.add (i * k)) k = some c ∧ DataW.trod enc P W 0 (fun _ => true) true m e c = some y := by
      intro i hi
      have hb : ∀ (o : Option (List Value)) (y : DataW K × List MemPlace), o.bind (DataW.trod enc P W 0 (fun _ => true) true m e) = some y → ∃ c y, o = some c ∧ DataW.trod enc P W 0 (fun _ => true) true m e c = some y := by
       intro o y ho
       obtain ⟨c, h1, h2⟩ := Option.bind_eq_some_iff.1 ho
       exact ⟨c, y, h1, h2⟩
      by_cases hlt : i < len
      ·have := hget i hlt
       rw [List.getElem?_eq_getElem (by omega)] at this
       exact hb _ _ this
      ·have := hrget (i - len) (by omega)
       rw [List.getElem?_eq_getElem (by omega), show len + (i - len) = i by omega] at this
       exact hb _ _ this
     by_cases hc0 : cap = 0
     ·-- an array of no places
      have hl0 : len = 0 := by omega
      subst hc0; subst hl0
      have hnew := hR.addRo ⟨0, 0, 0, k⟩ [] (.inr ⟨rfl, rfl⟩) (by simp) (fun j v hj => by simp at hj)
      refine ⟨[⟨[], k, false⟩], _, [.slice (some ⟨H.length, 0, none⟩) 0 0], Le.ext hR _, hnew, ?_, ?_⟩
      ·exact .cons (.sl (i := ⟨0, 0, 0, k⟩) (by simp [ext]) (Nat.le_refl _) (fun h => absurd rfl h)) (.nil _)
      ·unfold WT; rw [hu]
       exact .inr ⟨H.length, 0, ⟨[], k, false⟩, rfl, by simp, rfl, hk, Nat.zero_le _, by simp, fun i hi => by omega⟩
     ·obtain ⟨c0, y0, hcs0, _⟩ := hall 0 (by omega)
      obtain ⟨_, hcg⟩ := cells_get hcs0
      obtain ⟨v0, _, hv0⟩ := hcg 0 hk0
      have ha0 : (a.add (0 * k)).add 0 = a := by simp [Addr.add]
      rw [ha0] at hv0
      obtain ⟨hspot, hblk⟩ := cell_addr hv0
      obtain ⟨ab, ao, asp⟩ := a
      simp only at hspot hblk
      subst hspot
      let cell : Nat → List Value := fun i => (List.range k).map fun j => (W.cell? ⟨ab, ao + i * k + j, none⟩).getD .nilFunc
      have hcellI : ∀ i, i < cap → ∀ c, W.cells? 0 ((⟨ab, ao, none⟩ : Addr).add (i * k)) k = some c → c = cell i := by
       intro i hi c hc
       obtain ⟨h1, h2⟩ := cells_get hc
       apply List.ext_getElem?
       intro j
       by_cases hj : j < k
       ·obtain ⟨v, g1, g2⟩ := h2 j hj
        rw [q3x, q3x] at g2
        rw [g1]
        simp [cell, hj, g2]
       ·rw [List.getElem?_eq_none (by omega), List.getElem?_eq_none (by simp [cell]; omega)]
      have hrow : ∀ (m' : Nat), m' ≤ len → ∃ N μ' us, Le H.length μ μ' ∧ HR base (H ++ N).length μ' (H ++ N) W ∧ LR μ' us ((List.range m').flatMap cell) ∧ us.length = m' * k ∧ ∀ i, i < m' → WT P (H ++ N) n e ((us.drop (i * k)).take k) := by
       intro m' hm'
       have hstep : ∀ (i : Nat) (μ : Inj) (H : Heap), i < len → HR base H.length μ H W → In P W base μ H n e (cell i) := by
        intro i μ H hi hR'
        obtain ⟨c, y, hc, hy⟩ := hall i (by omega)
        rw [← hcellI i (by omega) c hc]
        exact ih m e c y hy hie μ H hR'
       have key : ∀ (m' : Nat), m' ≤ len → ∃ N μ' us, Le H.length μ μ' ∧ HR base (H ++ N).length μ' (H ++ N) W ∧ LR μ' us ((List.range m').flatMap cell) ∧ us.length = m' * k ∧ ∀ i, i < m' → WT P (H ++ N) n e ((us.drop (i * k)).take k) := by
        intro m'
        induction m' with
        | zero => intro _; exact ⟨[], μ, [], Le.refl _ _, by simpa using hR, by simpa using LR.nil μ, by simp, fun i hi => by omega⟩
        | succ m' ihm =>
         intro hm
         obtain ⟨N, μ1, us, h1, h2, h3, h4, h5⟩ := ihm (by omega)
         obtain ⟨N', μ2, vs, k1, k2, k3, k4⟩ := hstep m' μ1 (H ++ N) (by omega) h2
         have hv : vs.length = k := by rw [k3.1]; simp [cell]
         refine ⟨N ++ N', μ2, us ++ vs, h1.trans k1 (by simp), by rw [← List.append_assoc]; exact k2, ?_, by simp [h4, hv, Nat.succ_mul], fun i hi => ?_⟩
         ·rw [List.range_succ, List.flatMap_append]
          simpa using (h3.mono k1).append k3
         ·rw [← List.append_assoc]
          by_cases hlt : i < m'
          ·have hle : (i + 1) * k ≤ m' * k := Nat.mul_le_mul_right _ (by omega)
           rw [Nat.succ_mul] at hle
           rw [List.drop_append_of_le_length (by omega), List.take_append_of_le_length (by simp; omega)]
           exact (h5 i hlt).grow
          ·have : i = m' := by omega
           subst this
           rw [List.drop_append, List.drop_eq_nil_of_le (by omega), h4, Nat.sub_self, List.nil_append, List.drop_zero, List.take_of_length_le (by omega)]
           exact k4
       exact key m' hm'
      obtain ⟨N, μ1, us, h1, h2, h3, h4, h5⟩ := hrow len (Nat.le_refl _)
      have hcellsLen : ∀ m', ((List.range m').flatMap cell).length = m' * k := by
       intro m'
       induction m' with
       | zero => simp
       | succ m' ihm => rw [List.range_succ, List.flatMap_append, List.length_append, ihm]; simp [cell, Nat.succ_mul]
      have hflat : ∀ m' j, j < m' * k → ((List.range m').flatMap cell)[j]? = some ((W.cell? ⟨ab, ao + j, none⟩).getD .nilFunc) := by
       intro m'
       induction m' with
       | zero => intro j hj; simp at hj
       | succ m' ihm =>
        intro j hj
        rw [List.range_succ, List.flatMap_append]
        by_cases hlt : j < m' * k
        ·rw [List.getElem?_append_left (by rw [hcellsLen]; exact hlt)]
         exact ihm j hlt
        ·rw [List.getElem?_append_right (by rw [hcellsLen]; omega), hcellsLen]
         rw [Nat.succ_mul] at hj
         have : j - m' * k < k := by omega
         have e0 : ao + m' * k + (j - m' * k) = ao + j := by omega
         simp [cell, this, e0]
      have hreal : ∀ j, j < cap * k → ∃ v, W.cell? ⟨ab, ao + j, none⟩ = some v := by
       intro j hj
       have hq : j / k < cap := Nat.div_lt_of_lt_mul (by rw [Nat.mul_comm]; exact hj)
       obtain ⟨c, y, hc, _⟩ := hall (j / k) hq
       obtain ⟨_, hg⟩ := cells_get hc
       obtain ⟨v, _, g2⟩ := hg (j % k) (Nat.mod_lt _ hk0)
       rw [q3x, q3x, Nat.add_assoc, Nat.mul_comm, Nat.div_add_mod] at g2
       exact ⟨v, g2⟩
      have hlk : len * k ≤ cap * k := Nat.mul_le_mul_right _ hlc
      have hnew := h2.addRo ⟨ab, ao, cap * k, k⟩ us (.inl hblk) (by simp only; omega) (fun j v hj => by
       obtain ⟨v', g1, g2⟩ := h3.2 j v hj
       have hjl : j < len * k := by have := (List.getElem?_eq_some_iff.1 hj).1; omega
       rw [hflat len j hjl] at g1
       obtain ⟨u, hu'⟩ := hreal j (by omega)
       rw [hu'] at g1
       simp at g1; subst g1
       exact ⟨_, hu', g2⟩)
      refine ⟨N ++ [⟨us, k, false⟩], _, [.slice (some ⟨(H ++ N).length, 0, none⟩) len len], h1.trans (Le.ext h2 ⟨ab, ao, cap * k, k⟩) (by simp), by rw [← List.append_assoc]; exact hnew, ?_, ?_⟩
      ·exact .cons (.sl (i := ⟨ab, ao, cap * k, k⟩) (by simp [ext]) hlc (fun _ => ⟨by simp, by simp⟩)) (.nil _)
      ·unfold WT; rw [hu]
       refine .inr ⟨(H ++ N).length, len, ⟨us, k, false⟩, rfl, by rw [← List.append_assoc]; simp, rfl, hk, by omega, h4, fun i hi => ?_⟩
       rw [← List.append_assoc]
       exact (h5 i hi).grow
   ·simp at hsz
  ·rename_i fs hu
   split at hi
   ·rename_i tot sz hlay hsz
    have hts : tot = sz := by simpa using hi
    subst hts
    obtain ⟨xs, m, _, _, hl, _, hf⟩ := DataW.trod_struct hu h
    rw [w0v hsz] at hl
    obtain ⟨N, μ', us, h1, h2, h3, h4, _, h5⟩ := w1q (cs := cs) (n := n) fs.toList 0 tot μ H [] hlay (by omega) (fun f hfm k hk μ H hR' => by
     obtain ⟨i, hi'⟩ := List.mem_iff_getElem?.1 hfm
     have := hf i f (by simpa using hi')
     rw [w0v hk] at this
     have hil : i < xs.length := by
      have h1 := (List.getElem?_eq_some_iff.1 hi').1
      simp at h1
      omega
     rw [List.getElem?_eq_getElem hil] at this
     have himp : imp P n f.type = true := by
      have : ∀ (l : List Field) (acc tot : Nat), lay P (imp P n) l acc = some tot → ∀ f ∈ l, imp P n f.type = true := by
       intro l
       induction l with
       | nil => intro acc tot _ f hf; simp at hf
       | cons g gs ihg =>
        intro acc tot h f hf
        simp only [lay] at h
        split at h
        ·rename_i hc
         split at h
         ·rcases List.mem_cons.1 hf with rfl | hf
          ·exact hc.2
          ·exact ihg _ _ h f hf
         ·simp at h
        ·simp at h
      exact this _ _ _ hlay f hfm
     exact ih m f.type _ _ this himp μ H hR') hR (by simpa using LR.nil μ) rfl
    refine ⟨N, μ', us, h1, h2, ?_, ?_⟩
    ·rw [List.take_of_length_le (by omega)] at h3; exact h3
    ·unfold WT; rw [hu]
     exact ⟨by rw [hsz, h4], h5⟩
   ·simp at hi
  ·simp at hi
end
end Gx
end
