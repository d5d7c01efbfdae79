/- Words of our own on slices that lie at their row's head. No function of the program is named here. -/
import Derived.Test.YtkphllolghlmeaaDoorHeap
import Derived.Deep.AppendSrc
import Derived.Deep.AppendLies
import Derived.Deep.RegionHeld3
import Derived.Lib.ConvBytes
import Derived.Laws.BytesArg
namespace Go.Proofs.YtkphllolghlmeaaDoor
open Go.RowKit

def blkOf (A : Option Addr) : Option Nat := A.map (·.block)
def FA (A : Option Addr) : Nat → Prop := fun k => blkOf A = some k

/-- A slice that is nil, or begins at a row's head: it holds xs; what can be reached of the row is not frozen. -/
def Own (w : World) (e : TypeId) (size : Nat) (A : Option Addr) (n c : Nat) (xs : List Value) : Prop :=
  xs.length = n * size ∧
  ((A = none ∧ n = 0 ∧ c = 0) ∨
   ∃ g cur fz, A = some ⟨g, 0, none⟩ ∧ w.heap[g]? = some (.cells cur e fz) ∧ (∀ o, o < cur.size → ¬ (fz.1 ≤ o ∧ o < fz.2)) ∧ n ≤ c ∧ c ≤ maxLen ∧ cur.size = c * size ∧ cur.toList.take (n * size) = xs)

theorem Own.nil (w : World) (e : TypeId) (size : Nat) : Own w e size none 0 0 [] := ⟨by simp, .inl ⟨rfl, rfl, rfl⟩⟩
theorem Own.len {w : World} {e : TypeId} {size : Nat} {A : Option Addr} {n c : Nat} {xs : List Value} (h : Own w e size A n c xs) : xs.length = n * size := h.1
theorem Own.lt {w : World} {e : TypeId} {size : Nat} {A : Option Addr} {n c : Nat} {xs : List Value} (h : Own w e size A n c xs) {k : Nat} (hk : blkOf A = some k) : k < w.heap.size := by
  rcases h.2 with ⟨rfl, _⟩ | ⟨g, cur, fz, rfl, hg, _⟩
  · simp [blkOf] at hk
  · have : g = k := by simpa [blkOf] using hk
    subst this
    exact (Array.getElem?_eq_some_iff.1 hg).1
theorem Own.keep {F : Nat → Prop} {w w' : World} {e : TypeId} {size : Nat} {A : Option Addr} {n c : Nat} {xs : List Value} (h : Own w e size A n c xs) (hc : Chg F w w') (hn : ∀ k, blkOf A = some k → ¬ F k) : Own w' e size A n c xs := by
  refine ⟨h.1, ?_⟩
  rcases h.2 with h2 | ⟨g, cur, fz, rfl, hg, rest⟩
  · exact .inl h2
  · exact .inr ⟨g, cur, fz, rfl, hc.keep (hn g rfl) hg, rest⟩
theorem Own.alloc {w : World} {e : TypeId} {size : Nat} {A : Option Addr} {n c : Nat} {xs : List Value} (h : Own w e size A n c xs) (o : Obj) : Own (w.alloc o) e size A n c xs :=
  h.keep ((Chg.refl NoB w).alloc o) (fun _ _ => not_false)
theorem Own.drew {w : World} {e : TypeId} {size : Nat} {A : Option Addr} {n c : Nat} {xs : List Value} (h : Own w e size A n c xs) : Own w.drew e size A n c xs := h
theorem Own.drewN {w : World} {e : TypeId} {size : Nat} {A : Option Addr} {n c : Nat} {xs : List Value} (h : Own w e size A n c xs) (k : Nat) : Own (w.drewN k) e size A n c xs := h
theorem Own.setOther {w : World} {e : TypeId} {size : Nat} {A : Option Addr} {n c : Nat} {xs : List Value} (h : Own w e size A n c xs) (p : Addr) (v : Value) (hne : blkOf A ≠ some p.block) : Own (w.setCell p v) e size A n c xs :=
  h.keep ((Chg.refl (F1 p.block) w).setCell p v F1.self) (fun k hk e => hne (by rw [hk]; exact congrArg some e))
/-- What a block that is known whole holds. -/
theorem Own.of_blk {w : World} {g : Nat} {cur : Array Value} {e : TypeId} (h : Blk w g cur e) {size n c : Nat} {xs : List Value} (hx : xs.length = n * size) (hn : n ≤ c) (hc : c ≤ maxLen) (hs : cur.size = c * size) (ht : cur.toList.take (n * size) = xs) :
    Own w e size (some ⟨g, 0, none⟩) n c xs := ⟨hx, .inr ⟨g, cur, (0, 0), rfl, h, fun o _ h => by have h1 := h.2; have h2 : o < 0 := h1; omega, hn, hc, hs, ht⟩⟩
theorem Own.cell {w : World} {e : TypeId} {size : Nat} {A : Option Addr} {n c : Nat} {xs : List Value} (h : Own w e size A n c xs) {g : Nat} (hA : A = some ⟨g, 0, none⟩) (j : Nat) (v : Value) (hj : xs[j]? = some v) : w.cell? ⟨g, j, none⟩ = some v := by
  rcases h.2 with ⟨rfl, _⟩ | ⟨g', cur, fz, hA', hg, _, hnc, _, hs, ht⟩
  · simp at hA
  · rw [hA'] at hA
    obtain rfl : g' = g := by injection hA with hA; injection hA
    rw [cell_of_row w g' j cur e fz hg]
    rw [← ht] at hj
    have hlt : j < n * size := by
      have := (List.getElem?_eq_some_iff.1 hj).1
      simp at this; omega
    rw [List.getElem?_take_of_lt hlt] at hj
    simpa using hj
theorem Own.frozen {w : World} {e : TypeId} {size : Nat} {A : Option Addr} {n c : Nat} {xs : List Value} (h : Own w e size A n c xs) {g : Nat} (hA : A = some ⟨g, 0, none⟩) (j : Nat) (hj : j < c * size) : w.frozen? ⟨g, j, none⟩ = false := by
  rcases h.2 with ⟨rfl, _⟩ | ⟨g', cur, fz, hA', hg, hf, hnc, _, hs, ht⟩
  · simp at hA
  · rw [hA'] at hA
    obtain rfl : g' = g := by injection hA with hA; injection hA
    have := hf j (by omega)
    simp only [World.frozen?, hg]
    simpa using this
theorem Own.addr {w : World} {e : TypeId} {size : Nat} {A : Option Addr} {n c : Nat} {xs : List Value} (h : Own w e size A n c xs) (hn : 0 < n) : ∃ g, A = some ⟨g, 0, none⟩ ∧ g < w.heap.size := by
  rcases h.2 with ⟨_, h0, _⟩ | ⟨g, cur, fz, rfl, hg, _⟩
  · omega
  · exact ⟨g, rfl, (Array.getElem?_eq_some_iff.1 hg).1⟩
theorem Own.src {w : World} {e : TypeId} {size : Nat} {A : Option Addr} {n c : Nat} {xs : List Value} (h : Own w e size A n c xs) {g : Nat} (hA : A = some ⟨g, 0, none⟩) : ∀ j v, xs[j]? = some v → w.cell? ((⟨g, 0, none⟩ : Addr).add j) = some v := by
  intro j v hv
  rw [addr0]
  exact h.cell hA j v hv
theorem Own.cap {w : World} {e : TypeId} {size : Nat} {A : Option Addr} {n c : Nat} {xs : List Value} (h : Own w e size A n c xs) : n ≤ c ∧ c ≤ maxLen := by
  rcases h.2 with ⟨_, h0, h1⟩ | ⟨g, cur, fz, rfl, hg, _, h1, h2, _⟩
  · subst h0; subst h1; exact ⟨Nat.le_refl _, Nat.zero_le _⟩
  · exact ⟨h1, h2⟩

/-- An element written. -/
theorem Own.set {w : World} {e : TypeId} {size : Nat} {g n c : Nat} {xs : List Value} (h : Own w e size (some ⟨g, 0, none⟩) n c xs) (j : Nat) (v : Value) : Own (w.setCell ⟨g, j, none⟩ v) e size (some ⟨g, 0, none⟩) n c (xs.set j v) := by
  refine ⟨by rw [List.length_set]; exact h.1, ?_⟩
  rcases h.2 with ⟨h1, _⟩ | ⟨g', cur, fz, hA, hg, hf, hnc, hcm, hs, ht⟩
  · cases h1
  · obtain rfl : g = g' := by injection hA with hA; injection hA
    have h1 : (w.setCell ⟨g, j, none⟩ v).heap[g]? = some (.cells (cur.setIfInBounds j v) e fz) := by
      rw [setCell_eq_setRow w g j cur e fz v hg]; exact setRow_heap w g cur _ e fz hg
    refine .inr ⟨g, _, fz, rfl, h1, by simpa using hf, hnc, hcm, by simpa using hs, ?_⟩
    rw [Array.toList_setIfInBounds, ← ht]
    apply List.ext_getElem?
    intro k
    by_cases hk : k < n * size
    · rw [List.getElem?_take_of_lt hk, List.getElem?_set, List.getElem?_set, List.getElem?_take_of_lt hk]
      by_cases hjk : j = k
      · subst hjk
        simp only [if_true, List.length_take]
        by_cases hc2 : j < cur.toList.length
        · rw [if_pos hc2, if_pos (by omega)]
        · rw [if_neg hc2, if_neg (by omega)]
      · rw [if_neg hjk, if_neg hjk]
    · rw [List.getElem?_take_eq_none (by omega), List.getElem?_eq_none]
      rw [List.length_set, List.length_take]; omega

/-- Cells stored one behind the other, in a row. -/
theorem heap_setCells (g : Nat) (e : TypeId) (fz : Nat × Nat) : ∀ (vs : List Value) (o : Nat) (w : World) (cur : Array Value), w.heap[g]? = some (.cells cur e fz) → o + vs.length ≤ cur.size →
    (w.setCells g o vs).heap[g]? = some (.cells (cur.toList.take o ++ (vs ++ cur.toList.drop (o + vs.length))).toArray e fz)
  | [], o, w, cur, hg, _ => by
    simp only [World.setCells, List.nil_append, List.length_nil, Nat.add_zero, List.take_append_drop, Array.toArray_toList]; exact hg
  | v :: r, o, w, cur, hg, hl => by
    simp only [List.length_cons] at hl
    have h1 : (w.setCell ⟨g, o, none⟩ v).heap[g]? = some (.cells (cur.setIfInBounds o v) e fz) := by
      rw [setCell_eq_setRow w g o cur e fz v hg]; exact setRow_heap w g cur _ e fz hg
    have ih := heap_setCells g e fz r (o + 1) _ _ h1 (by simp; omega)
    rw [World.setCells, ih]
    congr 2
    have e2 := list_seg_step cur.toList o v r (by simp; omega)
    simp only [Array.toList_setIfInBounds, List.length_cons]
    rw [← List.append_assoc, e2, List.append_assoc]
theorem chg_setCells (g : Nat) : ∀ (vs : List Value) (o : Nat) (w : World), Chg (F1 g) w (w.setCells g o vs)
  | [], _, w => Chg.refl _ w
  | v :: r, o, w => ((Chg.refl (F1 g) w).setCell ⟨g, o, none⟩ v F1.self).trans (chg_setCells g r (o + 1) _) (fun _ _ h => h)

section
variable {P : Program} {w : World}
/-- append, whatever was there, whatever is appended. -/
theorem run_append_all (t tx ty e : TypeId) (z : Value) (size bytes : Nat) (ht : P.underlying t = some (.slice e)) (hinfo : (P.info? e).map (fun i => (i.zero, i.size, i.bytes)) = some (some z, size, bytes)) (hzs : z.cells.size = size)
    (A : Option Addr) (n c : Nat) (xs : List Value) (hown : Own w e size A n c xs) (x : Value) (m : Nat) (news : List Value) (hs : Src P size tx x m news w)
    (h63 : n + m ≤ maxLen) (hbytes : (n + m) * bytes ≤ 140737488355328) :
    ∃ A' c' w', (Builtin.append_ #[t, tx] ty #[.slice A n c, x]).run P w = .ok (.slice A' (n + m) c') w' ∧ Own w' e size A' (n + m) c' (xs ++ news) ∧ Chg (FA A) w w' ∧ (blkOf A' = blkOf A ∨ blkOf A' = some w.heap.size) := by
  obtain ⟨i, hi, hz, hsize, hby⟩ := info_parts hinfo
  subst hsize
  subst hby
  have hlen : (xs ++ news).length = (n + m) * i.size := by rw [List.length_append, hown.1, hs.newsLen, Nat.add_mul]
  have hsmall : n + m ≤ 9223372036854775807 := by simp only [maxLen] at h63; omega
  have grow : c < n + m → ∃ A' c' w', (Builtin.append_ #[t, tx] ty #[.slice A n c, x]).run P w = .ok (.slice A' (n + m) c') w' ∧ Own w' e i.size A' (n + m) c' (xs ++ news) ∧ Chg (FA A) w w' ∧ (blkOf A' = blkOf A ∨ blkOf A' = some w.heap.size) := by
    intro hlt
    have hold : (Builtin.firstCells i.size n (.slice A n c)).run P w.drew = .ok xs.toArray w.drew := by
      rcases hown.2 with ⟨rfl, rfl, rfl⟩ | ⟨g, cur, fz, hA, _⟩
      · have : xs = [] := List.eq_nil_of_length_eq_zero (by have := hown.1; simpa using this)
        subst this
        exact run_firstCells_none w.drew i.size 0 0 0
      · subst hA
        exact run_firstCells_some w.drew i.size n _ n c xs hown.1 (by simpa using hown.src rfl)
    have hr := run_append_grow_src (P := P) w t tx ty e i z ht hi hz A n c xs hold x m news hs hlt (by omega) (growslice_fits hlt hbytes)
    refine ⟨_, _, _, hr, ⟨hlen, .inr ⟨w.heap.size, _, (0, 0), rfl, heap_alloc_new w.drew _, fun o _ h => by have h2 : o < 0 := h.2; omega, grownCap_ge w (n + m) c e, grownCap_le_maxLen w (n + m) c e h63, ?_, ?_⟩⟩, (Chg.refl _ w).drew.alloc _, .inr rfl⟩
    · have hge := grownCap_ge w (n + m) c e
      simp only [Array.size_append, List.size_toArray, size_zeroCells, hzs, hlen, ← Nat.add_mul]
      congr 1
      omega
    · simp only [Array.toList_append]
      rw [← hlen]
      exact List.take_left
  by_cases hroom : n + m ≤ c
  · rcases hown.2 with ⟨rfl, rfl, rfl⟩ | ⟨g, cur, fz, hA, hg, hf, hnc, hcm, hcs, htake⟩
    · have hm0 : m = 0 := by omega
      subst hm0
      have hx : xs = [] := List.eq_nil_of_length_eq_zero (by have := hown.1; simpa using this)
      have hnw : news = [] := List.eq_nil_of_length_eq_zero (by have := hs.newsLen; simpa using this)
      subst hx; subst hnw
      refine ⟨none, 0, w, ?_, Own.nil w e i.size, Chg.refl _ w, .inl rfl⟩
      have hc := hs.cells
      rcases hs.kind with ⟨e', hk⟩ | hk <;> simp [Builtin.append_, run_underlying ht, run_underlying hk, sizeOf, typeInfo, hi, hs.len, hc]
    · subst hA
      have hfit : n * i.size + news.length ≤ cur.size := by rw [hs.newsLen, hcs, ← Nat.add_mul]; exact Nat.mul_le_mul_right _ hroom
      have hr := run_append_room_src (P := P) w t tx ty e i ht hi g 0 n c x m news hs hroom (fun j hj => by
        rw [cell_of_row w g _ cur e fz hg]
        rw [Array.getElem?_eq_getElem (by omega)]; rfl) (fun j hj => by
        have := hf (0 + n * i.size + j) (by omega)
        simp only [World.frozen?, hg]
        simpa using this)
      rw [Nat.zero_add] at hr
      refine ⟨_, _, _, hr, ⟨hlen, .inr ⟨g, _, fz, rfl, heap_setCells g e fz news (n * i.size) w cur hg hfit, ?_, hroom, hcm, ?_, ?_⟩⟩, (chg_setCells g news _ w).mono (fun k _ h => congrArg some h.symm), .inl rfl⟩
      · intro o ho
        apply hf
        simp only [List.size_toArray, List.length_append, List.length_take, List.length_drop, Array.length_toList] at ho
        omega
      · simp only [List.size_toArray, List.length_append, List.length_take, List.length_drop, Array.length_toList]
        omega
      · show (List.take (n * i.size) cur.toList ++ (news ++ List.drop (n * i.size + news.length) cur.toList)).take ((n + m) * i.size) = _
        rw [htake, ← hlen, ← List.append_assoc]
        exact List.take_left
  · exact grow (by omega)

variable {ops : Array Oper} {rest : List Oper} {o : Oper} {a : Act} {Q : Exit → Act → World → Prop}
theorem wp_append_all {K : Act → World → Prop} (s x : Operand) (t tx : TypeId) (ho : o.op = .call { callee := .builtin .append, args := #[s, x], argTypes := #[t, tx] })
    (e : TypeId) (z : Value) (size bytes : Nat) (ht : P.underlying t = some (.slice e)) (hinfo : (P.info? e).map (fun i => (i.zero, i.size, i.bytes)) = some (some z, size, bytes)) (hzs : z.cells.size = size)
    (A : Option Addr) (n c : Nat) (hsv : a.eval s = .slice A n c) (xs : List Value) (hown : Own w e size A n c xs) (xv : Value) (hxv : a.eval x = xv) (m : Nat) (news : List Value) (hs : Src P size tx xv m news w)
    (h63 : n + m ≤ maxLen) (hbytes : (n + m) * bytes ≤ 140737488355328)
    (h : ∀ A' c' w', Own w' e size A' (n + m) c' (xs ++ news) → Chg (FA A) w w' → (blkOf A' = blkOf A ∨ blkOf A' = some w.heap.size) → K (a.put o.dst (.slice A' (n + m) c')) w') : o.wp P a w K Q := by
  obtain ⟨A', c', w', hr, h1, h2, h3⟩ := run_append_all (P := P) t tx o.type e z size bytes ht hinfo hzs A n c xs hown xv m news hs h63 hbytes
  unfold Oper.wp execOp
  simp only [ho, resolve, invoke, builtin, Sem.run_bind, Sem.run_pure, Result.andThen_ok, List.map_toArray, List.map_cons, List.map_nil, hsv, hxv, hr]
  exact h A' c' w' h1 h2 h3
theorem wpList_append_all (hgd : o.guard = none) (s x : Operand) (t tx : TypeId) (ho : o.op = .call { callee := .builtin .append, args := #[s, x], argTypes := #[t, tx] })
    (e : TypeId) (z : Value) (size bytes : Nat) (ht : P.underlying t = some (.slice e)) (hinfo : (P.info? e).map (fun i => (i.zero, i.size, i.bytes)) = some (some z, size, bytes)) (hzs : z.cells.size = size)
    (A : Option Addr) (n c : Nat) (hsv : a.eval s = .slice A n c) (xs : List Value) (hown : Own w e size A n c xs) (xv : Value) (hxv : a.eval x = xv) (m : Nat) (news : List Value) (hs : Src P size tx xv m news w)
    (h63 : n + m ≤ maxLen) (hbytes : (n + m) * bytes ≤ 140737488355328)
    (h : ∀ A' c' w', Own w' e size A' (n + m) c' (xs ++ news) → Chg (FA A) w w' → (blkOf A' = blkOf A ∨ blkOf A' = some w.heap.size) → wpList P ops Q rest (a.put o.dst (.slice A' (n + m) c')) w') : wpList P ops Q (o :: rest) a w :=
  wpList_plain hgd fun _ hK => wp_append_all s x t tx ho e z size bytes ht hinfo hzs A n c hsv xs hown xv hxv m news hs h63 hbytes fun A' c' w' h1 h2 h3 => hK _ _ (h A' c' w' h1 h2 h3)
theorem step_append_all {K : Act → World → Prop} {E : Prop} (hgd : o.guard = none) (s x : Operand) (t tx : TypeId) (ho : o.op = .call { callee := .builtin .append, args := #[s, x], argTypes := #[t, tx] })
    (e : TypeId) (z : Value) (size bytes : Nat) (ht : P.underlying t = some (.slice e)) (hinfo : (P.info? e).map (fun i => (i.zero, i.size, i.bytes)) = some (some z, size, bytes)) (hzs : z.cells.size = size)
    (A : Option Addr) (n c : Nat) (hsv : a.eval s = .slice A n c) (xs : List Value) (hown : Own w e size A n c xs) (xv : Value) (hxv : a.eval x = xv) (m : Nat) (news : List Value) (hs : Src P size tx xv m news w)
    (h63 : n + m ≤ maxLen) (hbytes : (n + m) * bytes ≤ 140737488355328)
    (h : ∀ A' c' w', Own w' e size A' (n + m) c' (xs ++ news) → Chg (FA A) w w' → (blkOf A' = blkOf A ∨ blkOf A' = some w.heap.size) → K (a.put o.dst (.slice A' (n + m) c')) w') :
    if Region.wanted o (yielded ops a.tmps) = true then Oper.wp P o a w K Q else E := by
  have hw : Region.wanted o (yielded ops a.tmps) = true := by simp [Region.wanted, hgd]
  rw [if_pos hw]
  exact wp_append_all s x t tx ho e z size bytes ht hinfo hzs A n c hsv xs hown xv hxv m news hs h63 hbytes h
end

/-- What a whole slice yields to an append. -/
theorem Own.src' {P : Program} {w : World} {e : TypeId} {size : Nat} {A : Option Addr} {n c : Nat} {xs : List Value} (h : Own w e size A n c xs) {tx e' : TypeId} (hk : P.underlying tx = some (.slice e')) (h1 : ∀ u ∈ xs, u.oneCell' = true) : Src P size tx (.slice A n c) n xs w := by
  rcases h.2 with ⟨rfl, rfl, rfl⟩ | ⟨g, cur, fz, hA, _⟩
  · have : xs = [] := List.eq_nil_of_length_eq_zero (by have := h.1; simpa using this)
    subst this
    exact Src.ofNil w hk 0
  · subst hA
    exact Src.ofSlice w hk _ n c xs h.1 (h.src rfl) h1
/-- What one new block yields: append(s, x). -/
theorem Blk.srcOf {P : Program} {w : World} {g : Nat} {cs : List Value} {T : TypeId} (h : Blk w g cs.toArray T) {tx e' : TypeId} (hk : P.underlying tx = some (.slice e')) {size m c : Nat} (hl : cs.length = m * size) (h1 : ∀ u ∈ cs, u.oneCell' = true) : Src P size tx (.slice (some ⟨g, 0, none⟩) m c) m cs w :=
  Src.ofSlice w hk _ m c cs hl h.src h1

/-- []byte(s). -/
theorem chg_bytesWorld (w : World) (e : TypeId) (s : ByteArray) : Chg NoB w (Lib.bytesWorld w e s) :=
  ⟨by simp [Lib.bytesWorld, World.freeze, World.alloc, World.drew, -World.alloc_eq, -World.drew_eq], by simp [Lib.bytesWorld, World.freeze, World.alloc, World.drew, -World.alloc_eq, -World.drew_eq],
   by simp [Lib.bytesWorld, World.freeze, World.alloc, World.drew, -World.alloc_eq, -World.drew_eq], by rw [Lib.bytesWorld_size]; omega, fun k hk _ => Lib.bytesWorld_at_old w e s k hk⟩
theorem own_bytesWorld (w : World) (e : TypeId) (s : ByteArray) (hs : s.size ≤ maxLen) : Own (Lib.bytesWorld w e s) e 1 (some ⟨w.heap.size, 0, none⟩) s.size (grownCap w s.size 0 e) (u8s s.data.toList) := by
  have hge := grownCap_ge w s.size 0 e
  have hsz : s.data.size = s.size := rfl
  have hB : (Lib.bytesCells w e s).size = grownCap w s.size 0 e := by
    simp only [Lib.bytesCells, Array.size_append, Array.size_map, Array.size_replicate, hsz]; omega
  refine ⟨by rw [u8s_length, Array.length_toList, Nat.mul_one]; rfl, .inr ⟨w.heap.size, _, _, rfl, Lib.bytesWorld_at_new w e s, fun o ho h => by have := h.1; simp only at this; omega, hge, grownCap_le_maxLen w s.size 0 e hs, by rw [hB, Nat.mul_one], ?_⟩⟩
  simp only [Lib.bytesCells, Array.toList_append, Array.toList_map, Nat.mul_one]
  have : (u8s s.data.toList).length = s.size := by rw [u8s_length, Array.length_toList]; rfl
  rw [← this]
  exact List.take_left
section
variable {P : Program} {w : World} {ops : Array Oper} {rest : List Oper} {o : Oper} {a : Act} {Q : Exit → Act → World → Prop}
theorem wpList_to_bytes (hgd : o.guard = none) (x : Operand) (src dst e : TypeId) (ho : o.op = .convert src dst x) (hs : P.underlying src = some .string) (hd : P.underlying dst = some (.slice e)) (he : P.underlying e = some (.int .u8)) (s : ByteArray) (hx : a.eval x = .string s) (hl : s.size ≤ maxLen)
    (h : ∀ g c w', w.heap.size ≤ g → Own w' e 1 (some ⟨g, 0, none⟩) s.size c (u8s s.data.toList) → Chg NoB w w' → wpList P ops Q rest (a.put o.dst (.slice (some ⟨g, 0, none⟩) s.size c)) w') : wpList P ops Q (o :: rest) a w := by
  refine wpList_plain hgd fun K hK => ?_
  have hrun := Lib.run_convert_string_bytes (P := P) w src dst e s hs hd he
  unfold Oper.wp
  simp [execOp, ho, hx, hrun, Result.andThen]
  exact hK _ _ (h _ _ _ (Nat.le_refl _) (own_bytesWorld w e s hl) (chg_bytesWorld w e s))
end
/-- string(b). -/
def str (l : List UInt8) : ByteArray := ⟨l.toArray⟩
theorem str_size (l : List UInt8) : (str l).size = l.length := by show l.toArray.size = _; simp
theorem str_toList (l : List UInt8) : (str l).data.toList = l := by simp [str]
theorem str_data (s : ByteArray) : str s.data.toList = s := by simp [str]
theorem run_to_str {P : Program} {w : World} {e : TypeId} {A : Option Addr} {n c : Nat} {l : List UInt8} (h : Own w e 1 A n c (u8s l)) (src dst e' : TypeId) (hs : P.underlying src = some (.slice e')) (he : P.underlying e' = some (.int .u8)) (hd : P.underlying dst = some .string) :
    (convert src dst (.slice A n c)).run P w = .ok (.string (str l)) w := by
  have hl : l.length = n := by have := h.1; rw [u8s_length] at this; omega
  rcases h.2 with ⟨rfl, rfl, rfl⟩ | ⟨g, cur, fz, hA, _⟩
  · have : l = [] := List.eq_nil_of_length_eq_zero hl
    subst this
    exact run_convert_bytes_nil w src e' hs he 0 0 dst hd
  · subst hA
    have := run_convert_bytes_back (P := P) w src dst e' ⟨g, 0, none⟩ c l hs he hd (fun j hj => h.src rfl j _ (by rw [u8s_get, List.getElem?_eq_getElem hj]; rfl))
    rw [hl] at this
    exact this
end Go.Proofs.YtkphllolghlmeaaDoor
