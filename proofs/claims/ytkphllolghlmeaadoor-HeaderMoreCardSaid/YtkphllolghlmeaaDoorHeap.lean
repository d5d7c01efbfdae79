/- Words of our own on memory: a block whole, what a call may have changed. No function of the program is named here. -/
import Derived.Test.YtkphllolghlmeaaDoorProg
import Derived.WalkKit
import Derived.KernelRfl
import Derived.BigQuiet
import Derived.Deep.QuietTactic
import Derived.Laws.LoneSync
import Derived.Handy
import Derived.Laws.CopyOwn
import Derived.Lib.BufferWrite
import Derived.Lib.SlBuf
namespace Go.Proofs.YtkphllolghlmeaaDoor
open Go.RowKit

/-- A block of cells, whole, nothing of it frozen. -/
def Blk (w : World) (b : Nat) (cs : Array Value) (T : TypeId) : Prop := w.heap[b]? = some (.cells cs T (0, 0))
theorem Blk.cell {w : World} {b : Nat} {cs : Array Value} {T : TypeId} (h : Blk w b cs T) (o : Nat) : w.cell? ⟨b, o, none⟩ = cs[o]? := by
  have h' : w.heap[b]? = some (.cells cs T (0, 0)) := h
  simp [World.cell?, h']
theorem Blk.frozen {w : World} {b : Nat} {cs : Array Value} {T : TypeId} (h : Blk w b cs T) (o : Nat) : w.frozen? ⟨b, o, none⟩ = false := by
  have h' : w.heap[b]? = some (.cells cs T (0, 0)) := h
  simp [World.frozen?, h']
theorem Blk.lt {w : World} {b : Nat} {cs : Array Value} {T : TypeId} (h : Blk w b cs T) : b < w.heap.size := by
  have h' : w.heap[b]? = some (.cells cs T (0, 0)) := h
  exact (Array.getElem?_eq_some_iff.1 h').1
theorem Blk.set {w : World} {b : Nat} {cs : Array Value} {T : TypeId} (h : Blk w b cs T) (o : Nat) (v : Value) : Blk (w.setCell ⟨b, o, none⟩ v) b (cs.setIfInBounds o v) T :=
  heap_setCell_same w b o cs T v h
theorem Blk.setOther {w : World} {b : Nat} {cs : Array Value} {T : TypeId} (h : Blk w b cs T) (a : Addr) (v : Value) (hne : b ≠ a.block) : Blk (w.setCell a v) b cs T :=
  (heap_setCell_other w a b v hne).trans h
theorem Blk.alloc {w : World} {b : Nat} {cs : Array Value} {T : TypeId} (h : Blk w b cs T) (o : Obj) : Blk (w.alloc o) b cs T :=
  (Below.heap_alloc w o b h.lt).trans h
theorem Blk.new (w : World) (cs : Array Value) (T : TypeId) : Blk (w.alloc (.cells cs T)) w.heap.size cs T := heap_alloc_new w _
theorem Blk.new2 (w : World) (o : Obj) (cs : Array Value) (T : TypeId) : Blk ((w.alloc o).alloc (.cells cs T)) (w.heap.size + 1) cs T := heap_alloc2_new w _ _
theorem hid {p : Prop} (h : p) : Hid p := h
theorem Blk.drew {w : World} {b : Nat} {cs : Array Value} {T : TypeId} (h : Blk w b cs T) : Blk w.drew b cs T := h
theorem Blk.drewN {w : World} {b : Nat} {cs : Array Value} {T : TypeId} (h : Blk w b cs T) (n : Nat) : Blk (w.drewN n) b cs T := h
theorem Blk.inj {w : World} {b : Nat} {cs cs' : Array Value} {T T' : TypeId} (h : Blk w b cs T) (h' : Blk w b cs' T') : cs = cs' ∧ T = T' := by
  have e : some (Obj.cells cs T (0, 0)) = some (Obj.cells cs' T' (0, 0)) := h.symm.trans h'
  injection e with e; injection e with e1 e2; exact ⟨e1, e2⟩

/-- What a call may have changed of the blocks that were there: those of F. -/
structure Chg (F : Nat → Prop) (w w' : World) : Prop where
  os : w'.os = w.os
  tape : w'.tape = w.tape
  output : w'.output = w.output
  size : w.heap.size ≤ w'.heap.size
  block : ∀ k, k < w.heap.size → ¬ F k → w'.heap[k]? = w.heap[k]?
def F1 (b : Nat) : Nat → Prop := fun k => k = b
theorem F1.self {b : Nat} {p : Prop} : p → F1 b b := fun _ => rfl
def F2 (b D : Nat) : Nat → Prop := fun k => k = b ∨ k = D
def NoB : Nat → Prop := fun _ => False
theorem Chg.refl (F : Nat → Prop) (w : World) : Chg F w w := ⟨rfl, rfl, rfl, Nat.le_refl _, fun _ _ _ => rfl⟩
theorem Chg.trans {F G : Nat → Prop} {a b c : World} (h : Chg F a b) (k : Chg G b c) (hG : ∀ i, i < a.heap.size → G i → F i) : Chg F a c :=
  ⟨k.os.trans h.os, k.tape.trans h.tape, k.output.trans h.output, Nat.le_trans h.size k.size, fun i hi hn => (k.block i (Nat.lt_of_lt_of_le hi h.size) (fun hg => hn (hG i hi hg))).trans (h.block i hi hn)⟩
theorem Chg.mono {F G : Nat → Prop} {a b : World} (h : Chg F a b) (hG : ∀ i, i < a.heap.size → F i → G i) : Chg G a b :=
  ⟨h.os, h.tape, h.output, h.size, fun i hi hn => h.block i hi (fun hf => hn (hG i hi hf))⟩
theorem Chg.below {F : Nat → Prop} {a b : World} (h : Chg F a b) {B : Nat} (hB : B ≤ a.heap.size) (hF : ∀ i, i < B → ¬ F i) : Below B a b :=
  ⟨h.os, h.tape, h.output, h.size, fun i hi => h.block i (by omega) (hF i hi)⟩
theorem Chg.of_below {a b : World} (h : Below a.heap.size a b) (F : Nat → Prop) : Chg F a b := ⟨h.os, h.tape, h.output, h.size, fun i hi _ => h.block i hi⟩
theorem Chg.of_grown {a b : World} {row : Option Nat} (h : a.grownBy b row) {F : Nat → Prop} (hF : ∀ k, row = some k → k < a.heap.size → F k) : Chg F a b :=
  ⟨h.os, h.tape, h.output, h.size, fun i hi hn => h.block i hi (fun e => hn (hF i e.symm hi))⟩
theorem Chg.drew {F : Nat → Prop} {a b : World} (h : Chg F a b) : Chg F a b.drew := ⟨h.os, h.tape, h.output, h.size, h.block⟩
theorem Chg.drewN {F : Nat → Prop} {a b : World} (h : Chg F a b) (n : Nat) : Chg F a (b.drewN n) := ⟨h.os, h.tape, h.output, h.size, h.block⟩
theorem Chg.alloc {F : Nat → Prop} {a b : World} (h : Chg F a b) (o : Obj) : Chg F a (b.alloc o) :=
  ⟨h.os, h.tape, h.output, Nat.le_trans h.size (by simp), fun i hi hn => (Below.heap_alloc b o i (Nat.lt_of_lt_of_le hi h.size)).trans (h.block i hi hn)⟩
theorem Chg.setCell {F : Nat → Prop} {a b : World} (h : Chg F a b) (p : Addr) (v : Value) (hF : p.block < a.heap.size → F p.block) : Chg F a (b.setCell p v) :=
  ⟨h.os, h.tape, h.output, by have := h.size; simpa [World.setCell] using this, fun i hi hn => (heap_setCell_other b p i v (fun e => hn (e ▸ hF (e ▸ hi)))).trans (h.block i hi hn)⟩
theorem Chg.setRow {F : Nat → Prop} {a b : World} (h : Chg F a b) (g : Nat) (cs : Array Value) (hF : g < a.heap.size → F g) : Chg F a (b.setRow g cs) :=
  ⟨h.os, h.tape, h.output, by have := h.size; simpa using this, fun i hi hn => by
    have hne : i ≠ g := fun e => hn (e ▸ hF (e ▸ hi))
    rw [← h.block i hi hn]
    simp only [World.setRow, Array.getElem?_modify]
    rw [if_neg (fun e => hne e.symm)]⟩
theorem Chg.keep {F : Nat → Prop} {a b : World} (h : Chg F a b) {k : Nat} {o : Obj} (hn : ¬ F k) (hk : a.heap[k]? = some o) : b.heap[k]? = some o :=
  (h.block k (Array.getElem?_eq_some_iff.1 hk).1 hn).trans hk
theorem Blk.keep {F : Nat → Prop} {a b : World} {k : Nat} {cs : Array Value} {T : TypeId} (hk : Blk a k cs T) (h : Chg F a b) (hn : ¬ F k) : Blk b k cs T := h.keep hn hk
theorem Chg.cell {F : Nat → Prop} {a b : World} (h : Chg F a b) {p : Addr} {v : Value} (hc : a.cell? p = some v) (hn : ¬ F p.block) : b.cell? p = some v :=
  (World.cell?_of_block (h.block p.block (World.block_lt_of_cell? a p hc) hn)).trans hc
/-- A cell that can be written stays so. -/
theorem Chg.held {F : Nat → Prop} {a b : World} (h : Chg F a b) {p : Addr} {v : Value} (hc : a.cell? p = some v ∧ a.frozen? p = false) (hn : ¬ F p.block) : b.cell? p = some v ∧ b.frozen? p = false :=
  ⟨h.cell hc.1 hn, (World.frozen?_of_block (h.block p.block (World.block_lt_of_cell? a p hc.1) hn)).trans hc.2⟩
theorem Blk.setRow {w : World} {b : Nat} {cs : Array Value} {T : TypeId} (h : Blk w b cs T) (cs' : Array Value) : Blk (w.setRow b cs') b cs' T := setRow_heap w b cs cs' T _ h
theorem Blk.setRowOther {w : World} {b : Nat} {cs : Array Value} {T : TypeId} (h : Blk w b cs T) (g : Nat) (cs' : Array Value) (hne : b ≠ g) : Blk (w.setRow g cs') b cs T := by
  have h' : w.heap[b]? = some (.cells cs T (0, 0)) := h
  show (w.setRow g cs').heap[b]? = _
  simp only [World.setRow, Array.getElem?_modify]
  rw [if_neg (fun e => hne e.symm)]; exact h'

/-- Bytes as cells. -/
def u8v (c : UInt8) : Value := .int .u8 (c.toNat : Int)
def u8s (l : List UInt8) : List Value := l.map u8v
theorem u8s_length (l : List UInt8) : (u8s l).length = l.length := by simp [u8s]
def zeros (n : Nat) : List UInt8 := List.replicate n 0
theorem zeros_length (n : Nat) : (zeros n).length = n := by simp [zeros]
theorem u8s_one (l : List UInt8) : ∀ v ∈ u8s l, v.oneCell' = true := by
  intro v hv
  simp only [u8s, List.mem_map] at hv
  obtain ⟨b, _, rfl⟩ := hv
  rfl
theorem u8s_get (l : List UInt8) (j : Nat) : (u8s l)[j]? = (l[j]?).map u8v := by simp [u8s]
theorem u8s_append (l m : List UInt8) : u8s (l ++ m) = u8s l ++ u8s m := by simp [u8s]
theorem u8s_take (l : List UInt8) (k : Nat) : (u8s l).take k = u8s (l.take k) := by simp [u8s, List.map_take]
theorem u8s_drop (l : List UInt8) (k : Nat) : (u8s l).drop k = u8s (l.drop k) := by simp [u8s, List.map_drop]

/-- make([]byte, n). -/
theorem run_make_bytes {P : Program} {t e : TypeId} (ht : P.underlying t = some (.slice e)) (hinfo : (P.info? e).map (fun i => (i.zero, i.size, i.bytes)) = some (some (.int .u8 0), 1, 1)) (n : Nat) (hn : n ≤ 281474976710656) (w : World) :
    (Instr.makeSlice t (.int .i64 (n : Int)) (.int .i64 (n : Int))).run P w = .ok (.slice (some ⟨w.heap.size, 0, none⟩) n n) (w.alloc (.cells (u8s (zeros n)).toArray e)) := by
  obtain ⟨i, hi, hz, hs, hb⟩ := info_parts hinfo
  rw [run_make w t e i _ ht hi hz .i64 .i64 (n : Int) (n : Int) (by omega) (by omega) (by rw [hb]; omega) (by omega)]
  have e1 : madeCells (Value.int .u8 0).cells ((n : Int).toNat * i.size) = (u8s (zeros n)).toArray := by
    rw [hs, Nat.mul_one, Int.toNat_natCast]
    apply Array.toList_inj.1
    show (madeCells #[Value.int .u8 0] n).toList = _
    rw [toList_madeCells_one]
    simp [u8s, zeros, u8v]
  rw [e1]
  rfl

/-- copy into a block that is known whole, of a string that fits. -/
theorem run_copy_str {P : Program} {w : World} {g : Nat} {cur : List Value} {T : TypeId} (hg : Blk w g cur.toArray T) (dT sT ty elem : TypeId) (o dLen dCap : Nat) (s : ByteArray)
    (hu : P.underlying dT = some (.slice elem)) (hs : (P.info? elem).map (·.size) = some 1) (hle : s.size ≤ dLen) (hfit : o + s.size ≤ cur.length) :
    (Builtin.copy_ #[dT, sT] ty #[.slice (some ⟨g, o, none⟩) dLen dCap, .string s]).run P w = .ok (goInt s.size) (w.setRow g (cur.take o ++ u8s s.data.toList ++ cur.drop (o + s.size)).toArray) :=
  Lib.run_copy_row_string w dT sT ty elem g o dLen dCap s cur.toArray T hu hs hg hle (by simpa using hfit)
/-- .. of bytes. -/
theorem run_copy_u8 {P : Program} {w : World} {g : Nat} {cur : List Value} {T : TypeId} (hg : Blk w g cur.toArray T) (dT sT ty elem : TypeId) (o dLen dCap : Nat) (ad : Addr) (sLen sCap : Nat) (cs : List Value)
    (hu : P.underlying dT = some (.slice elem)) (hs : (P.info? elem).map (·.size) = some 1) (hn : cs.length = Nat.min sLen dLen) (hsrc : ∀ j v, cs[j]? = some v → w.cell? (ad.add j) = some v) (hfit : o + cs.length ≤ cur.length) (h1 : ∀ v ∈ cs, v.oneCell' = true) :
    (Builtin.copy_ #[dT, sT] ty #[.slice (some ⟨g, o, none⟩) dLen dCap, .slice (some ad) sLen sCap]).run P w = .ok (goInt cs.length) (w.setRow g (cur.take o ++ cs ++ cur.drop (o + cs.length)).toArray) :=
  run_copy_row P w dT sT ty elem g o dLen dCap ad sLen sCap cur.toArray T cs hu hs hg hn hsrc (by simpa using hfit) h1
theorem addr0 (g j : Nat) : (⟨g, 0, none⟩ : Addr).add j = ⟨g, j, none⟩ := by unfold Addr.add; split <;> simp_all
theorem addr_add (g o j : Nat) : (⟨g, o, none⟩ : Addr).add j = ⟨g, o + j, none⟩ := by unfold Addr.add; split <;> simp_all
theorem Blk.src {w : World} {g : Nat} {cs : List Value} {T : TypeId} (h : Blk w g cs.toArray T) : ∀ j v, cs[j]? = some v → w.cell? ((⟨g, 0, none⟩ : Addr).add j) = some v := by
  intro j v hv
  rw [addr0, h.cell j]
  simpa using hv
/-- Cells from place o on, n of them. -/
theorem Blk.srcAt {w : World} {g : Nat} {cs : List Value} {T : TypeId} (h : Blk w g cs.toArray T) (o n : Nat) : ∀ j v, ((cs.drop o).take n)[j]? = some v → w.cell? ((⟨g, o, none⟩ : Addr).add j) = some v := by
  intro j v hv
  rw [addr_add, h.cell (o + j)]
  have hj : j < n := by
    have := (List.getElem?_eq_some_iff.1 hv).1
    simp at this; omega
  rw [List.getElem?_take_of_lt hj, List.getElem?_drop] at hv
  simpa using hv
theorem splice_len {α : Type} (L cs : List α) (o : Nat) (h : o + cs.length ≤ L.length) : (splice L o cs).length = L.length := length_splice L o cs h
theorem u8s_splice (l : List UInt8) (o : Nat) (m : List UInt8) : splice (u8s l) o (u8s m) = u8s (splice l o m) := by
  simp only [splice, u8s_take, u8s_drop, u8s_append, u8s_length]
theorem splice_append {α : Type} (l r cs : List α) (o : Nat) (h : o + cs.length ≤ l.length) : splice (l ++ r) o cs = splice l o cs ++ r := by
  simp only [splice, List.append_assoc]
  rw [List.take_append_of_le_length (by omega), List.drop_append_of_le_length (by omega)]

section
variable {P : Program} {ops : Array Oper} {rest : List Oper} {o : Oper} {a : Act} {w : World} {Q : Exit → Act → World → Prop}
/-- make([]byte, n): a block more. -/
theorem wpList_make_u8 (hgd : o.guard = none) (l c : Operand) (t e : TypeId) (ho : o.op = .makeSlice t l c) (ht : P.underlying t = some (.slice e)) (hinfo : (P.info? e).map (fun i => (i.zero, i.size, i.bytes)) = some (some (.int .u8 0), 1, 1))
    (n : Nat) (hn : n ≤ 281474976710656) (v : Value) (hv : v = .int .i64 (n : Int)) (hl : a.eval l = v) (hc : a.eval c = v)
    (h : ∀ (w' : World) (b : Nat), w.heap.size ≤ b → Blk w' b (u8s (zeros n)).toArray e → Chg NoB w w' → wpList P ops Q rest (a.put o.dst (.slice (some ⟨b, 0, none⟩) n n)) w') :
    wpList P ops Q (o :: rest) a w := by
  subst hv
  refine wpList_plain hgd fun K hK => ?_
  have hrun := run_make_bytes ht hinfo n hn w
  unfold Oper.wp
  simp [execOp, ho, hl, hc, hrun, Result.andThen]
  exact hK _ _ (h _ _ (Nat.le_refl _) (Blk.new w _ _) ((Chg.refl NoB w).alloc _))
/-- copy(block, string). -/
theorem wpList_copy_str (hgd : o.guard = none) (d s : Operand) (dT sT : TypeId) (ho : o.op = .call { callee := .builtin .copy, args := #[d, s], argTypes := #[dT, sT] }) (elem : TypeId) (hu : P.underlying dT = some (.slice elem)) (hsz : (P.info? elem).map (·.size) = some 1)
    (g off dLen dCap : Nat) (str : ByteArray) (hd : a.eval d = .slice (some ⟨g, off, none⟩) dLen dCap) (hs : a.eval s = .string str) (cur : List Value) (T : TypeId) (hg : Blk w g cur.toArray T) (hle : str.size ≤ dLen) (hfit : off + str.size ≤ cur.length)
    (h : ∀ w', Blk w' g (splice cur off (u8s str.data.toList)).toArray T → Chg (F1 g) w w' → wpList P ops Q rest (a.put o.dst (goInt str.size)) w') :
    wpList P ops Q (o :: rest) a w := by
  refine Lib.wpList_copy_run w hgd d s dT sT ho _ _ hd hs (run_copy_str hg dT sT o.type elem off dLen dCap str hu hsz hle hfit) ?_
  refine h _ ?_ ((Chg.refl (F1 g) w).setRow g _ F1.self)
  have := hg.setRow (cur.take off ++ u8s str.data.toList ++ cur.drop (off + str.size)).toArray
  have e : splice cur off (u8s str.data.toList) = cur.take off ++ u8s str.data.toList ++ cur.drop (off + str.size) := by
    have : str.data.toList.length = str.size := Array.length_toList
    simp only [splice, u8s_length, this, List.append_assoc]
  rw [e]; exact this
/-- copy(block, bytes that lie elsewhere, or there). -/
theorem wpList_copy_cells (hgd : o.guard = none) (d s : Operand) (dT sT : TypeId) (ho : o.op = .call { callee := .builtin .copy, args := #[d, s], argTypes := #[dT, sT] }) (elem : TypeId) (hu : P.underlying dT = some (.slice elem)) (hsz : (P.info? elem).map (·.size) = some 1)
    (g off dLen dCap : Nat) (ad : Addr) (sLen sCap : Nat) (hd : a.eval d = .slice (some ⟨g, off, none⟩) dLen dCap) (hs : a.eval s = .slice (some ad) sLen sCap) (cur : List Value) (T : TypeId) (hg : Blk w g cur.toArray T)
    (cs : List Value) (hn : cs.length = Nat.min sLen dLen) (hsrc : ∀ j v, cs[j]? = some v → w.cell? (ad.add j) = some v) (hfit : off + cs.length ≤ cur.length) (h1 : ∀ v ∈ cs, v.oneCell' = true)
    (h : ∀ w', Blk w' g (splice cur off cs).toArray T → Chg (F1 g) w w' → wpList P ops Q rest (a.put o.dst (goInt cs.length)) w') :
    wpList P ops Q (o :: rest) a w := by
  refine Lib.wpList_copy_run w hgd d s dT sT ho _ _ hd hs (run_copy_u8 hg dT sT o.type elem off dLen dCap ad sLen sCap cs hu hsz hn hsrc hfit h1) ?_
  refine h _ ?_ ((Chg.refl (F1 g) w).setRow g _ F1.self)
  have := hg.setRow (cur.take off ++ cs ++ cur.drop (off + cs.length)).toArray
  have e : splice cur off cs = cur.take off ++ cs ++ cur.drop (off + cs.length) := by simp [splice, List.append_assoc]
  rw [e]; exact this
end
end Go.Proofs.YtkphllolghlmeaaDoor
