/- The law's rows of calls, opened: what their cells hold. -/
import Derived.Test.YtjgkccmifomjnaaSecE
import Derived.Deep.Slices
import Derived.Lib.SmallJoins
namespace Go.Proofs.Ytjgkccmifomjnaa
open Go.RowKit

structure Act where
  kind : Int
  at_ : Int
  data : ByteArray
  cat : Int
  torn : Int
  deriving Inhabited
def actC (x : Act) : List Value := [.int .i64 x.kind, .int .i64 x.at_, .string x.data, .int .i64 x.cat, .int .i64 x.torn]
def Act.wf (x : Act) : Prop := (Lit.int .i64 x.kind).wf = true ∧ (Lit.int .i64 x.at_).wf = true ∧ (Lit.int .i64 x.cat).wf = true ∧ (Lit.int .i64 x.torn).wf = true

theorem open_cut {H : Type} {enc : TypeId × Value → H} {w : World} {base : Nat} {sp : Nat → Bool} {held : Bool} {n : Nat} {cs : List Value} {y : DataW H × List MemPlace}
    (h : DataW.trod enc Try.prog w base sp held n 31 cs = some y) : ∃ a b, cs = [.int .i64 a, .int .i64 b] ∧ (Lit.int .i64 a).wf = true ∧ (Lit.int .i64 b).wf = true := by
  obtain ⟨y0, y1, m, _, hl, h0, h1⟩ := ChangeShapes.trod_struct2 Try.underlying31 h
  rw [show Try.prog.cellsOf 31 = 2 by kernel_rfl] at hl
  match cs, hl with
  | [a, b], _ =>
    simp only [show Try.prog.cellsOf 3 = 1 by kernel_rfl, List.drop_zero, List.drop_succ_cons, List.take_succ_cons, List.take_zero] at h0 h1
    obtain ⟨p, e0, _, w0⟩ := DataW.trod_int Try.underlying3 h0
    obtain ⟨q, e1, _, w1⟩ := DataW.trod_int Try.underlying3 h1
    simp only [List.cons.injEq, and_true] at e0 e1
    exact ⟨p, q, by rw [e0, e1], w0, w1⟩
theorem open_act {H : Type} {enc : TypeId × Value → H} {w : World} {base : Nat} {sp : Nat → Bool} {held : Bool} {n : Nat} {cs : List Value} {y : DataW H × List MemPlace}
    (h : DataW.trod enc Try.prog w base sp held n 36 cs = some y) : ∃ x : Act, cs = actC x ∧ x.wf := by
  obtain ⟨y0, y1, y2, y3, m, _, hl, h0, h1, h2, h3⟩ := Joins.trod_struct4 Try.underlying36 h
  rw [show Try.prog.cellsOf 36 = 5 by kernel_rfl] at hl
  match cs, hl with
  | [a, b, c, d, e], _ =>
    simp only [show Try.prog.cellsOf 3 = 1 by kernel_rfl, show Try.prog.cellsOf 9 = 1 by kernel_rfl, show Try.prog.cellsOf 31 = 2 by kernel_rfl, List.drop_zero, List.drop_succ_cons, List.take_succ_cons, List.take_zero, List.take_nil] at h0 h1 h2 h3
    obtain ⟨p, e0, _, w0⟩ := DataW.trod_int Try.underlying3 h0
    obtain ⟨q, e1, _, w1⟩ := DataW.trod_int Try.underlying3 h1
    obtain ⟨s, e2, _, w2⟩ := DataW.trod_string Try.underlying9 h2
    obtain ⟨u, v, e3, w3, w4⟩ := open_cut h3
    simp only [List.cons.injEq, and_true] at e0 e1 e2 e3
    exact ⟨⟨p, q, s, u, v⟩, by rw [e0, e1, e2, e3.1, e3.2]; rfl, w0, w1, w3, w4⟩

/-- Acts that lie there to be read. -/
def ActsAt (w : World) (A : Option Addr) (n : Nat) (l : List Act) : Prop :=
  l.length = n ∧ (∀ x ∈ l, x.wf) ∧ (0 < n → ∃ b o, A = some ⟨b, o, none⟩ ∧ b < w.heap.size ∧ ∀ (i : Nat) (x : Act), l[i]? = some x →
    w.cell? ⟨b, o + i * 5, none⟩ = some (.int .i64 x.kind) ∧ w.cell? ⟨b, o + i * 5 + 1, none⟩ = some (.int .i64 x.at_) ∧ w.cell? ⟨b, o + i * 5 + 2, none⟩ = some (.string x.data) ∧
    w.cell? ⟨b, o + i * 5 + 3, none⟩ = some (.int .i64 x.cat) ∧ w.cell? ⟨b, o + i * 5 + 4, none⟩ = some (.int .i64 x.torn))
theorem ActsAt.keep {w w' : World} {A : Option Addr} {n : Nat} {l : List Act} (h : ActsAt w A n l) (hb : Below w.heap.size w w') : ActsAt w' A n l := by
  refine ⟨h.1, h.2.1, fun hn => ?_⟩
  obtain ⟨b, o, e, hlt, hc⟩ := h.2.2 hn
  refine ⟨b, o, e, Nat.lt_of_lt_of_le hlt hb.size, fun i x hx => ?_⟩
  obtain ⟨c0, c1, c2, c3, c4⟩ := hc i x hx
  have k : ∀ j, w'.cell? ⟨b, j, none⟩ = w.cell? ⟨b, j, none⟩ := fun j => hb.cell (p := ⟨b, j, none⟩) hlt
  exact ⟨(k _).trans c0, (k _).trans c1, (k _).trans c2, (k _).trans c3, (k _).trans c4⟩
theorem open_acts {H : Type} {enc : TypeId × Value → H} {w : World} {base : Nat} {sp : Nat → Bool} {held : Bool} {A : Option Addr} {N C : Nat} {d : DataW H} {ps : List MemPlace}
    (h : DataW.Trod enc Try.prog w base sp held 22 (.slice A N C) d ps) : ∃ l, ActsAt w A N l ∧ N ≤ maxLen := by
  obtain ⟨fuel, hf⟩ := h
  rcases Deep.open_slice Try.underlying22 hf with ⟨hcs, _⟩ | ⟨a, len, cap, m, n, D, Pl, hcs, hb, hl, hm, hmm, hx, hel⟩
  · simp [Value.cells] at hcs
    obtain ⟨rfl, rfl, rfl⟩ := hcs
    exact ⟨[], ⟨rfl, (fun _ h => by cases h), fun h => absurd h (Nat.lt_irrefl _)⟩, Nat.zero_le _⟩
  · simp [Value.cells] at hcs
    obtain ⟨rfl, rfl, rfl⟩ := hcs
    have hlm : N ≤ m := by rw [hmm]; split <;> omega
    obtain ⟨f, hf2⟩ := Deep.choose_lt (α := Act) (n := N) (p := fun i x => w.cells? base (a.add (i * 5)) 5 = some (actC x) ∧ x.wf) (fun i hi => by
      obtain ⟨cs', h1, h2⟩ := hel i (by omega)
      rw [show Try.prog.cellsOf 36 = 5 by kernel_rfl] at h1
      obtain ⟨x, rfl, hw⟩ := open_act h2
      exact ⟨x, h1, hw⟩)
    refine ⟨(List.range N).map f, ⟨by simp, ?_, fun hn => ?_⟩, by omega⟩
    · intro x hx
      obtain ⟨i, hi, rfl⟩ := List.mem_map.1 hx
      exact (hf2 i (List.mem_range.1 hi)).2
    · have h0 := World.cells?_some (hf2 0 hn).1
      have c0 := h0.2.2 0 (by omega)
      rw [Nat.zero_mul] at c0
      have c0' : w.cell? a = some (.int .i64 (f 0).kind) := c0
      have hlt := World.block_lt_of_cell? w a c0'
      obtain ⟨ab, ao, asp⟩ := a
      have hsp : asp = none := by
        cases asp with
        | none => rfl
        | some s =>
          exfalso
          simp only [World.cell?] at c0'
          split at c0' <;> simp at c0'
      subst hsp
      refine ⟨ab, ao, rfl, hlt, fun i x hx => ?_⟩
      have hi : i < N := by
        have := (List.getElem?_eq_some_iff.1 hx).1
        simpa using this
      obtain rfl : f i = x := by simpa [hi] using hx
      have hc := (World.cells?_some (hf2 i hi).1).2.2
      have k : ∀ j, (Addr.add (Addr.add ⟨ab, ao, none⟩ (i * 5)) j) = ⟨ab, ao + i * 5 + j, none⟩ := fun j => by rw [addr_add, addr_add]
      have q : ∀ j, j < 5 → w.cell? ⟨ab, ao + i * 5 + j, none⟩ = (actC (f i))[j]? := fun j hj => by rw [← k]; exact hc j hj
      exact ⟨q 0 (by omega), q 1 (by omega), q 2 (by omega), q 3 (by omega), q 4 (by omega)⟩
end Go.Proofs.Ytjgkccmifomjnaa
