/- What the rows of this seat share: arguments opened, a world for the witness. -/
import Derived.Test.YtkphllolghlmeaaDoorRows
import Derived.Test.YtkphllolghlmeaaDoorHdW
import Derived.WalkKit
import Derived.ProofKit
import Derived.OpenShut
import Derived.ShutString
import Derived.ChangeOld
import Derived.Below
import Derived.Deep.DeepHandedRow
import Derived.Lib.LaidTab
namespace Go.Proofs.YtkphllolghlmeaaDoor
open Go.ChangeShapes Go.WideShapes Go.ChangeAt Go.RowKit
open Go.ChangeMaps (open_string shut_string)

theorem own_knob : ownKnob Tryd.prog.godebug = none := by kernel_rfl
theorem laid_out : laidOutB Tryd.prog = true := by kernel_rfl
theorem ml_of_shaped {w : World} (h : w.ShapedOpen Tryd.prog) : ML w := Tryd.laysM145.s1_3 w h
theorem open_fld' {H : Type} {enc : TypeId × Value → H} {w : World} {base : Nat} {sp : Nat → Bool} {held : Bool} {n : Nat} {cs : List Value} {y : DataW H × List MemPlace}
    (h : DataW.trod enc Tryd.prog w base sp held n 38 cs = some y) : ∃ x : Fld, cs = fldC x ∧ x.name.size ≤ maxLen ∧ x.body.size ≤ maxLen := by
  obtain ⟨y0, y1, m, _, hl, h0, h1⟩ := ChangeShapes.trod_struct2 Tryd.underlying38 h
  rw [show Tryd.prog.cellsOf 38 = 2 by kernel_rfl] at hl
  match cs, hl with
  | [a, b], _ =>
    simp only [show Tryd.prog.cellsOf 9 = 1 by kernel_rfl, List.drop_zero, List.drop_succ_cons, List.take_succ_cons, List.take_zero] at h0 h1
    obtain ⟨p, e0, _, w0⟩ := DataW.trod_string Tryd.underlying9 h0
    obtain ⟨q, e1, _, w1⟩ := DataW.trod_string Tryd.underlying9 h1
    simp only [List.cons.injEq, and_true] at e0 e1
    exact ⟨⟨p, q⟩, by rw [e0, e1]; rfl, w0, w1⟩
theorem fldC_inj {x y : Fld} (h : fldC x = fldC y) : x = y := by
  simp only [fldC, List.cons.injEq, Value.string.injEq, and_true] at h
  obtain ⟨a, b⟩ := x
  obtain ⟨c, d⟩ := y
  simp only at h
  rw [h.1, h.2]
theorem open_flds' {H : Type} {enc : TypeId × Value → H} {w : World} {base : Nat} {sp : Nat → Bool} {held : Bool} {A : Option Addr} {N C : Nat} {d : DataW H} {ps : List MemPlace}
    (h : DataW.Trod enc Tryd.prog w base sp held 22 (.slice A N C) d ps) : ∃ l, FldsAt w A N l ∧ N ≤ maxLen ∧ ∀ x ∈ l, x.name.size ≤ maxLen ∧ x.body.size ≤ maxLen := by
  obtain ⟨l, hl, hN⟩ := open_flds h
  refine ⟨l, hl, hN, ?_⟩
  obtain ⟨fuel, hf⟩ := h
  rcases Deep.open_slice Tryd.underlying22 hf with ⟨hcs, _⟩ | ⟨a, len, cap, m, n, D, Pl, hcs, hb, hl2, hm, hmm, hx, hel⟩
  · simp [Value.cells] at hcs
    obtain ⟨rfl, rfl, rfl⟩ := hcs
    have : l = [] := List.eq_nil_of_length_eq_zero hl.1
    subst this
    intro x hx; cases hx
  · simp [Value.cells] at hcs
    obtain ⟨rfl, rfl, rfl⟩ := hcs
    have hlm : N ≤ m := by rw [hmm]; split <;> omega
    intro x hx
    obtain ⟨i, hi⟩ := List.getElem?_of_mem hx
    have hiN : i < N := by have := (List.getElem?_eq_some_iff.1 hi).1; rw [hl.1] at this; exact this
    obtain ⟨b, o, hA, hb2, hc⟩ := hl.2 (by omega)
    injection hA with hA
    subst hA
    obtain ⟨k0, k1⟩ := hc i x hi
    obtain ⟨cs', h1, h2⟩ := hel i (by omega)
    rw [show Tryd.prog.cellsOf 38 = 2 by kernel_rfl] at h1
    obtain ⟨y, rfl, hy⟩ := open_fld' h2
    have hc2 := (World.cells?_some h1).2.2
    have k : ∀ j, (Addr.add (Addr.add ⟨b, o, none⟩ (i * 2)) j) = ⟨b, o + i * 2 + j, none⟩ := fun j => by rw [addr_add, addr_add]
    have q : ∀ j, j < 2 → w.cell? ⟨b, o + i * 2 + j, none⟩ = (fldC y)[j]? := fun j hj => by rw [← k]; exact hc2 j hj
    have e0 := q 0 (by omega)
    have e1 := q 1 (by omega)
    rw [Nat.add_zero, k0] at e0
    rw [k1] at e1
    have : x = y := by
      apply fldC_inj
      simp only [fldC, List.getElem?_cons_zero, List.getElem?_cons_succ, Option.some.injEq] at e0 e1
      simp only [fldC]; rw [e0, e1]
    rw [this]; exact hy

/-- For the witness's world: the settled one, the two tables (blocks 1 and 2) as their initialisers lay them. -/
def layTab (l : List Nat) : Obj → Obj
  | .cells _ t frozen => .cells (l.map fun (z : Nat) => Value.int .u8 (z : Int)).toArray t frozen
  | o => o
noncomputable def laidWorld (os : Os) : World :=
  { World.holding Tryd.prog os ⟨#[], #[], []⟩ with heap := ((World.holding Tryd.prog os ⟨#[], #[], []⟩).heap.modify 1 (layTab Go.Pinned.utf8FirstZ)).modify 2 (layTab ([128, 191, 160, 191, 128, 159, 144, 191, 128, 143] ++ List.replicate 22 0)) }
theorem laid_met (os : Os) (args : Array Value) : laidMet Tryd.prog [("unicode/utf8.acceptRanges", Rows.laid_unicode_utf8_acceptRanges), ("unicode/utf8.first", Rows.laid_unicode_utf8_first)] ((laidWorld os).forCall (fun _ _ => 0) ⟨#[], args, []⟩).memory :=
  laidMet_of_run' 8 (by kernel_rfl) (by kernel_rfl)
end Go.Proofs.YtkphllolghlmeaaDoor
