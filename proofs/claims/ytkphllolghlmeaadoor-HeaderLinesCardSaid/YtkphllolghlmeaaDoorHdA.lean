import Derived.Test.YtkphllolghlmeaaDoorOwn
import Derived.Deep.Slices
import Derived.Lib.SmallJoins
import Derived.Lib.IndexBytes
import Derived.BigQuiet
namespace Go.Proofs.YtkphllolghlmeaaDoor
open Go.RowKit

structure Fld where
  name : ByteArray
  body : ByteArray
  deriving Inhabited
def fldC (x : Fld) : List Value := [.string x.name, .string x.body]
theorem open_fld {H : Type} {enc : TypeId × Value → H} {w : World} {base : Nat} {sp : Nat → Bool} {held : Bool} {n : Nat} {cs : List Value} {y : DataW H × List MemPlace}
    (h : DataW.trod enc Tryd.prog w base sp held n 38 cs = some y) : ∃ x : Fld, cs = fldC x := by
  obtain ⟨y0, y1, m, _, hl, h0, h1⟩ := ChangeShapes.trod_struct2 Tryd.underlying38 h
  rw [show Tryd.prog.cellsOf 38 = 2 by kernel_rfl] at hl
  match cs, hl with
  | [a, b], _ =>
    simp only [show Tryd.prog.cellsOf 9 = 1 by kernel_rfl, List.drop_zero, List.drop_succ_cons, List.take_succ_cons, List.take_zero] at h0 h1
    obtain ⟨p, e0, _, w0⟩ := DataW.trod_string Tryd.underlying9 h0
    obtain ⟨q, e1, _, w1⟩ := DataW.trod_string Tryd.underlying9 h1
    simp only [List.cons.injEq, and_true] at e0 e1
    exact ⟨⟨p, q⟩, by rw [e0, e1]; rfl⟩

/-- Fields that lie there to be read. -/
def FldsAt (w : World) (A : Option Addr) (n : Nat) (l : List Fld) : Prop :=
  l.length = n ∧ (0 < n → ∃ b o, A = some ⟨b, o, none⟩ ∧ b < w.heap.size ∧ ∀ (i : Nat) (x : Fld), l[i]? = some x →
    w.cell? ⟨b, o + i * 2, none⟩ = some (.string x.name) ∧ w.cell? ⟨b, o + i * 2 + 1, none⟩ = some (.string x.body))
theorem FldsAt.keepB {F : Nat → Prop} {w w' : World} {A : Option Addr} {n : Nat} {l : List Fld} (h : FldsAt w A n l) (hb : Chg F w w') (hn : ∀ k, blkOf A = some k → ¬ F k) : FldsAt w' A n l := by
  refine ⟨h.1, fun hn0 => ?_⟩
  obtain ⟨b, o, rfl, hlt, hc⟩ := h.2 hn0
  refine ⟨b, o, rfl, Nat.lt_of_lt_of_le hlt hb.size, fun i x hx => ?_⟩
  obtain ⟨c0, c1⟩ := hc i x hx
  exact ⟨hb.cell c0 (hn b rfl), hb.cell c1 (hn b rfl)⟩
theorem FldsAt.keep {w w' : World} {A : Option Addr} {n : Nat} {l : List Fld} (h : FldsAt w A n l) (hb : Chg NoB w w') : FldsAt w' A n l := h.keepB hb (fun _ _ => not_false)
theorem open_flds {H : Type} {enc : TypeId × Value → H} {w : World} {base : Nat} {sp : Nat → Bool} {held : Bool} {A : Option Addr} {N C : Nat} {d : DataW H} {ps : List MemPlace}
    (h : DataW.Trod enc Tryd.prog w base sp held 22 (.slice A N C) d ps) : ∃ l, FldsAt w A N l ∧ N ≤ maxLen := by
  obtain ⟨fuel, hf⟩ := h
  rcases Deep.open_slice Tryd.underlying22 hf with ⟨hcs, _⟩ | ⟨a, len, cap, m, n, D, Pl, hcs, hb, hl, hm, hmm, hx, hel⟩
  · simp [Value.cells] at hcs
    obtain ⟨rfl, rfl, rfl⟩ := hcs
    exact ⟨[], ⟨rfl, fun h => absurd h (Nat.lt_irrefl _)⟩, Nat.zero_le _⟩
  · simp [Value.cells] at hcs
    obtain ⟨rfl, rfl, rfl⟩ := hcs
    have hlm : N ≤ m := by rw [hmm]; split <;> omega
    obtain ⟨f, hf2⟩ := Deep.choose_lt (α := Fld) (n := N) (p := fun i x => w.cells? base (a.add (i * 2)) 2 = some (fldC x)) (fun i hi => by
      obtain ⟨cs', h1, h2⟩ := hel i (by omega)
      rw [show Tryd.prog.cellsOf 38 = 2 by kernel_rfl] at h1
      obtain ⟨x, rfl⟩ := open_fld h2
      exact ⟨x, h1⟩)
    refine ⟨(List.range N).map f, ⟨by simp, fun hn => ?_⟩, by omega⟩
    have h0 := World.cells?_some (hf2 0 hn)
    have c0 := h0.2.2 0 (by omega)
    rw [Nat.zero_mul] at c0
    have c0' : w.cell? a = some (.string (f 0).name) := c0
    have hlt := World.block_lt_of_cell? w a c0'
    obtain ⟨ab, ao, asp⟩ := a
    have hsp : asp = none := by
      cases asp with
      | none => rfl
      | some s =>
        exfalso
        simp only [World.cell?] at c0'
        split at c0' <;> simp at c0'
    subst hsp
    refine ⟨ab, ao, rfl, hlt, fun i x hx => ?_⟩
    have hi : i < N := by
      have := (List.getElem?_eq_some_iff.1 hx).1
      simpa using this
    obtain rfl : f i = x := by simpa [hi] using hx
    have hc := (World.cells?_some (hf2 i hi)).2.2
    have k : ∀ j, (Addr.add (Addr.add ⟨ab, ao, none⟩ (i * 2)) j) = ⟨ab, ao + i * 2 + j, none⟩ := fun j => by rw [addr_add, addr_add]
    have q : ∀ j, j < 2 → w.cell? ⟨ab, ao + i * 2 + j, none⟩ = (fldC (f i))[j]? := fun j hj => by rw [← k]; exact hc j hj
    exact ⟨q 0 (by omega), q 1 (by omega)⟩
def fldsC (l : List Fld) : List Value := l.flatMap fldC
theorem fldsC_length : ∀ l : List Fld, (fldsC l).length = l.length * 2
  | [] => rfl
  | x :: r => by simp only [fldsC, List.flatMap_cons, List.length_append, List.length_cons] at *; have := fldsC_length r; simp only [fldsC] at this; rw [this]; simp [fldC]; omega
theorem fldsC_get : ∀ (l : List Fld) (i : Nat) (x : Fld), l[i]? = some x → (fldsC l)[i * 2]? = some (.string x.name) ∧ (fldsC l)[i * 2 + 1]? = some (.string x.body)
  | [], i, x, h => by simp at h
  | y :: r, 0, x, h => by simp at h; subst h; exact ⟨rfl, rfl⟩
  | y :: r, i + 1, x, h => by
    have := fldsC_get r i x (by simpa using h)
    have e1 : (i + 1) * 2 = i * 2 + 2 := by omega
    rw [e1]
    have e : fldsC (y :: r) = .string y.name :: .string y.body :: fldsC r := rfl
    rw [e]
    exact ⟨by simpa using this.1, by rw [show i * 2 + 2 + 1 = (i * 2 + 1) + 2 by omega]; simpa using this.2⟩
theorem FldsAt.of_own {w : World} {A : Option Addr} {n c : Nat} {l : List Fld} (h : Own w 38 2 A n c (fldsC l)) : FldsAt w A n l := by
  have hl : l.length = n := by have := h.1; rw [fldsC_length] at this; omega
  refine ⟨hl, fun hn => ?_⟩
  obtain ⟨g, rfl, hlt⟩ := h.addr hn
  refine ⟨g, 0, rfl, hlt, fun i x hx => ?_⟩
  have := fldsC_get l i x hx
  rw [Nat.zero_add]
  exact ⟨h.cell rfl _ _ this.1, h.cell rfl _ _ this.2⟩

/-! The plain document. -/
def isBlank (c : UInt8) : Bool := c == 32 || c == 9
def lowc (c : UInt8) : UInt8 := if 65 ≤ c ∧ c ≤ 90 then c + 32 else c
theorem u8_eq_iff (c : UInt8) (n : Nat) (hn : n < 256) : ((c.toNat : Int) == (n : Int)) = (c == UInt8.ofNat n) := by
  have h : c = UInt8.ofNat n ↔ c.toNat = n := by
    constructor
    · intro h; rw [h]; simp; omega
    · intro h; rw [← h]; simp
  by_cases hc : c.toNat = n
  · rw [h.2 hc, show (UInt8.ofNat n).toNat = n by simp; omega]; simp
  · have h1 : ¬ c = UInt8.ofNat n := fun e => hc (h.1 e)
    have h2 : ¬ ((c.toNat : Int) = (n : Int)) := by omega
    rw [beq_eq_false_iff_ne.2 h1, beq_eq_false_iff_ne.2 h2]
theorem isBlank_eq (c : UInt8) : isBlank c = ((c.toNat : Int) == 32 || (c.toNat : Int) == 9) := by
  unfold isBlank
  rw [show ((c.toNat : Int) == 32) = (c == 32) from u8_eq_iff c 32 (by omega), show ((c.toNat : Int) == 9) = (c == 9) from u8_eq_iff c 9 (by omega)]
theorem lowc_in (c : UInt8) (h1 : 65 ≤ c.toNat) (h2 : c.toNat ≤ 90) : (lowc c).toNat = c.toNat + 32 := by
  have : 65 ≤ c ∧ c ≤ 90 := ⟨by rw [UInt8.le_iff_toNat_le]; exact h1, by rw [UInt8.le_iff_toNat_le]; exact h2⟩
  unfold lowc; rw [if_pos this, UInt8.toNat_add]; simp; omega
theorem lowc_out (c : UInt8) (h : ¬ (65 ≤ c.toNat ∧ c.toNat ≤ 90)) : lowc c = c := by
  have : ¬ (65 ≤ c ∧ c ≤ 90) := fun e => h ⟨by have := e.1; rw [UInt8.le_iff_toNat_le] at this; exact this, by have := e.2; rw [UInt8.le_iff_toNat_le] at this; exact this⟩
  unfold lowc; rw [if_neg this]
def Quiet (w w' : World) : Prop := ∃ m, w' = w.drewN m
theorem Quiet.refl (w : World) : Quiet w w := ⟨0, rfl⟩
theorem Quiet.trans {a b c : World} (h : Quiet a b) (k : Quiet b c) : Quiet a c := by
  obtain ⟨m, rfl⟩ := h
  obtain ⟨n, rfl⟩ := k
  exact ⟨m + n, World.drewN_drewN _ _ _⟩
theorem Quiet.drewN {a b : World} (h : Quiet a b) (n : Nat) : Quiet a (b.drewN n) := h.trans ⟨n, rfl⟩
theorem Quiet.chg {a b : World} (h : Quiet a b) (F : Nat → Prop) : Chg F a b := by
  obtain ⟨m, rfl⟩ := h
  exact (Chg.refl F a).drewN m
theorem Quiet.call {P : Program} {f : FuncId} {args : Array Value} {w : World} {n : Nat} {v : Value} (h : Calls P f args (w.drewN n) fun e w' => e = .returned v ∧ Quiet (w.drewN n) w') :
    Calls P f args (w.drewN n) fun e w'' => e = .returned v ∧ ∃ m, w'' = w.drewN m := Calls.quiet_of h
theorem ref_blank (w : World) (c : UInt8) :
    Calls Tryd.prog 30 #[.int .u8 c.toNat] w fun e w' => e = .returned (.bool (isBlank c)) ∧ w = w' := by
  have hf := isBlank_eq c
  go_enter Tryd.func30, Tryd.ntmps30
  go_wp2
  all_goals
    go_ret
    refine ⟨?_, rfl⟩
    first | (rw [hf]; done) | simp_all
theorem ref_low (w : World) (c : UInt8) :
    Calls Tryd.prog 32 #[.int .u8 c.toNat] w fun e w' => e = .returned (.int .u8 (lowc c).toNat) ∧ w = w' := by
  have hc := c.toNat_lt
  by_cases h1 : 65 ≤ c.toNat
  · by_cases h2 : c.toNat ≤ 90
    · have hf := hid (lowc_in c h1 h2)
      go_enter Tryd.func32, Tryd.ntmps32
      go_wp2
      go_ret
      exact ⟨by rw [hf.out]; rfl, rfl⟩
    · have hf := hid (lowc_out c (by omega))
      go_enter Tryd.func32, Tryd.ntmps32
      go_wp2
      go_ret
      exact ⟨by rw [hf.out]; rfl, rfl⟩
  · have hf := hid (lowc_out c (by omega))
    go_enter Tryd.func32, Tryd.ntmps32
    go_wp2
    go_ret
    exact ⟨by rw [hf.out]; rfl, rfl⟩
theorem byte_at (s : ByteArray) (i : Nat) (hi : i < s.size) : ∃ x : UInt8, s[i]'hi = x ∧ s.data.toList[i]? = some x := ⟨_, rfl, Lib.data_getElem? s i hi⟩
def same (a b : ByteArray) : Bool := decide (a.data.toList.map lowc = b.data.toList.map lowc)
theorem same_len {a b : ByteArray} (h : a.size ≠ b.size) : same a b = false := by
  unfold same
  rw [decide_eq_false_iff_not]
  intro e
  have := congrArg List.length e
  simp only [List.length_map, Array.length_toList] at this
  exact h this
theorem same_ne {a b : ByteArray} {i : Nat} {x y : UInt8} (h1 : a.data.toList[i]? = some x) (h2 : b.data.toList[i]? = some y) (h : lowc x ≠ lowc y) : same a b = false := by
  unfold same
  rw [decide_eq_false_iff_not]
  intro e
  have := congrArg (fun l => l[i]?) e
  simp only [List.getElem?_map, h1, h2, Option.map_some, Option.some.injEq] at this
  exact h this
def SameTill (a b : ByteArray) (i : Nat) : Prop := (a.data.toList.map lowc).take i = (b.data.toList.map lowc).take i
theorem SameTill.zero (a b : ByteArray) : SameTill a b 0 := rfl
theorem SameTill.succ {a b : ByteArray} {i : Nat} {x y : UInt8} (h : SameTill a b i) (h1 : a.data.toList[i]? = some x) (h2 : b.data.toList[i]? = some y) (e : lowc x = lowc y) : SameTill a b (i + 1) := by
  unfold SameTill at *
  rw [List.take_add_one, List.take_add_one, h, List.getElem?_map, List.getElem?_map, h1, h2, Option.map_some, Option.map_some, e]
theorem SameTill.all {a b : ByteArray} (h : SameTill a b a.size) (hs : a.size = b.size) : same a b = true := by
  unfold SameTill at h
  unfold same
  rw [decide_eq_true_iff]
  have e1 : (a.data.toList.map lowc).length = a.size := by simp
  have e2 : (b.data.toList.map lowc).length = a.size := by rw [hs]; simp
  rw [List.take_of_length_le (by omega), List.take_of_length_le (by omega)] at h
  exact h
set_option maxHeartbeats 400000 in
theorem ref_same (w : World) (a b : ByteArray) (ha : a.size ≤ maxLen) :
    Calls Tryd.prog 20 #[.string a, .string b] w fun e w' => e = .returned (.bool (same a b)) ∧ Quiet w w' := by
  unfold maxLen at ha
  by_cases hs : a.size = b.size
  · have t0 : ((a.size : Int) != (b.size : Int)) = false := by rw [hs]; simp
    have HS := hid hs
    clear hs
    go_enter Tryd.func20, Tryd.ntmps20
    go_wp2
    go_loopw [5] (fun v wr => ∃ i : Nat, v = .int .i64 i ∧ i ≤ a.size ∧ Hid (SameTill a b i) ∧ Quiet w wr) (fun v _ => a.size - (intOf v).toNat)
    case atStart => exact ⟨0, rfl, Nat.zero_le _, hid (SameTill.zero a b), Quiet.refl w⟩
    case round =>
      obtain ⟨i, rfl, h1, H2, HQ⟩ := hrel
      by_cases hlt : i < a.size
      · have t1 : decide ((i : Int) < (a.size : Int)) = true := decide_eq_true (by omega)
        have t2 : decide (i < a.size) = true := decide_eq_true hlt
        have hltb : i < b.size := by rw [← HS.out]; exact hlt
        have i0 : (0 : Int) ≤ (i : Int) := by omega
        have i1 : (i : Int) < (a.size : Int) := by omega
        have i2 : (i : Int) < (b.size : Int) := by omega
        obtain ⟨x, hx, hxl⟩ := byte_at a i hlt
        obtain ⟨y, hy, hyl⟩ := byte_at b i hltb
        have HX := hid hxl
        have HY := hid hyl
        clear hxl hyl
        by_cases he : (lowc x).toNat = (lowc y).toNat
        · have t3 : (((lowc x).toNat : Int) != ((lowc y).toNat : Int)) = false := by rw [he]; simp
          have HE := hid (UInt8.toNat_inj.1 he)
          clear he
          go_wp2_with fail
          go_quiet (first | (go_at_call 32; exact Calls.quiet_of_same ((ref_low _ _).mono fun _ _ h => ⟨h.1, h.2.symm⟩)))
          go_wp2
          go_roundw
          case rel => exact ⟨i + 1, by go_num, by omega, hid (H2.out.succ HX.out HY.out HE.out), HQ.drewN _⟩
          case measure => simp [intOf]; omega
        · have t3 : (((lowc x).toNat : Int) != ((lowc y).toNat : Int)) = true := by simp only [bne_iff_ne, ne_eq]; omega
          have HF : Hid (same a b = false) := hid (same_ne HX.out HY.out (fun e => he (by rw [e])))
          clear he
          go_wp2_with fail
          go_quiet (first | (go_at_call 32; exact Calls.quiet_of_same ((ref_low _ _).mono fun _ _ h => ⟨h.1, h.2.symm⟩)))
          go_wp2
          go_ret
          exact ⟨by rw [HF.out]; rfl, HQ.drewN _⟩
      · have t1 : decide ((i : Int) < (a.size : Int)) = false := decide_eq_false (by omega)
        have t2 : decide (i < a.size) = false := decide_eq_false hlt
        obtain rfl : i = a.size := by omega
        have HF : Hid (same a b = true) := hid (H2.out.all HS.out)
        go_wp2
        go_ret
        exact ⟨by rw [HF.out]; rfl, HQ⟩
  · have t0 : ((a.size : Int) != (b.size : Int)) = true := by simp only [bne_iff_ne, ne_eq]; omega
    have HF : Hid (same a b = false) := hid (same_len hs)
    go_enter Tryd.func20, Tryd.ntmps20
    go_wp2
    go_ret
    exact ⟨by rw [HF.out]; rfl, Quiet.refl w⟩
end Go.Proofs.YtkphllolghlmeaaDoor
