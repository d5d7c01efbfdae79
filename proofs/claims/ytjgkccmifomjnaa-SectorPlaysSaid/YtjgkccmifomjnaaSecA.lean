/- Contracts of package sector: what each call answers and leaves, by a walk. -/
import Derived.Test.YtjgkccmifomjnaaHeap
namespace Go.Proofs.Ytjgkccmifomjnaa
open Go.RowKit

/-! Rows of 64 bytes. -/
theorem flat_len : ∀ l : List (List UInt8), (∀ s ∈ l, s.length = 64) → l.flatten.length = 64 * l.length
  | [], _ => rfl
  | a :: l, h => by
    have h1 := h a (by simp)
    have h2 := flat_len l (fun s hs => h s (by simp [hs]))
    simp only [List.flatten_cons, List.length_append, List.length_cons, h1, h2]
    omega
theorem flat_set : ∀ (l : List (List UInt8)) (i : Nat) (m : List UInt8), (∀ s ∈ l, s.length = 64) → i < l.length → m.length = 64 → splice l.flatten (i * 64) m = (l.set i m).flatten
  | [], _, _, _, hi, _ => by simp at hi
  | a :: l, 0, m, h, _, hm => by
    have h1 := h a (by simp)
    simp only [splice, List.flatten_cons, List.set_cons_zero, Nat.zero_mul, List.take_zero, List.nil_append, Nat.zero_add, hm]
    rw [← h1, List.drop_left]
  | a :: l, i + 1, m, h, hi, hm => by
    have h1 := h a (by simp)
    have ih := flat_set l i m (fun s hs => h s (by simp [hs])) (by simpa using hi) hm
    simp only [splice, List.flatten_cons, List.set_cons_succ] at ih ⊢
    have e : (i + 1) * 64 = a.length + i * 64 := by omega
    rw [e, List.take_append, List.take_of_length_le (by omega), Nat.add_assoc, List.drop_append, List.drop_of_length_le (by omega)]
    have e2 : a.length + i * 64 - a.length = i * 64 := by omega
    have e3 : a.length + (i * 64 + m.length) - a.length = i * 64 + m.length := by omega
    rw [e2, e3, ← ih]
    simp
theorem flat_get : ∀ (l : List (List UInt8)) (i : Nat), (∀ s ∈ l, s.length = 64) → i < l.length → (l.flatten.drop (i * 64)).take 64 = l.getD i []
  | [], _, _, hi => by simp at hi
  | a :: l, 0, h, _ => by
    have h1 := h a (by simp)
    simp only [List.flatten_cons, Nat.zero_mul, List.drop_zero, List.getD_cons_zero]
    rw [← h1, List.take_left]
  | a :: l, i + 1, h, hi => by
    have h1 := h a (by simp)
    have ih := flat_get l i (fun s hs => h s (by simp [hs])) (by simpa using hi)
    have e : (i + 1) * 64 = a.length + i * 64 := by omega
    rw [List.flatten_cons, e, List.drop_append, List.drop_of_length_le (by omega), List.nil_append, List.getD_cons_succ, ← ih]
    congr 2; omega

/-- A disk, as its block has it. -/
structure Dk where
  secs : List (List UInt8)
  cat : Int
  ctorn : Int
  since : Int
  down : Bool
  all : Int

def Dk.bytes (x : Dk) : List UInt8 := x.secs.flatten
def dkCells (D n cap : Nat) (x : Dk) : Array Value := #[.slice (some ⟨D, 0, none⟩) n cap, .int .i64 x.cat, .int .i64 x.ctorn, .int .i64 x.since, .bool x.down, .int .i64 x.all]

/-- The disk at block b, its bytes at block D. -/
structure DiskAt (w : World) (b D : Nat) (x : Dk) : Prop where
  ne : b ≠ D
  ok : ∃ cap spare, x.bytes.length + spare.length = cap ∧ cap ≤ maxLen ∧ Blk w b (dkCells D x.bytes.length cap x) 57 ∧ Blk w D (u8s x.bytes ++ spare).toArray 5
  len : ∀ s ∈ x.secs, s.length = 64
  size : 1 ≤ x.secs.length ∧ x.secs.length ≤ 4096


theorem down_any (w : World) (b : Nat) (x : Dk) (D n cap : Nat) (h : Blk w b (dkCells D n cap x) 57) :
    Calls Try.prog 17 #[.pointer (some ⟨b, 0, none⟩)] w fun e w' => e = .returned (.bool x.down) ∧ w = w' := by
  have c3 : w.cell? ⟨b, 4, none⟩ = some (.bool x.down) := h.cell 4
  go_enter Try.func17, Try.ntmps17
  go_wp2
  go_ret
  exact ⟨rfl, rfl⟩

theorem size_any (w : World) (b : Nat) (x : Dk) (D n cap : Nat) (h : Blk w b (dkCells D n cap x) 57) (hn : n ≤ 1000000) :
    Calls Try.prog 19 #[.pointer (some ⟨b, 0, none⟩)] w fun e w' => e = .returned (.int .i64 ((n / 64 : Nat) : Int)) ∧ w = w' := by
  have c3 : w.cell? ⟨b, 0, none⟩ = some (.slice (some ⟨D, 0, none⟩) n cap) := h.cell 0
  go_enter Try.func19, Try.ntmps19
  go_wp2
  go_ret
  exact ⟨by simp, rfl⟩

theorem start_any (w : World) (b : Nat) (x : Dk) (D n cap : Nat) (h : Blk w b (dkCells D n cap x) 57) :
    Calls Try.prog 14 #[.pointer (some ⟨b, 0, none⟩)] w fun e w' => e = .returned (.tuple #[]) ∧ Blk w' b (dkCells D n cap { x with down := false, since := 0 }) 57 ∧ Chg (F1 b) w w' := by
  have c3 : w.cell? ⟨b, 3, none⟩ = some (.int .i64 x.since) := h.cell 3
  have c4 : w.cell? ⟨b, 4, none⟩ = some (.bool x.down) := h.cell 4
  have f3 := h.frozen 3
  have f4 := h.frozen 4
  go_enter Try.func14, Try.ntmps14
  go_wp2
  go_end0
  refine ⟨rfl, ?_, ?_⟩
  · exact (h.set 4 _).set 3 _
  · exact ((Chg.refl (F1 b) w).setCell _ _ F1.self).setCell _ _ F1.self

set_option maxHeartbeats 400000 in
theorem arm_any (w : World) (b : Nat) (x : Dk) (D n cap : Nat) (at_ torn : Int) (h : Blk w b (dkCells D n cap x) 57) :
    Calls Try.prog 12 #[.pointer (some ⟨b, 0, none⟩), .agg #[.int .i64 at_, .int .i64 torn]] w fun e w' => e = .returned (.tuple #[]) ∧
      Blk w' b (dkCells D n cap { x with cat := if at_ < 1 then 0 else at_, ctorn := if at_ < 1 then 0 else torn, since := 0 }) 57 ∧ Chg (F1 b) w w' := by
  have c1 : w.cell? ⟨b, 1, none⟩ = some (.int .i64 x.cat) := h.cell 1
  have c2 : w.cell? ⟨b, 2, none⟩ = some (.int .i64 x.ctorn) := h.cell 2
  have c3 : w.cell? ⟨b, 3, none⟩ = some (.int .i64 x.since) := h.cell 3
  have f1 := h.frozen 1
  have f2 := h.frozen 2
  have f3 := h.frozen 3
  have hlt := h.lt
  have hB := h
  by_cases ha : at_ < 1
  · go_enter Try.func12, Try.ntmps12
    go_wp2
    go_end0
    refine ⟨rfl, ?_, ?_⟩
    · exact (((((hB.set 1 _).set 2 _).set 3 _).set 1 _).set 2 _).alloc _
    · exact ((((((Chg.refl (F1 b) w).setCell _ _ F1.self).setCell _ _ F1.self).setCell _ _ F1.self).setCell _ _ F1.self).setCell _ _ F1.self).alloc _
  · go_enter Try.func12, Try.ntmps12
    go_wp2
    go_end0
    refine ⟨rfl, ?_, ?_⟩
    · exact (((hB.set 1 _).set 2 _).set 3 _).alloc _
    · exact ((((Chg.refl (F1 b) w).setCell _ _ F1.self).setCell _ _ F1.self).setCell _ _ F1.self).alloc _

/-! Counting. -/
theorem add_any (w : World) (b : Nat) (x : Dk) (D n cap : Nat) (h : Blk w b (dkCells D n cap x) 57) :
    Calls Try.prog 22 #[.pointer (some ⟨b, 5, none⟩), .int .i64 1] w fun e w' => e = .returned (.int .i64 (wrap64 (x.all + 1))) ∧
      Blk w' b (dkCells D n cap { x with all := wrap64 (x.all + 1) }) 57 ∧ Chg (F1 b) w w' := by
  have c5 : w.cell? ⟨b, 5, none⟩ = some (.int .i64 x.all) := h.cell 5
  have f5 := h.frozen 5
  have hadd := run_call_add (P := Try.prog) Try.func25 (by kernel_rfl) (by kernel_rfl) (by kernel_rfl) .i64 (by kernel_rfl) (y := 1) (s := wrap64 (x.all + 1)) c5 f5 (by simp [go_sem, wrap64, IntKind.wrap_i64])
  go_enter Try.func22, Try.ntmps22
  go_wp2
  go_ret
  exact ⟨rfl, h.set 5 _, (Chg.refl (F1 b) w).setCell _ _ F1.self⟩
theorem load_any (w : World) (b : Nat) (x : Dk) (D n cap : Nat) (h : Blk w b (dkCells D n cap x) 57) :
    Calls Try.prog 24 #[.pointer (some ⟨b, 5, none⟩)] w fun e w' => e = .returned (.int .i64 x.all) ∧ w = w' := by
  have c5 : w.cell? ⟨b, 5, none⟩ = some (.int .i64 x.all) := h.cell 5
  have hl := run_call_load (P := Try.prog) Try.func27 (by kernel_rfl) (by kernel_rfl) (by kernel_rfl) .i64 (by kernel_rfl) c5
  go_enter Try.func24, Try.ntmps24
  go_wp2
  go_ret
  exact ⟨rfl, rfl⟩
theorem store_any (w : World) (b : Nat) (x : Dk) (D n cap : Nat) (v : Int) (h : Blk w b (dkCells D n cap x) 57) :
    Calls Try.prog 23 #[.pointer (some ⟨b, 5, none⟩), .int .i64 v] w fun e w' => e = .returned (.tuple #[]) ∧
      Blk w' b (dkCells D n cap { x with all := v }) 57 ∧ Chg (F1 b) w w' := by
  have c5 : w.cell? ⟨b, 5, none⟩ = some (.int .i64 x.all) := h.cell 5
  have f5 := h.frozen 5
  have hst := run_call_store (P := Try.prog) Try.func26 (by kernel_rfl) (by kernel_rfl) (by kernel_rfl) (by kernel_rfl) (k := .i64) (y := v) c5 f5
  go_enter Try.func23, Try.ntmps23
  go_wp2
  go_end0
  exact ⟨rfl, h.set 5 _, (Chg.refl (F1 b) w).setCell _ _ F1.self⟩
theorem writes_any (w : World) (b : Nat) (x : Dk) (D n cap : Nat) (h : Blk w b (dkCells D n cap x) 57) :
    Calls Try.prog 18 #[.pointer (some ⟨b, 0, none⟩)] w fun e w' => e = .returned (.int .i64 x.all) ∧ w = w' := by
  go_enter Try.func18, Try.ntmps18
  go_wp2_with (go_at_call 24; refine (load_any _ _ x _ _ _ h).mono ?_; rintro e w' ⟨rfl, rfl⟩)
  go_ret
  exact ⟨rfl, rfl⟩

/-! A sector's place. -/
theorem place_down (w : World) (b : Nat) (x : Dk) (D n cap : Nat) (i : Int) (h : Blk w b (dkCells D n cap x) 57) (hd : x.down = true) :
    Calls Try.prog 21 #[.pointer (some ⟨b, 0, none⟩), .int .i64 i] w fun e w' => e = .returned (.tuple #[.slice none 0 0, .int .i64 6]) ∧ w = w' := by
  have c3 : w.cell? ⟨b, 4, none⟩ = some (.bool true) := by rw [← hd]; exact h.cell 4
  go_enter Try.func21, Try.ntmps21
  go_wp2
  go_ret2
  exact ⟨rfl, rfl⟩
theorem place_out (w : World) (b : Nat) (x : Dk) (D n cap : Nat) (i : Int) (h : Blk w b (dkCells D n cap x) 57) (hn : n ≤ 1000000) (hd : x.down = false) (hi : i < 0 ∨ ((n / 64 : Nat) : Int) ≤ i) :
    Calls Try.prog 21 #[.pointer (some ⟨b, 0, none⟩), .int .i64 i] w fun e w' => e = .returned (.tuple #[.slice none 0 0, .int .i64 1]) ∧ w = w' := by
  have c3 : w.cell? ⟨b, 4, none⟩ = some (.bool false) := by rw [← hd]; exact h.cell 4
  by_cases h0 : i < 0
  · have hb : decide (i < 0) = true := decide_eq_true h0
    clear hi
    go_enter Try.func21, Try.ntmps21
    go_wp2
    go_ret2
    exact ⟨rfl, rfl⟩
  · have hb : decide (i < 0) = false := decide_eq_false h0
    have h1 : ((n / 64 : Nat) : Int) ≤ i := by omega
    have hb1 : decide (((n / 64 : Nat) : Int) ≤ i) = true := decide_eq_true h1
    clear hi
    go_enter Try.func21, Try.ntmps21
    go_wp2_with (go_at_call 19; refine (size_any _ _ x _ _ _ h hn).mono ?_; rintro e w' ⟨rfl, rfl⟩)
    go_ret2
    exact ⟨rfl, rfl⟩
theorem place_in (w : World) (b : Nat) (x : Dk) (D n cap : Nat) (i : Nat) (h : Blk w b (dkCells D n cap x) 57) (hn : n ≤ 1000000) (hc : n ≤ cap) (hd : x.down = false) (hi : i < n / 64) :
    Calls Try.prog 21 #[.pointer (some ⟨b, 0, none⟩), .int .i64 (i : Int)] w fun e w' => e = .returned (.tuple #[.slice (some ⟨D, i * 64, none⟩) 64 64, .int .i64 0]) ∧ w = w' := by
  have c3 : w.cell? ⟨b, 4, none⟩ = some (.bool false) := by rw [← hd]; exact h.cell 4
  have c0 : w.cell? ⟨b, 0, none⟩ = some (.slice (some ⟨D, 0, none⟩) n cap) := h.cell 0
  have hb : decide ((i : Int) < 0) = false := decide_eq_false (by omega)
  have hb1 : decide (((n / 64 : Nat) : Int) ≤ (i : Int)) = false := decide_eq_false (by omega)
  go_enter Try.func21, Try.ntmps21
  go_wp2_with (go_at_call 19; refine (size_any _ _ x _ _ _ h hn).mono ?_; rintro e w' ⟨rfl, rfl⟩)
  refine bodyPost_ret (v := .tuple #[.slice (some ⟨D, i * 64, none⟩) 64 64, .int .i64 0]) ?_ rfl ⟨rfl, rfl⟩
  have e : (i + 1) * 64 - i * 64 = 64 := by omega
  simp [results, Try.results21, go_sem, e]
end Go.Proofs.Ytjgkccmifomjnaa
