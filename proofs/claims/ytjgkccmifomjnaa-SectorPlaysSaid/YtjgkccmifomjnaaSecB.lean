/- Contracts of package sector: what each call answers and leaves, by a walk. -/
import Derived.Test.YtjgkccmifomjnaaSecA
namespace Go.Proofs.Ytjgkccmifomjnaa
open Go.RowKit

theorem info_u8 : (Try.prog.info? 5).map (fun i => (i.zero, i.size, i.bytes)) = some (some (.int .u8 0), 1, 1) := by kernel_rfl
theorem size_u8 : (Try.prog.info? 5).map (·.size) = some 1 := by kernel_rfl

set_option maxHeartbeats 400000 in
theorem new_in (w : World) (n : Nat) (h1 : 1 ≤ n) (h2 : n ≤ 4096) :
    Calls Try.prog 6 #[.int .i64 (n : Int)] w fun e w' => e = .returned (.tuple #[.pointer (some ⟨w.heap.size + 1, 0, none⟩), .int .i64 0]) ∧
      Blk w' (w.heap.size + 1) (dkCells w.heap.size (n * 64) (n * 64) ⟨[], 0, 0, 0, false, 0⟩) 57 ∧ Blk w' w.heap.size (u8s (zeros (n * 64))).toArray 5 ∧ Chg NoB w w' := by
  have hmk := run_make_bytes (P := Try.prog) (t := 50) rfl info_u8 (n * 64) (by omega)
  rw [show ((n * 64 : Nat) : Int) = (n : Int) * 64 by omega] at hmk
  have t1 : decide ((n : Int) < 1) = false := decide_eq_false (by omega)
  have t2 : decide ((4096 : Int) < (n : Int)) = false := decide_eq_false (by omega)
  have t3 : decide (4096 < n) = false := decide_eq_false (by omega)
  go_enter Try.func6, Try.ntmps6
  go_wp2
  go_ret2
  refine ⟨rfl, Blk.new2 w _ _ _, (Blk.new w _ _).alloc _, ((Chg.refl NoB w).alloc _).alloc _⟩
theorem new_out (w : World) (n : Int) (h : n < 1 ∨ 4096 < n) :
    Calls Try.prog 6 #[.int .i64 n] w fun e w' => e = .returned (.tuple #[.pointer none, .int .i64 1]) ∧ w = w' := by
  by_cases h0 : n < 1
  · have t1 : decide (n < 1) = true := decide_eq_true h0
    clear h
    go_enter Try.func6, Try.ntmps6
    go_wp2
    go_ret2
    exact ⟨rfl, rfl⟩
  · have t1 : decide (n < 1) = false := decide_eq_false h0
    have h2 : 4096 < n := by omega
    have t2 : decide (4096 < n) = true := decide_eq_true h2
    clear h
    go_enter Try.func6, Try.ntmps6
    go_wp2
    go_ret2
    exact ⟨rfl, rfl⟩

def fill (s : List UInt8) : List UInt8 := s ++ zeros (64 - s.length)
def tornN (t : Int) : Nat := (max 0 (min t 64)).toNat
def Dk.step (x : Dk) : Dk := { x with since := wrap64 (x.since + 1), all := wrap64 (x.all + 1) }
def Dk.put (x : Dk) (i : Nat) (l : List UInt8) : Dk := { x with secs := x.secs.set i l }
def Dk.cutOff (x : Dk) : Dk := { x with cat := 0, ctorn := 0, down := true }
theorem fill_len (s : List UInt8) (h : s.length ≤ 64) : (fill s).length = 64 := by simp [fill, zeros]; omega
theorem fill_splice (s : List UInt8) : splice (zeros 64) 0 s = fill s := by
  simp only [splice, fill, zeros, List.take_zero, List.nil_append, Nat.zero_add, List.drop_replicate]
/-- What a write does, and its error's number. -/
def Dk.write (x : Dk) (i : Int) (s : List UInt8) : Dk × Int :=
  if x.down = true then (x, 6)
  else if i < 0 ∨ (x.secs.length : Int) ≤ i then (x, 1)
  else if 64 < s.length then (x, 3)
  else if x.cat = wrap64 (x.since + 1) then ((x.step.put i.toNat ((fill s).take (tornN x.ctorn) ++ (x.secs.getD i.toNat []).drop (tornN x.ctorn))).cutOff, 6)
  else (x.step.put i.toNat (fill s), 0)

theorem DiskAt.blen {w : World} {b D : Nat} {x : Dk} (h : DiskAt w b D x) : x.bytes.length = 64 * x.secs.length := by
  have : ∀ l : List (List UInt8), (∀ s ∈ l, s.length = 64) → l.flatten.length = 64 * l.length := by
    intro l
    induction l with
    | nil => intro _; rfl
    | cons a l ih =>
      intro hl
      have h1 := hl a (by simp)
      have h2 := ih (fun s hs => hl s (by simp [hs]))
      simp only [List.flatten_cons, List.length_append, List.length_cons, h1, h2]
      omega
  exact this _ h.len

theorem write_down (w : World) (b D : Nat) (x : Dk) (i : Int) (s : ByteArray) (h : DiskAt w b D x) (hd : x.down = true) :
    Calls Try.prog 9 #[.pointer (some ⟨b, 0, none⟩), .int .i64 i, .string s] w fun e w' => e = .returned (.int .i64 6) ∧ w = w' := by
  obtain ⟨cap, spare, _, _, hb, _⟩ := h.ok
  go_enter Try.func9, Try.ntmps9
  go_wp2_with (go_at_call 21; refine (place_down _ _ x _ _ _ _ hb hd).mono ?_; rintro e w' ⟨rfl, rfl⟩)
  go_ret
  exact ⟨rfl, rfl⟩
theorem write_out (w : World) (b D : Nat) (x : Dk) (i : Int) (s : ByteArray) (h : DiskAt w b D x) (hd : x.down = false) (hi : i < 0 ∨ (x.secs.length : Int) ≤ i) :
    Calls Try.prog 9 #[.pointer (some ⟨b, 0, none⟩), .int .i64 i, .string s] w fun e w' => e = .returned (.int .i64 1) ∧ w = w' := by
  obtain ⟨cap, spare, h1, h2, hb, _⟩ := h.ok
  have hl := h.blen
  have hsz0 := h.size.2
  have hp := place_out w b x D _ cap i hb (by omega) hd (by omega)
  clear hi
  go_enter Try.func9, Try.ntmps9
  go_wp2_with (go_at_call 21; refine hp.mono ?_; rintro e w' ⟨rfl, rfl⟩)
  go_ret
  exact ⟨rfl, rfl⟩
theorem write_long (w : World) (b D : Nat) (x : Dk) (i : Nat) (s : ByteArray) (h : DiskAt w b D x) (hd : x.down = false) (hi : i < x.secs.length) (hs : 64 < s.size) :
    Calls Try.prog 9 #[.pointer (some ⟨b, 0, none⟩), .int .i64 (i : Int), .string s] w fun e w' => e = .returned (.int .i64 3) ∧ w = w' := by
  obtain ⟨cap, spare, h1, h2, hb, _⟩ := h.ok
  have hl := h.blen
  have hsz0 := h.size.2
  have hp := place_in w b x D _ cap i hb (by omega) (by omega) hd (by omega)
  have hs1 : decide (64 < s.size) = true := decide_eq_true hs
  have H1 := hid h1
  have HL := hid hl
  clear hl h1
  go_enter Try.func9, Try.ntmps9
  go_wp2_with (go_at_call 21; refine hp.mono ?_; rintro e w' ⟨rfl, rfl⟩)
  go_ret
  exact ⟨rfl, rfl⟩

set_option maxHeartbeats 1000000 in
theorem write_ok (w : World) (b D : Nat) (x : Dk) (i : Nat) (s : ByteArray) (h : DiskAt w b D x) (hd : x.down = false) (hi : i < x.secs.length) (hs : s.size ≤ 64) (hc : x.cat ≠ wrap64 (x.since + 1)) :
    Calls Try.prog 9 #[.pointer (some ⟨b, 0, none⟩), .int .i64 (i : Int), .string s] w fun e w' => e = .returned (.int .i64 0) ∧
      DiskAt w' b D (x.step.put i (fill s.data.toList)) ∧ Chg (F2 b D) w w' := by
  obtain ⟨cap, spare, h1, h2, hb, hD⟩ := h.ok
  have hne := h.ne
  have hl := h.blen
  have hsz0 := h.size.2
  have hp := place_in w b x D _ cap i hb (by omega) (by omega) hd (by omega)
  have hs1 : decide (64 < s.size) = false := decide_eq_false (by omega)
  have hcb : (x.cat == wrap64 (x.since + 1)) = false := by simpa using hc
  have H1 := hid h1
  have HL := hid hl
  clear hl h1 hc
  go_enter Try.func9, Try.ntmps9
  go_wp2_with (first
    | (go_at_call 21; refine hp.mono ?_; rintro e w' ⟨rfl, rfl⟩)
    | (go_at_call 22; refine (add_any _ _ x _ _ _ hb).mono ?_; rintro e w1 ⟨rfl, hb1, hc1⟩; have c3 := hb1.cell 3; have f3 := hb1.frozen 3; have c3' : w1.cell? ⟨b, 3, none⟩ = some (.int .i64 x.since) := c3; clear c3)
    | (with_reducible refine wpList_make_u8 rfl _ _ 50 5 rfl rfl info_u8 64 (by omega) _ rfl rfl rfl ?_; intro w2 g hg hG hc2)
    | (with_reducible refine wpList_copy_str rfl (.tmp 36) (.tmp 37) _ _ rfl _ rfl size_u8 _ _ _ _ s rfl rfl _ _ hG (by omega) (by simp [u8s_length, zeros_length]; omega) ?_; intro w3 hG3 hc3))
  have hne' : D ≠ b := fun e => hne e.symm
  have hb2 := hb1.set 3 (.int .i64 (wrap64 (x.since + 1)))
  have hD1 := hD.keep hc1 hne'
  have hD2 := hD1.setOther ⟨b, 3, none⟩ (.int .i64 (wrap64 (x.since + 1))) hne'
  have gb : b ≠ g := by have := hb2.lt; omega
  have gD : D ≠ g := by have := hD2.lt; omega
  have hb3 : Blk w3 b (dkCells D x.bytes.length cap x.step) 57 := (hb2.keep hc2 not_false).keep hc3 gb
  have hD3 := (hD2.keep hc2 not_false).keep hc3 gD
  have hC : Chg (F2 b D) w w3 := ((((Chg.refl (F2 b D) w).trans hc1 (fun _ _ h => .inl h)).setCell ⟨b, 3, none⟩ (.int .i64 (wrap64 (x.since + 1))) (fun _ => .inl rfl)).trans hc2 (fun _ _ h => h.elim)).trans hc3 (fun k hk e => by
    have e' : k = g := e
    have := hc1.size
    simp only [World.size_setCell] at hg
    omega)
  clear hp hc1 hc2 hc3 hD1 hD2 hb1 hb2 hG hD
  have hl64 : s.data.toList.length ≤ 64 := by rw [Array.length_toList]; exact hs
  have hG4 : Blk w3 g (u8s (fill s.data.toList)).toArray 5 := by
    rw [u8s_splice, fill_splice] at hG3; exact hG3
  clear hG3
  have c1 : w3.cell? ⟨b, 1, none⟩ = some (.int .i64 x.cat) := hb3.cell 1
  have c3 : w3.cell? ⟨b, 3, none⟩ = some (.int .i64 (wrap64 (x.since + 1))) := hb3.cell 3
  clear f3 c3'
  go_quiet (fail)
  have hlen4 : (fill s.data.toList).length = 64 := fill_len _ hl64
  have e2 : splice (u8s x.bytes ++ spare) (i * 64) (u8s (fill s.data.toList)) = u8s (x.step.put i (fill s.data.toList)).bytes ++ spare := by
    have hL := HL.out
    rw [splice_append _ _ _ _ (by simp only [u8s_length, hlen4]; omega), u8s_splice]
    congr 2
    exact flat_set x.secs i _ h.len hi hlen4
  have hfin : ∀ w' : World, Blk w' b (dkCells D x.bytes.length cap x.step) 57 → Blk w' D (splice (u8s x.bytes ++ spare) (i * 64) (u8s (fill s.data.toList))).toArray 5 → DiskAt w' b D (x.step.put i (fill s.data.toList)) := by
    intro w' k1 k2
    rw [e2] at k2
    have el : (x.step.put i (fill s.data.toList)).bytes.length = x.bytes.length := by
      have h4 := congrArg List.length e2
      have hL := HL.out
      rw [splice_len _ _ _ (by simp only [List.length_append, u8s_length, hlen4]; omega)] at h4
      simp only [List.length_append, u8s_length] at h4
      omega
    have hH := H1.out
    refine ⟨hne, ⟨cap, spare, by omega, h2, by rw [el]; exact k1, k2⟩, ?_, by simpa [Dk.step, Dk.put] using h.size⟩
    intro y hy
    simp only [Dk.put] at hy
    rcases List.mem_or_eq_of_mem_set hy with h5 | h5
    · exact h.len y h5
    · rw [h5]; exact hlen4
  clear e2
  have HFIN := hid hfin
  clear hfin
  have S1 : Hid ((u8s (fill s.data.toList)).length = Nat.min 64 64) := hid (by rw [u8s_length, hlen4]; rfl)
  have S2 : Hid (i * 64 + (u8s (fill s.data.toList)).length ≤ (u8s x.bytes ++ spare).length) := hid (by have hL := HL.out; simp only [List.length_append, u8s_length, hlen4]; omega)
  clear hlen4 hl64
  go_wp2_with (with_reducible refine wpList_copy_cells rfl (.tmp 67) (.tmp 68) _ _ rfl _ rfl size_u8 _ _ _ _ _ _ _ rfl rfl _ _ (hD3.drewN _) (u8s (fill s.data.toList)) S1.out (hG4.drewN _).src S2.out (u8s_one _) ?_; intro w4 hD4 hc4)
  go_ret
  exact ⟨rfl, HFIN.out _ ((hb3.drewN _).keep hc4 hne) hD4, (hC.drewN _).trans hc4 (fun _ _ h => .inr h)⟩
end Go.Proofs.Ytjgkccmifomjnaa
