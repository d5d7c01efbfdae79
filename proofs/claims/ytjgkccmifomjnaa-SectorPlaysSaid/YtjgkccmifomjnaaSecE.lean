/- Contracts of package sector: what each call answers and leaves, by a walk. -/
import Derived.Test.YtjgkccmifomjnaaSecD
import Derived.Test.YtjgkccmifomjnaaOwn
namespace Go.Proofs.Ytjgkccmifomjnaa
open Go.RowKit

/-- What a read hands back, and its error's number. -/
def Dk.read (x : Dk) (i : Int) : List UInt8 × Int :=
  if x.down = true then ([], 6)
  else if i < 0 ∨ (x.secs.length : Int) ≤ i then ([], 1)
  else (x.secs.getD i.toNat [], 0)

theorem convert_nil (w : World) : (convert 50 9 (.slice none 0 0)).run Try.prog w = .ok (.string (str [])) w :=
  run_convert_bytes_nil (P := Try.prog) w 50 5 Try.underlying50 Try.underlying5 0 0 9 Try.underlying9

theorem read_down (w : World) (b D : Nat) (x : Dk) (i : Int) (h : DiskAt w b D x) (hd : x.down = true) :
    Calls Try.prog 10 #[.pointer (some ⟨b, 0, none⟩), .int .i64 i] w fun e w' => e = .returned (.tuple #[.string (str []), .int .i64 6]) ∧ w = w' := by
  obtain ⟨cap, spare, _, _, hb, _⟩ := h.ok
  have hcv := convert_nil
  go_enter Try.func10, Try.ntmps10
  go_wp2_with (go_at_call 21; refine (place_down _ _ x _ _ _ _ hb hd).mono ?_; rintro e w' ⟨rfl, rfl⟩)
  go_ret2
  exact ⟨rfl, rfl⟩
theorem read_out (w : World) (b D : Nat) (x : Dk) (i : Int) (h : DiskAt w b D x) (hd : x.down = false) (hi : i < 0 ∨ (x.secs.length : Int) ≤ i) :
    Calls Try.prog 10 #[.pointer (some ⟨b, 0, none⟩), .int .i64 i] w fun e w' => e = .returned (.tuple #[.string (str []), .int .i64 1]) ∧ w = w' := by
  obtain ⟨cap, spare, h1, h2, hb, _⟩ := h.ok
  have hl := h.blen
  have hsz0 := h.size.2
  have hp := place_out w b x D _ cap i hb (by omega) hd (by omega)
  have hcv := convert_nil
  clear hi hl h1
  go_enter Try.func10, Try.ntmps10
  go_wp2_with (go_at_call 21; refine hp.mono ?_; rintro e w' ⟨rfl, rfl⟩)
  go_ret2
  exact ⟨rfl, rfl⟩
theorem read_in (w : World) (b D : Nat) (x : Dk) (i : Nat) (h : DiskAt w b D x) (hd : x.down = false) (hi : i < x.secs.length) :
    Calls Try.prog 10 #[.pointer (some ⟨b, 0, none⟩), .int .i64 (i : Int)] w fun e w' => e = .returned (.tuple #[.string (str (x.secs.getD i [])), .int .i64 0]) ∧ w = w' := by
  obtain ⟨cap, spare, h1, h2, hb, hD⟩ := h.ok
  have hl := h.blen
  have hsz0 := h.size.2
  have hp := place_in w b x D _ cap i hb (by omega) (by omega) hd (by omega)
  have hlen : (x.secs.getD i []).length = 64 := h.len _ (by rw [List.getD_eq_getElem?_getD, List.getElem?_eq_getElem hi]; exact List.getElem_mem hi)
  have hg := flat_get x.secs i h.len hi
  obtain ⟨s, hs⟩ : ∃ s, s = x.secs.getD i [] := ⟨_, rfl⟩
  rw [← hs] at hlen hg
  have hcv := run_convert_bytes_back (P := Try.prog) w 50 9 5 ⟨D, i * 64, none⟩ 64 s Try.underlying50 Try.underlying5 Try.underlying9 (fun j hj => by
    refine hD.srcAt (i * 64) 64 j _ ?_
    have e : ((u8s x.bytes ++ spare).drop (i * 64)).take 64 = u8s s := by
      have e1 : i * 64 + 64 ≤ x.bytes.length := by omega
      have e3 : (x.bytes.drop (i * 64)).length = x.bytes.length - i * 64 := List.length_drop
      rw [List.drop_append_of_le_length (by rw [u8s_length]; omega), List.take_append_of_le_length (by rw [u8s_drop, u8s_length, e3]; omega), u8s_drop, u8s_take]
      exact congrArg u8s hg
    rw [e, u8s_get, List.getElem?_eq_getElem hj]
    rfl)
  rw [hlen] at hcv
  have HS := hid hs
  rw [← hs]
  clear hs hg hlen hl h1
  go_enter Try.func10, Try.ntmps10
  go_wp2_with (go_at_call 21; refine hp.mono ?_; rintro e w' ⟨rfl, rfl⟩)
  go_ret2
  exact ⟨rfl, rfl⟩

/-! The disk's methods, whole. -/
theorem disk_read (w : World) (b D : Nat) (x : Dk) (i : Int) (h : DiskAt w b D x) :
    Calls Try.prog 10 #[.pointer (some ⟨b, 0, none⟩), .int .i64 i] w fun e w' => e = .returned (.tuple #[.string (str (x.read i).1), .int .i64 (x.read i).2]) ∧ w = w' := by
  unfold Dk.read
  by_cases hd : x.down = true
  · rw [if_pos hd]; exact read_down w b D x i h hd
  · rw [if_neg hd]
    have hd' : x.down = false := by simpa using hd
    by_cases hi : i < 0 ∨ (x.secs.length : Int) ≤ i
    · rw [if_pos hi]; exact read_out w b D x i h hd' hi
    · rw [if_neg hi]
      obtain ⟨k, rfl⟩ : ∃ k : Nat, i = (k : Int) := ⟨i.toNat, by omega⟩
      exact read_in w b D x k h hd' (by omega)
theorem disk_write (w : World) (b D : Nat) (x : Dk) (i : Int) (s : ByteArray) (h : DiskAt w b D x) :
    Calls Try.prog 9 #[.pointer (some ⟨b, 0, none⟩), .int .i64 i, .string s] w fun e w' => e = .returned (.int .i64 (x.write i s.data.toList).2) ∧
      DiskAt w' b D (x.write i s.data.toList).1 ∧ Chg (F2 b D) w w' := by
  have hsl : s.data.toList.length = s.size := Array.length_toList
  have same : ∀ c : Int, (Calls Try.prog 9 #[.pointer (some ⟨b, 0, none⟩), .int .i64 i, .string s] w fun e w' => e = .returned (.int .i64 c) ∧ w = w') →
      Calls Try.prog 9 #[.pointer (some ⟨b, 0, none⟩), .int .i64 i, .string s] w fun e w' => e = .returned (.int .i64 c) ∧ DiskAt w' b D x ∧ Chg (F2 b D) w w' := by
    intro c hc
    refine hc.mono ?_
    rintro e w' ⟨rfl, rfl⟩
    exact ⟨rfl, h, Chg.refl _ _⟩
  unfold Dk.write
  by_cases hd : x.down = true
  · rw [if_pos hd]; exact same 6 (write_down w b D x i s h hd)
  · rw [if_neg hd]
    have hd' : x.down = false := by simpa using hd
    by_cases hi : i < 0 ∨ (x.secs.length : Int) ≤ i
    · rw [if_pos hi]; exact same 1 (write_out w b D x i s h hd' hi)
    · rw [if_neg hi]
      obtain ⟨k, rfl⟩ : ∃ k : Nat, i = (k : Int) := ⟨i.toNat, by omega⟩
      rw [hsl, Int.toNat_natCast]
      by_cases hs : 64 < s.size
      · rw [if_pos hs]; exact same 3 (write_long w b D x k s h hd' (by omega) hs)
      · rw [if_neg hs]
        by_cases hc : x.cat = wrap64 (x.since + 1)
        · rw [if_pos hc]; exact write_torn w b D x k s h hd' (by omega) (by omega) hc
        · rw [if_neg hc]; exact write_ok w b D x k s h hd' (by omega) (by omega) hc
def Dk.arm (x : Dk) (at_ torn : Int) : Dk := { x with cat := if at_ < 1 then 0 else at_, ctorn := if at_ < 1 then 0 else torn, since := 0 }
def Dk.start (x : Dk) : Dk := { x with down := false, since := 0 }
def Dk.new (n : Nat) : Dk := ⟨List.replicate n (zeros 64), 0, 0, 0, false, 0⟩
theorem disk_arm (w : World) (b D : Nat) (x : Dk) (at_ torn : Int) (h : DiskAt w b D x) :
    Calls Try.prog 12 #[.pointer (some ⟨b, 0, none⟩), .agg #[.int .i64 at_, .int .i64 torn]] w fun e w' => e = .returned (.tuple #[]) ∧ DiskAt w' b D (x.arm at_ torn) ∧ Chg (F2 b D) w w' := by
  obtain ⟨cap, spare, h1, h2, hb, hD⟩ := h.ok
  refine (arm_any w b x D _ cap at_ torn hb).mono ?_
  rintro e w' ⟨rfl, k1, k2⟩
  exact ⟨rfl, ⟨h.ne, ⟨cap, spare, h1, h2, k1, hD.keep k2 (fun e => h.ne e.symm)⟩, h.len, h.size⟩, k2.mono (fun _ _ e => .inl e)⟩
theorem disk_start (w : World) (b D : Nat) (x : Dk) (h : DiskAt w b D x) :
    Calls Try.prog 14 #[.pointer (some ⟨b, 0, none⟩)] w fun e w' => e = .returned (.tuple #[]) ∧ DiskAt w' b D x.start ∧ Chg (F2 b D) w w' := by
  obtain ⟨cap, spare, h1, h2, hb, hD⟩ := h.ok
  refine (start_any w b x D _ cap hb).mono ?_
  rintro e w' ⟨rfl, k1, k2⟩
  exact ⟨rfl, ⟨h.ne, ⟨cap, spare, h1, h2, k1, hD.keep k2 (fun e => h.ne e.symm)⟩, h.len, h.size⟩, k2.mono (fun _ _ e => .inl e)⟩
theorem disk_down (w : World) (b D : Nat) (x : Dk) (h : DiskAt w b D x) :
    Calls Try.prog 17 #[.pointer (some ⟨b, 0, none⟩)] w fun e w' => e = .returned (.bool x.down) ∧ w = w' := by
  obtain ⟨cap, spare, h1, h2, hb, hD⟩ := h.ok
  exact down_any w b x D _ cap hb
theorem disk_writes (w : World) (b D : Nat) (x : Dk) (h : DiskAt w b D x) :
    Calls Try.prog 18 #[.pointer (some ⟨b, 0, none⟩)] w fun e w' => e = .returned (.int .i64 x.all) ∧ w = w' := by
  obtain ⟨cap, spare, h1, h2, hb, hD⟩ := h.ok
  exact writes_any w b x D _ cap hb
theorem disk_size (w : World) (b D : Nat) (x : Dk) (h : DiskAt w b D x) :
    Calls Try.prog 19 #[.pointer (some ⟨b, 0, none⟩)] w fun e w' => e = .returned (.int .i64 (x.secs.length : Int)) ∧ w = w' := by
  obtain ⟨cap, spare, h1, h2, hb, hD⟩ := h.ok
  have hl := h.blen
  have hs := h.size
  have := size_any w b x D _ cap hb (by omega)
  rw [show x.bytes.length / 64 = x.secs.length by omega] at this
  exact this
theorem flat_zeros (n : Nat) : (List.replicate n (zeros 64)).flatten = zeros (n * 64) := by
  induction n with
  | zero => rfl
  | succ n ih =>
    rw [List.replicate_succ, List.flatten_cons, ih]
    simp only [zeros, List.replicate_append_replicate]
    congr 1; omega
theorem disk_new (w : World) (n : Nat) (h1 : 1 ≤ n) (h2 : n ≤ 4096) :
    Calls Try.prog 6 #[.int .i64 (n : Int)] w fun e w' => ∃ b D, e = .returned (.tuple #[.pointer (some ⟨b, 0, none⟩), .int .i64 0]) ∧ w.heap.size ≤ b ∧ w.heap.size ≤ D ∧ DiskAt w' b D (Dk.new n) ∧ Chg NoB w w' := by
  refine (new_in w n h1 h2).mono ?_
  rintro e w' ⟨rfl, k1, k2, k3⟩
  have e1 : (Dk.new n).bytes = zeros (n * 64) := flat_zeros n
  refine ⟨_, _, rfl, by omega, Nat.le_refl _, ⟨by omega, ⟨n * 64, [], ?_, by unfold maxLen; omega, ?_, ?_⟩, ?_, ?_⟩, k3⟩
  · rw [e1, zeros_length]; rfl
  · rw [e1, zeros_length]; exact k1
  · rw [e1, List.append_nil]; exact k2
  · intro s hs
    rw [(List.mem_replicate.1 hs).2, zeros_length]
  · simp only [Dk.new, List.length_replicate]; exact ⟨h1, h2⟩
theorem DiskAt.keep {F : Nat → Prop} {w w' : World} {b D : Nat} {x : Dk} (h : DiskAt w b D x) (hc : Chg F w w') (h1 : ¬ F b) (h2 : ¬ F D) : DiskAt w' b D x := by
  obtain ⟨cap, spare, k1, k2, hb, hD⟩ := h.ok
  exact ⟨h.ne, ⟨cap, spare, k1, k2, hb.keep hc h1, hD.keep hc h2⟩, h.len, h.size⟩
theorem DiskAt.lt {w : World} {b D : Nat} {x : Dk} (h : DiskAt w b D x) : b < w.heap.size ∧ D < w.heap.size := by
  obtain ⟨cap, spare, k1, k2, hb, hD⟩ := h.ok
  exact ⟨hb.lt, hD.lt⟩
end Go.Proofs.Ytjgkccmifomjnaa
