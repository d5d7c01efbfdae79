/- The law's fixed answers (awake), by a walk. -/
import Derived.Test.YtjgkccmifomjnaaSecX
namespace Go.Proofs.Ytjgkccmifomjnaa
open Go.RowKit

theorem new_two (w : World) : Calls Try.prog 6 #[.int .i64 2] w fun e w' => ∃ b D, e = .returned (.tuple #[.pointer (some ⟨b, 0, none⟩), .int .i64 0]) ∧ w.heap.size ≤ b ∧ w.heap.size ≤ D ∧ DiskAt w' b D (Dk.new 2) ∧ Chg NoB w w' := disk_new w 2 (by omega) (by omega)
theorem new_none (w : World) : Calls Try.prog 6 #[.int .i64 0] w fun e w' => e = .returned (.tuple #[.pointer none, .int .i64 1]) ∧ w = w' := new_out w 0 (by omega)
theorem aw_arm (w : World) (b D : Nat) (h : DiskAt w b D (Dk.new 2)) : Calls Try.prog 12 #[.pointer (some ⟨b, 0, none⟩), .agg #[.int .i64 1, .int .i64 1]] w fun e w' => e = .returned (.tuple #[]) ∧ DiskAt w' b D X1 ∧ Chg (F2 b D) w w' := disk_arm w b D _ 1 1 h
theorem aw_w1 (w : World) (b D : Nat) (h : DiskAt w b D X1) : Calls Try.prog 9 #[.pointer (some ⟨b, 0, none⟩), .int .i64 0, .string ⟨#[97, 98]⟩] w fun e w' => e = .returned (.int .i64 6) ∧ DiskAt w' b D X2 ∧ Chg (F2 b D) w w' := by
  have := disk_write w b D X1 0 ⟨#[97, 98]⟩ h
  rw [show (⟨#[97, 98]⟩ : ByteArray).data.toList = [97, 98] from rfl, x2_code] at this
  exact this
theorem aw_down (w : World) (b D : Nat) (h : DiskAt w b D X2) : Calls Try.prog 17 #[.pointer (some ⟨b, 0, none⟩)] w fun e w' => e = .returned (.bool true) ∧ w = w' := by
  have := disk_down w b D X2 h
  rw [x2_down] at this
  exact this
theorem aw_start (w : World) (b D : Nat) (h : DiskAt w b D X2) : Calls Try.prog 14 #[.pointer (some ⟨b, 0, none⟩)] w fun e w' => e = .returned (.tuple #[]) ∧ DiskAt w' b D X3 ∧ Chg (F2 b D) w w' := disk_start w b D X2 h
theorem aw_read (w : World) (b D : Nat) (h : DiskAt w b D X3) : Calls Try.prog 10 #[.pointer (some ⟨b, 0, none⟩), .int .i64 0] w fun e w' => ∃ s : ByteArray, e = .returned (.tuple #[.string s, .int .i64 0]) ∧ s = str (97 :: zeros 63) ∧ w = w' := by
  have := disk_read w b D X3 0 h
  rw [x3_read] at this
  refine this.mono ?_
  rintro e w' ⟨rfl, rfl⟩
  exact ⟨_, rfl, rfl, rfl⟩
theorem aw_w2 (w : World) (b D : Nat) (h : DiskAt w b D X3) : Calls Try.prog 9 #[.pointer (some ⟨b, 0, none⟩), .int .i64 1, .string ⟨#[120]⟩] w fun e w' => e = .returned (.int .i64 0) ∧ DiskAt w' b D X4 ∧ Chg (F2 b D) w w' := by
  have := disk_write w b D X3 1 ⟨#[120]⟩ h
  rw [show (⟨#[120]⟩ : ByteArray).data.toList = [120] from rfl, x4_code] at this
  exact this
theorem aw_w3 (w : World) (b D : Nat) (h : DiskAt w b D X4) : Calls Try.prog 9 #[.pointer (some ⟨b, 0, none⟩), .int .i64 2, .string ⟨#[]⟩] w fun e w' => e = .returned (.int .i64 1) ∧ DiskAt w' b D X5 ∧ Chg (F2 b D) w w' := by
  have := disk_write w b D X4 2 ⟨#[]⟩ h
  rw [show (⟨#[]⟩ : ByteArray).data.toList = [] from rfl, x5_code] at this
  exact this
theorem aw_size (w : World) (b D : Nat) (h : DiskAt w b D X5) : Calls Try.prog 19 #[.pointer (some ⟨b, 0, none⟩)] w fun e w' => e = .returned (.int .i64 2) ∧ w = w' := by
  have := disk_size w b D X5 h
  rw [x5_size] at this
  exact this
theorem aw_writes (w : World) (b D : Nat) (h : DiskAt w b D X5) : Calls Try.prog 18 #[.pointer (some ⟨b, 0, none⟩)] w fun e w' => e = .returned (.int .i64 2) ∧ w = w' := by
  have := disk_writes w b D X5 h
  rw [x5_all] at this
  exact this
theorem aw_down2 (w : World) (b D : Nat) (h : DiskAt w b D X5) : Calls Try.prog 17 #[.pointer (some ⟨b, 0, none⟩)] w fun e w' => e = .returned (.bool false) ∧ w = w' := by
  have := disk_down w b D X5 h
  rw [x5_down] at this
  exact this

set_option maxRecDepth 100000 in
set_option maxHeartbeats 1000000 in
theorem awake_true (w : World) : Calls Try.prog 4 #[] w fun e w' => e = .returned (.bool true) ∧ Chg NoB w w' := by
  go_enter Try.func4, Try.ntmps4
  go_wp2_with (first
    | ((with_reducible (go_at_call 6; refine (new_two _).mono ?_)); rintro e w1 ⟨b, D, rfl, hb, hD, h1, hc1⟩)
    | ((with_reducible (go_at_call 6; refine (new_none _).mono ?_)); rintro e w' ⟨rfl, rfl⟩)
    | ((with_reducible (go_at_call 12; refine (aw_arm _ b D h1).mono ?_)); rintro e w2 ⟨rfl, h2, hc2⟩)
    | ((with_reducible (go_at_call 9; refine (aw_w1 _ b D h2).mono ?_)); rintro e w3 ⟨rfl, h3, hc3⟩)
    | ((with_reducible (go_at_call 17; refine (aw_down _ b D h3).mono ?_)); rintro e w' ⟨rfl, rfl⟩)
    | ((with_reducible (go_at_call 14; refine (aw_start _ b D h3).mono ?_)); rintro e w4 ⟨rfl, h4, hc4⟩)
    | ((with_reducible (go_at_call 10; refine (aw_read _ b D h4).mono ?_)); rintro e w' ⟨s, rfl, hs, rfl⟩; have hs64 : s.size = 64 := (by rw [hs, str_size]; simp [zeros]); have b0 : (s[0]'(by omega)).toNat = 97 := (by subst hs; rfl); have b1 : (s[1]'(by omega)).toNat = 0 := (by subst hs; rfl); clear hs)
    | ((with_reducible (go_at_call 9; refine (aw_w2 _ b D h4).mono ?_)); rintro e w5 ⟨rfl, h5, hc5⟩)
    | ((with_reducible (go_at_call 9; refine (aw_w3 _ b D h5).mono ?_)); rintro e w6 ⟨rfl, h6, hc6⟩)
    | ((with_reducible (go_at_call 19; refine (aw_size _ b D h6).mono ?_)); rintro e w' ⟨rfl, rfl⟩)
    | ((with_reducible (go_at_call 18; refine (aw_writes _ b D h6).mono ?_)); rintro e w' ⟨rfl, rfl⟩)
    | ((with_reducible (go_at_call 17; refine (aw_down2 _ b D h6).mono ?_)); rintro e w' ⟨rfl, rfl⟩))
  go_ret
  refine ⟨rfl, ?_⟩
  have k : ∀ {W V : World}, Chg NoB w W → Chg (F2 b D) W V → Chg NoB w V := fun a c => a.trans c (fun i hi e => by
    rcases e with e | e <;> omega)
  exact k (k (k (k (k hc1 hc2) hc3) hc4) hc5) hc6
end Go.Proofs.Ytjgkccmifomjnaa
