/- The law's bound on its rows (Few), by a walk; the fixed answers, reckoned. -/
import Derived.Test.YtjgkccmifomjnaaSecV
namespace Go.Proofs.Ytjgkccmifomjnaa
open Go.RowKit

def few (l : List Act) : Bool := decide (l.length ≤ 200 ∧ ∀ x ∈ l, x.data.size ≤ 500)
set_option maxHeartbeats 400000 in
theorem few_any (w : World) (A : Option Addr) (n c : Nat) (l : List Act) (h : ActsAt w A n l) (hn : n ≤ maxLen) :
    Calls Try.prog 5 #[.slice A n c] w fun e w' => e = .returned (.bool (few l)) ∧ w = w' := by
  unfold maxLen at hn
  have HA := hid h
  clear h
  go_enter Try.func5, Try.ntmps5
  go_wp2
  go_loop [3] (fun v => ∃ i : Nat, v = .int .i64 i ∧ i ≤ n ∧ i ≤ 200 ∧ Hid (∀ j x, j < i → l[j]? = some x → x.data.size ≤ 500)) (fun v => n - (intOf v).toNat)
  case atStart => exact ⟨0, rfl, Nat.zero_le _, Nat.zero_le _, hid (fun j x hj => absurd hj (Nat.not_lt_zero _))⟩
  case round =>
    obtain ⟨i, rfl, h1, h2, H3⟩ := hrel
    by_cases hlt : i < n
    · have t1 : decide ((i : Int) < (n : Int)) = true := decide_eq_true (by omega)
      have t2 : decide (i < n) = true := decide_eq_true hlt
      obtain ⟨b, o, rfl, hb, hc⟩ := HA.out.2.2 (by omega)
      have hil : i < l.length := by rw [HA.out.1]; exact hlt
      obtain ⟨x, hx⟩ : ∃ x, l[i]? = some x := ⟨l[i], List.getElem?_eq_getElem hil⟩
      have k2 := (hc i x hx).2.2.1
      have HX := hid hx
      have HC := hid hc
      clear hx hc hil
      by_cases hi : 200 ≤ i
      · have s1 : decide (200 ≤ (i : Int)) = true := decide_eq_true (by omega)
        have hf : Hid (few l = false) := hid (by
          unfold few; simp only [decide_eq_false_iff_not]; intro hh
          have := HA.out.1; omega)
        go_wp2
        go_ret
        exact ⟨by rw [hf.out]; rfl, rfl⟩
      · have s1 : decide (200 ≤ (i : Int)) = false := decide_eq_false (by omega)
        by_cases hd : 500 < x.data.size
        · have s2 : decide (500 < (x.data.size : Int)) = true := decide_eq_true (by omega)
          have s3 : decide (500 < x.data.size) = true := decide_eq_true hd
          have hf : Hid (few l = false) := hid (by
            unfold few; simp only [decide_eq_false_iff_not]; intro hh
            have := hh.2 x (List.mem_of_getElem? HX.out); omega)
          go_wp2
          go_ret
          exact ⟨by rw [hf.out]; rfl, rfl⟩
        · have s2 : decide (500 < (x.data.size : Int)) = false := decide_eq_false (by omega)
          have s3 : decide (500 < x.data.size) = false := decide_eq_false hd
          go_wp2
          go_round
          case rel => exact ⟨i + 1, by go_num, by omega, by omega, hid (fun j y hj hy => by
            rcases Nat.lt_succ_iff_lt_or_eq.1 hj with h | h
            · exact H3.out j y h hy
            · subst h; have e := HX.out; rw [hy] at e; injection e with e; subst e; omega)⟩
          case measure => simp [intOf]; omega
    · have t1 : decide ((i : Int) < (n : Int)) = false := decide_eq_false (by omega)
      have t2 : decide (i < n) = false := decide_eq_false hlt
      have hf : Hid (few l = true) := hid (by
        unfold few; simp only [decide_eq_true_eq]
        have hl := HA.out.1
        refine ⟨by omega, fun x hx => ?_⟩
        obtain ⟨j, hj⟩ := List.getElem?_of_mem hx
        exact H3.out j x (by have := (List.getElem?_eq_some_iff.1 hj).1; omega) hj)
      go_wp2
      go_ret
      exact ⟨by rw [hf.out]; rfl, rfl⟩

/-! The answers that the document fixes. -/
def X1 : Dk := (Dk.new 2).arm 1 1
def X2 : Dk := (X1.write 0 [97, 98]).1
def X3 : Dk := X2.start
def X4 : Dk := (X3.write 1 [120]).1
def X5 : Dk := (X4.write 2 []).1
theorem x2_code : (X1.write 0 [97, 98]).2 = 6 := by decide +kernel
theorem x2_down : X2.down = true := by decide +kernel
theorem x3_read : X3.read 0 = (97 :: zeros 63, 0) := by decide +kernel
theorem x4_code : (X3.write 1 [120]).2 = 0 := by decide +kernel
theorem x5_code : (X4.write 2 []).2 = 1 := by decide +kernel
theorem x5_size : X5.secs.length = 2 := by decide +kernel
theorem x5_all : X5.all = 2 := by decide +kernel
theorem x5_down : X5.down = false := by decide +kernel

end Go.Proofs.Ytjgkccmifomjnaa
