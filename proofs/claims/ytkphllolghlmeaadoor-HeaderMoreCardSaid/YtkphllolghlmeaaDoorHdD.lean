import Derived.Test.YtkphllolghlmeaaDoorHdC
namespace Go.Proofs.YtkphllolghlmeaaDoor
open Go.RowKit
set_option linter.unusedVariables false

/-- What Few has counted behind i fields. -/
def FewR (l : List Fld) (i n : Nat) : Prop := i ≤ 100 ∧ n ≤ 8000 ∧ fewF l = fewN (l.drop i) i n
theorem FewR.zero (l : List Fld) : FewR l 0 0 := ⟨Nat.zero_le _, Nat.zero_le _, rfl⟩
theorem FewR.stop {l : List Fld} {i n : Nat} {x : Fld} (h : FewR l i n) (hx : l[i]? = some x) (hs : 100 ≤ i ∨ 8000 < n + 1 + min x.name.size 10000 + min x.body.size 10000) : fewF l = false := by
  obtain ⟨hi, rfl⟩ := List.getElem?_eq_some_iff.1 hx
  rw [h.2.2, List.drop_eq_getElem_cons hi, fewN, if_pos hs]
theorem FewR.succ {l : List Fld} {i n : Nat} {x : Fld} (h : FewR l i n) (hx : l[i]? = some x) (h1 : i < 100) (h2 : n + 1 + min x.name.size 10000 + min x.body.size 10000 ≤ 8000) : FewR l (i + 1) (n + 1 + min x.name.size 10000 + min x.body.size 10000) := by
  obtain ⟨hi, rfl⟩ := List.getElem?_eq_some_iff.1 hx
  refine ⟨by omega, h2, ?_⟩
  rw [h.2.2, List.drop_eq_getElem_cons hi, fewN, if_neg (by omega)]
theorem FewR.end {l : List Fld} {i n : Nat} (h : FewR l i n) (hi : l.length ≤ i) : fewF l = true := by
  rw [h.2.2, List.drop_of_length_le hi]; rfl
set_option maxHeartbeats 1000000 in
theorem few_any (w : World) (A : Option Addr) (n c : Nat) (l : List Fld) (h : FldsAt w A n l) (hn : n ≤ maxLen) (hz : ∀ x ∈ l, x.name.size ≤ maxLen ∧ x.body.size ≤ maxLen) :
    Calls Tryd.prog 10 #[.slice A n c] w fun e w' => e = .returned (.bool (fewF l)) ∧ Quiet w w' := by
  unfold maxLen at hn
  have HA := hid h
  clear h
  go_enter Tryd.func10, Tryd.ntmps10
  go_wp2
  go_loopw [3, 4] (fun u v wr => ∃ i m : Nat, u = .int .i64 m ∧ v = .int .i64 i ∧ i ≤ n ∧ Hid (FewR l i m) ∧ Quiet w wr) (fun _ v _ => n - (intOf v).toNat)
  case atStart => exact ⟨0, 0, rfl, rfl, Nat.zero_le _, hid (FewR.zero l), Quiet.refl w⟩
  case round =>
    obtain ⟨i, m, rfl, rfl, h1, HN, HQ⟩ := hrel
    have hm8 := HN.out.2.1
    by_cases hlt : i < n
    · have t1 : decide ((i : Int) < (n : Int)) = true := decide_eq_true (by omega)
      have t2 : decide (i < n) = true := decide_eq_true hlt
      have i0 : (0 : Int) ≤ (i : Int) := by omega
      have i1 : (i : Int) < (n : Int) := by omega
      have hA := HA.out.keep (HQ.chg NoB)
      obtain ⟨b, o, rfl, hb, hc⟩ := hA.2 (by omega)
      obtain ⟨x, hx⟩ : ∃ x, l[i]? = some x := ⟨l[i]'(by rw [hA.1]; exact hlt), List.getElem?_eq_getElem _⟩
      obtain ⟨k0, k1⟩ := hc i x hx
      have HX := hid hx
      clear hx hc hA
      obtain ⟨p, hp⟩ : ∃ p : Nat, p = min x.name.size 10000 := ⟨_, rfl⟩
      obtain ⟨q, hq⟩ : ∃ q : Nat, q = min x.body.size 10000 := ⟨_, rfl⟩
      have p1 : min (x.name.size : Int) 10000 = (p : Int) := by omega
      have p2 : min (x.body.size : Int) 10000 = (q : Int) := by omega
      have hp1 : p ≤ 10000 := by omega
      have hq1 : q ≤ 10000 := by omega
      have HP := hid hp
      have HQ2 := hid hq
      clear hp hq
      by_cases h100 : 100 ≤ i
      · have d1 : decide (100 ≤ (i : Int)) = true := decide_eq_true (by omega)
        have HF := hid (HN.out.stop HX.out (.inl h100))
        go_wp2_with fail
        go_region
        go_wp2
        go_ret
        exact ⟨by rw [HF.out]; rfl, HQ.drewN 1⟩
      · have d1 : decide (100 ≤ (i : Int)) = false := decide_eq_false (by omega)
        by_cases h8 : 8000 < m + 1 + p + q
        · have d2 : decide (8000 < (m : Int) + 1 + (p : Int) + (q : Int)) = true := decide_eq_true (by omega)
          have HF := hid (HN.out.stop HX.out (.inr (by rw [← HP.out, ← HQ2.out]; exact h8)))
          go_wp2_with fail
          go_region
          go_wp2
          go_ret
          exact ⟨by rw [HF.out]; rfl, HQ.drewN 1⟩
        · have d2 : decide (8000 < (m : Int) + 1 + (p : Int) + (q : Int)) = false := decide_eq_false (by omega)
          have HF := hid (HN.out.succ HX.out (by omega) (by rw [← HP.out, ← HQ2.out]; omega))
          go_wp2_with fail
          go_region
          go_wp2
          go_roundw
          case rel => exact ⟨i + 1, m + 1 + p + q, by go_num, by go_num, by omega, hid (by rw [HP.out, HQ2.out]; exact HF.out), HQ.drewN 1⟩
          case measure => simp [intOf]; omega
    · have t1 : decide ((i : Int) < (n : Int)) = false := decide_eq_false (by omega)
      have t2 : decide (i < n) = false := decide_eq_false hlt
      have HG := hid (HN.out.end (by have := HA.out.1; omega))
      go_wp2
      go_ret
      exact ⟨by rw [HG.out]; rfl, HQ⟩
end Go.Proofs.YtkphllolghlmeaaDoor
