/- Contracts of the document's own sectors (its reference): what each call answers, by a walk. -/
import Derived.Test.YtjgkccmifomjnaaSecT
namespace Go.Proofs.Ytjgkccmifomjnaa
open Go.RowKit

theorem refr_down (w : World) (A : Option Addr) (n c : Nat) (x : Dk) (i : Int) (hd : x.down = true) :
    Calls Try.prog 11 #[.agg (rdCells A n c x), .int .i64 i] w fun e w' => e = .returned (.tuple #[.string (str []), .int .i64 6]) ∧ Chg NoB w w' := by
  obtain ⟨secs, cat, ctorn, since, down, all⟩ := x
  simp only at hd
  subst hd
  unfold rdCells
  simp only
  go_enter Try.func11, Try.ntmps11
  go_wp2
  go_ret2
  exact ⟨rfl, (Chg.refl NoB w).alloc _⟩
theorem refr_out (w : World) (A : Option Addr) (n c : Nat) (x : Dk) (i : Int) (hd : x.down = false) (hi : i < 0 ∨ (n : Int) ≤ i) :
    Calls Try.prog 11 #[.agg (rdCells A n c x), .int .i64 i] w fun e w' => e = .returned (.tuple #[.string (str []), .int .i64 1]) ∧ Chg NoB w w' := by
  obtain ⟨secs, cat, ctorn, since, down, all⟩ := x
  simp only at hd
  subst hd
  unfold rdCells
  simp only
  by_cases h0 : i < 0
  · have hb : decide (i < 0) = true := decide_eq_true h0
    clear hi
    go_enter Try.func11, Try.ntmps11
    go_wp2
    go_ret2
    exact ⟨rfl, (Chg.refl NoB w).alloc _⟩
  · have hb : decide (i < 0) = false := decide_eq_false h0
    have h1 : (n : Int) ≤ i := by omega
    have hb1 : decide ((n : Int) ≤ i) = true := decide_eq_true h1
    clear hi
    go_enter Try.func11, Try.ntmps11
    go_wp2
    go_ret2
    exact ⟨rfl, (Chg.refl NoB w).alloc _⟩
theorem refr_in (w : World) (A : Option Addr) (n c : Nat) (x : Dk) (i : Nat) (hd : x.down = false) (hi : i < n) (ho : Own w 9 1 A n c (strs x.secs)) (s : List UInt8) (hs : x.secs[i]? = some s) :
    Calls Try.prog 11 #[.agg (rdCells A n c x), .int .i64 (i : Int)] w fun e w' => e = .returned (.tuple #[.string (str s), .int .i64 0]) ∧ Chg NoB w w' := by
  obtain ⟨secs, cat, ctorn, since, down, all⟩ := x
  simp only at hd ho hs
  subst hd
  obtain ⟨g, rfl, hlt⟩ := ho.addr (by omega)
  have hb : decide ((i : Int) < 0) = false := decide_eq_false (by omega)
  have hb1 : decide ((n : Int) ≤ (i : Int)) = false := decide_eq_false (by omega)
  have hb2 : decide (n ≤ i) = false := decide_eq_false (by omega)
  have i1 : (i : Int) < (n : Int) := by omega
  have i0 : (0 : Int) ≤ (i : Int) := by omega
  have kc : w.cell? ⟨g, i, none⟩ = some (.string (str s)) := ho.cell rfl i _ (by rw [strs, List.getElem?_map, hs]; rfl)
  have HS := hid hs
  clear hs
  unfold rdCells
  simp only
  go_enter Try.func11, Try.ntmps11
  go_wp2
  go_ret2
  exact ⟨rfl, (Chg.refl NoB w).alloc _⟩
theorem ref_read (w : World) (A : Option Addr) (n c : Nat) (x : Dk) (i : Int) (ho : Own w 9 1 A n c (strs x.secs)) (hn : x.secs.length = n) :
    Calls Try.prog 11 #[.agg (rdCells A n c x), .int .i64 i] w fun e w' => e = .returned (.tuple #[.string (str (x.read i).1), .int .i64 (x.read i).2]) ∧ Chg NoB w w' := by
  unfold Dk.read
  by_cases hd : x.down = true
  · rw [if_pos hd]; exact refr_down w A n c x i hd
  · rw [if_neg hd]
    have hd' : x.down = false := by simpa using hd
    rw [hn]
    by_cases hi : i < 0 ∨ (n : Int) ≤ i
    · rw [if_pos hi]; exact refr_out w A n c x i hd' hi
    · rw [if_neg hi]
      obtain ⟨k, rfl⟩ : ∃ k : Nat, i = (k : Int) := ⟨i.toNat, by omega⟩
      have hk : k < n := by omega
      exact refr_in w A n c x k hd' hk ho _ (by rw [List.getD_eq_getElem?_getD, Int.toNat_natCast, List.getElem?_eq_getElem (by omega)]; rfl)

theorem res_one {fn : Func} {p : Tmp} (hres : fn.results = #[.cell p 33]) {tmps : Array Value} {W : World} {r : Nat} {cs : Array Value} (h6 : tmps.getD p undef = .pointer (some ⟨r, 0, none⟩))
    (hb : Blk W r cs 33) (hs : cs.size = 6) : (results fn tmps).run Try.prog W = .ok (.agg cs) W :=
  results_cell_row hres tmps W r _ cs _ _ h6 hb rfl rfl (by rw [hs]; kernel_rfl)

theorem blk_new3 (w : World) (o1 o2 : Obj) (cs : Array Value) (T : TypeId) : Blk (((w.alloc o1).alloc o2).alloc (.cells cs T)) (w.heap.size + 1 + 1) cs T := by
  have := Blk.new ((w.alloc o1).alloc o2) cs T
  simp only [World.size_alloc] at this
  exact this
set_option maxHeartbeats 400000 in
theorem ref_start (w : World) (A : Option Addr) (n c : Nat) (x : Dk) :
    Calls Try.prog 15 #[.agg (rdCells A n c x)] w fun e w' => e = .returned (.agg (rdCells A n c x.start)) ∧ Chg NoB w w' := by
  obtain ⟨secs, cat, ctorn, since, down, all⟩ := x
  unfold rdCells
  simp only
  go_enter Try.func15, Try.ntmps15
  go_wp2
  refine bodyPost_ret (res_one rfl rfl (Blk.new2 _ _ _ _) rfl) rfl ?_
  exact ⟨rfl, ((Chg.refl NoB w).alloc _).alloc _⟩
set_option maxHeartbeats 400000 in
theorem ref_arm (w : World) (A : Option Addr) (n c : Nat) (x : Dk) (at_ torn : Int) :
    Calls Try.prog 13 #[.agg (rdCells A n c x), .agg #[.int .i64 at_, .int .i64 torn]] w fun e w' => e = .returned (.agg (rdCells A n c (x.arm at_ torn))) ∧ Chg NoB w w' := by
  obtain ⟨secs, cat, ctorn, since, down, all⟩ := x
  unfold rdCells Dk.arm
  simp only
  by_cases ha : at_ < 1
  · go_enter Try.func13, Try.ntmps13
    go_wp2
    refine bodyPost_ret (res_one rfl rfl (blk_new3 _ _ _ _ _) rfl) rfl ?_
    exact ⟨rfl, (((Chg.refl NoB w).alloc _).alloc _).alloc _⟩
  · go_enter Try.func13, Try.ntmps13
    go_wp2
    refine bodyPost_ret (res_one rfl rfl (blk_new3 _ _ _ _ _) rfl) rfl ?_
    exact ⟨rfl, (((Chg.refl NoB w).alloc _).alloc _).alloc _⟩

/-- The document's write, whole. -/
theorem ref_write (w : World) (A : Option Addr) (n c : Nat) (x : Dk) (i : Int) (s : ByteArray) (ho : Own w 9 1 A n c (strs x.secs)) (hlen : x.secs.length = n) (hn : n ≤ 4096) (h64 : ∀ s ∈ x.secs, s.length = 64)
    (hcat : 0 ≤ x.cat) (hsi : 0 ≤ x.since) (hsi2 : x.since < 1000000) :
    Calls Try.prog 8 #[.agg (rdCells A n c x), .int .i64 i, .string s] w (RefW w A n (x.write i s.data.toList)) := by
  have hsl : s.data.toList.length = s.size := Array.length_toList
  unfold Dk.write
  by_cases hd : x.down = true
  · rw [if_pos hd]; exact refw_down w A n c x i s ho hd
  · rw [if_neg hd]
    have hd' : x.down = false := by simpa using hd
    rw [hlen]
    by_cases hi : i < 0 ∨ (n : Int) ≤ i
    · rw [if_pos hi]; exact refw_out w A n c x i s ho hd' hi
    · rw [if_neg hi]
      obtain ⟨k, rfl⟩ : ∃ k : Nat, i = (k : Int) := ⟨i.toNat, by omega⟩
      have hk : k < n := by omega
      rw [hsl, Int.toNat_natCast]
      by_cases hs : 64 < s.size
      · rw [if_pos hs]; exact refw_long w A n c x k s ho hd' hk hs
      · rw [if_neg hs]
        by_cases hc : x.cat = wrap64 (x.since + 1)
        · rw [if_pos hc]
          have hw : wrap64 (x.since + 1) = x.since + 1 := by unfold wrap64; omega
          have hg : x.secs[k]? = some (x.secs.getD k []) := by rw [List.getD_eq_getElem?_getD, List.getElem?_eq_getElem (by omega)]; rfl
          exact refw_torn w A n c x k s ho hlen hn hd' hk (by omega) hc (by rw [hc, hw]; omega) (tornN x.ctorn) (by unfold tornN; omega) (x.secs.getD k []) hg (h64 _ (List.mem_of_getElem? hg))
        · rw [if_neg hc]; exact refw_ok w A n c x k s ho hlen hn hd' hk (by omega) hc
end Go.Proofs.Ytjgkccmifomjnaa
