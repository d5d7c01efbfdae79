/- Contracts of the document's own sectors (its reference): what each call answers, by a walk. -/
import Derived.Test.YtjgkccmifomjnaaSecE
namespace Go.Proofs.Ytjgkccmifomjnaa
open Go.RowKit

def lenV : Value → Nat
  | .slice _ n _ => n
  | _ => 0
/-- What the filling's loop keeps. -/
def FillR (w0 : World) (s : List UInt8) (v : Value) (wr : World) : Prop :=
  ∃ A n c k, v = .slice A n c ∧ n = s.length + k ∧ n ≤ 64 ∧ Own wr 5 1 A n c (u8s (s ++ zeros k)) ∧ Chg NoB w0 wr ∧ (∀ g, blkOf A = some g → w0.heap.size ≤ g)
theorem zeros_succ (k : Nat) : zeros (k + 1) = zeros k ++ [0] := by simp [zeros, List.replicate_succ']
theorem FillR.step {w0 : World} {s : List UInt8} {A : Option Addr} {n k : Nat} {wr w2 : World} {A' : Option Addr} {c' : Nat} (h1 : n = s.length + k) (h2 : n < 64) (hc : Chg NoB w0 wr) (hb : ∀ g, blkOf A = some g → w0.heap.size ≤ g)
    {W : World} (hW : Chg NoB wr W) (ho : Own w2 5 1 A' (n + 1) c' (u8s (s ++ zeros k) ++ [.int .u8 0])) (hc2 : Chg (FA A) W w2) (hbb : blkOf A' = blkOf A ∨ blkOf A' = some W.heap.size) : FillR w0 s (.slice A' (n + 1) c') w2 := by
  refine ⟨A', n + 1, c', k + 1, rfl, by omega, by omega, ?_, ?_, ?_⟩
  · rw [zeros_succ, ← List.append_assoc, u8s_append]; exact ho
  · exact (hc.trans hW (fun _ _ h => h)).trans hc2 (fun i hi h => by have := hb i h; omega)
  · intro g hg
    rcases hbb with e | e
    · exact hb g (e ▸ hg)
    · have := hc.size; have := hW.size
      rw [hg] at e; injection e with e; omega

set_option maxHeartbeats 400000 in
theorem ref_fill (w : World) (s : ByteArray) (hs : s.size ≤ 64) :
    Calls Try.prog 20 #[.string s] w fun e w' => e = .returned (.string (str (fill s.data.toList))) ∧ Chg NoB w w' := by
  have hsl : s.data.toList.length = s.size := Array.length_toList
  have hsl' := hid hsl
  clear hsl
  have hmx : s.size ≤ maxLen := by unfold maxLen; omega
  go_enter Try.func20, Try.ntmps20
  go_wp2_with ((with_reducible refine wpList_to_bytes rfl (.tmp 4) _ _ 5 rfl rfl rfl rfl s rfl hmx ?_); intro g c w1 hg hG hc1)
  go_loopw [3] (fun v wr => FillR w s.data.toList v wr) (fun v _ => 64 - lenV v)
  case atStart =>
    refine ⟨_, _, _, 0, rfl, by rw [hsl'.out]; rfl, hs, ?_, hc1, ?_⟩
    · simpa [zeros] using hG
    · intro k hk
      have : g = k := by simpa [blkOf] using hk
      omega
  case round =>
    clear hG hc1 hg
    obtain ⟨A, n, c, k, rfl, h1, h2, ho, hc, hb⟩ := hrel
    have H1 := hid h1
    have HB := hid hb
    clear h1 hb
    by_cases hlt : n < 64
    · have t1 : decide ((n : Int) < 64) = true := decide_eq_true (by omega)
      have t2 : decide (n < 64) = true := decide_eq_true hlt
      have m1 : n + 1 ≤ maxLen := by unfold maxLen; omega
      have m2 : (n + 1) * 1 ≤ 140737488355328 := by omega
      go_wp2_with ((with_reducible refine wpList_append_all rfl (.tmp 9) (.tmp 10) _ _ rfl 5 (.int .u8 0) 1 1 rfl info_u8 rfl _ _ _ rfl _ (ho.alloc (.cells #[.int .u8 0] 5)) _ rfl 1 [.int .u8 0] ((Blk.new _ _ _).srcOf (e' := 5) rfl rfl (by simp [Value.oneCell'])) m1 m2 ?_); intro A' c' w2 ho2 hc2 hb2)
      go_roundw
      case rel => exact FillR.step H1.out hlt hc HB.out ((Chg.refl NoB wr).alloc _) ho2 hc2 hb2
      case measure => simp only [lenV]; omega
    · have t1 : decide ((n : Int) < 64) = false := decide_eq_false (by omega)
      have t2 : decide (n < 64) = false := decide_eq_false hlt
      have hcv := run_to_str (P := Try.prog) ho 50 9 5 Try.underlying50 Try.underlying5 Try.underlying9
      have e : s.data.toList ++ zeros k = fill s.data.toList := by
        have := H1.out
        unfold fill
        congr 2; omega
      rw [e] at hcv
      have HE := hid e
      clear e ho
      go_wp2
      go_ret
      exact ⟨rfl, hc⟩

theorem info_str : (Try.prog.info? 9).map (fun i => (i.zero, i.size, i.bytes)) = some (some (.string ⟨#[]⟩), 1, 16) := by kernel_rfl
/-- Texts as cells. -/
def strv (l : List UInt8) : Value := .string (str l)
def strs (l : List (List UInt8)) : List Value := l.map strv
theorem strs_length (l : List (List UInt8)) : (strs l).length = l.length := by simp [strs]
theorem strs_append (l m : List (List UInt8)) : strs (l ++ m) = strs l ++ strs m := by simp [strs]
theorem strs_one (l : List (List UInt8)) : ∀ v ∈ strs l, v.oneCell' = true := by
  intro v hv
  simp only [strs, List.mem_map] at hv
  obtain ⟨b, _, rfl⟩ := hv
  rfl

/-- The document's disk, as its cells have it. -/
def rdCells (A : Option Addr) (n c : Nat) (x : Dk) : Array Value := #[.slice A n c, .int .i64 x.cat, .int .i64 x.ctorn, .int .i64 x.since, .bool x.down, .int .i64 x.all]
theorem rd_cells {w : World} {b : Nat} {A : Option Addr} {n c : Nat} {x : Dk} (h : Blk w b (rdCells A n c x) 33) :
    w.cell? ⟨b, 0, none⟩ = some (.slice A n c) ∧ w.cell? ⟨b, 1, none⟩ = some (.int .i64 x.cat) ∧ w.cell? ⟨b, 2, none⟩ = some (.int .i64 x.ctorn) ∧ w.cell? ⟨b, 3, none⟩ = some (.int .i64 x.since) ∧
    w.cell? ⟨b, 4, none⟩ = some (.bool x.down) ∧ w.cell? ⟨b, 5, none⟩ = some (.int .i64 x.all) := ⟨h.cell 0, h.cell 1, h.cell 2, h.cell 3, h.cell 4, h.cell 5⟩
theorem rd_free {w : World} {b : Nat} {cs : Array Value} {T : TypeId} (h : Blk w b cs T) :
    w.frozen? ⟨b, 0, none⟩ = false ∧ w.frozen? ⟨b, 1, none⟩ = false ∧ w.frozen? ⟨b, 2, none⟩ = false ∧ w.frozen? ⟨b, 3, none⟩ = false ∧ w.frozen? ⟨b, 4, none⟩ = false ∧ w.frozen? ⟨b, 5, none⟩ = false := ⟨h.frozen 0, h.frozen 1, h.frozen 2, h.frozen 3, h.frozen 4, h.frozen 5⟩
def dk0 : Dk := ⟨[], 0, 0, 0, false, 0⟩
theorem fill_nil : fill [] = zeros 64 := by simp [fill]
/-- What the making's loop keeps: the disk's variable is at block d, the result's at block r. -/
def NewR (w0 : World) (r d : Nat) (i : Nat) (wr : World) : Prop :=
  ∃ A c, Blk wr d (rdCells A i c (Dk.new i)) 33 ∧ Blk wr r (rdCells none 0 0 dk0) 33 ∧ Own wr 9 1 A i c (strs (Dk.new i).secs) ∧ Chg NoB w0 wr ∧ w0.heap.size ≤ d ∧ w0.heap.size ≤ r ∧ r ≠ d ∧ (∀ g, blkOf A = some g → w0.heap.size ≤ g ∧ g ≠ d ∧ g ≠ r)

theorem new_succ (i : Nat) : strs (Dk.new (i + 1)).secs = strs (Dk.new i).secs ++ [strv (fill [])] := by
  simp only [Dk.new, List.replicate_succ', strs_append, fill_nil]
  rfl
theorem NewR.step {w0 : World} {r d i : Nat} {wr w1 w2 : World} {A A' : Option Addr} {c c' : Nat} {o : Obj} (hd : Blk wr d (rdCells A i c (Dk.new i)) 33) (hr : Blk wr r (rdCells none 0 0 dk0) 33) (hc : Chg NoB w0 wr)
    (q1 : w0.heap.size ≤ d) (q2 : w0.heap.size ≤ r) (q3 : r ≠ d) (hb : ∀ g, blkOf A = some g → w0.heap.size ≤ g ∧ g ≠ d ∧ g ≠ r) (hc1 : Chg NoB wr.drew w1) (ho2 : Own w2 9 1 A' (i + 1) c' (strs (Dk.new i).secs ++ [strv (fill [])]))
    (hc2 : Chg (FA A) (w1.alloc o) w2) (hb2 : blkOf A' = blkOf A ∨ blkOf A' = some (w1.alloc o).heap.size) : NewR w0 r d (i + 1) (w2.setCell ⟨d, 0, none⟩ (.slice A' (i + 1) c')) := by
  have s0 := hc.size
  have s1 : wr.heap.size ≤ w1.heap.size := hc1.size
  have d1 : d < wr.heap.size := hd.lt
  have r1 : r < wr.heap.size := hr.lt
  have nd : ¬ FA A d := fun e => (hb d e).2.1 rfl
  have nr : ¬ FA A r := fun e => (hb r e).2.2 rfl
  have hb' : ∀ g, blkOf A' = some g → w0.heap.size ≤ g ∧ g ≠ d ∧ g ≠ r := by
    intro g hg
    rcases hb2 with e | e
    · exact hb g (e ▸ hg)
    · rw [hg] at e; injection e with e
      simp only [World.size_alloc] at e
      exact ⟨by omega, by omega, by omega⟩
  refine ⟨A', c', ?_, ?_, ?_, ?_, q1, q2, q3, hb'⟩
  · have := (((hd.drew.keep hc1 not_false).alloc o).keep hc2 nd).set 0 (.slice A' (i + 1) c')
    exact this
  · exact (((hr.drew.keep hc1 not_false).alloc o).keep hc2 nr).setOther _ _ (fun e => q3 e)
  · rw [new_succ]; exact ho2.setOther _ _ (fun e => (hb' d e).2.1 rfl)
  · exact ((((hc.drew).trans hc1 (fun _ _ h => h)).alloc o).trans hc2 (fun k hk e => by have := (hb k e).1; omega)).setCell _ _ (fun h => by simp only at h; omega)

set_option maxRecDepth 100000 in
set_option maxHeartbeats 1000000 in
theorem ref_new (w : World) (n : Nat) (hn : n ≤ 4096) :
    Calls Try.prog 7 #[.int .i64 (n : Int)] w fun e w' => ∃ A c, e = .returned (.agg (rdCells A n c (Dk.new n))) ∧ Own w' 9 1 A n c (strs (Dk.new n).secs) ∧ Chg NoB w w' ∧ (∀ g, blkOf A = some g → w.heap.size ≤ g) := by
  go_enter Try.func7, Try.ntmps7
  go_wp2
  go_loopw [4] (fun v wr => ∃ i : Nat, v = .int .i64 i ∧ i ≤ n ∧ NewR w w.heap.size (w.heap.size + 1) i wr) (fun v _ => n - (intOf v).toNat)
  case atStart =>
    refine ⟨0, rfl, Nat.zero_le _, none, 0, Blk.new2 _ _ _ _, (Blk.new _ _ _).alloc _, Own.nil _ _ _, ((Chg.refl NoB w).alloc _).alloc _, by omega, by omega, by omega, ?_⟩
    intro g hg; simp [blkOf] at hg
  case round =>
    obtain ⟨i, rfl, hi, A, c, hd, hr, ho, hc, q1, q2, q3, hb⟩ := hrel
    have HB := hid hb
    clear hb
    by_cases hlt : i < n
    · have t1 : decide ((i : Int) < (n : Int)) = true := decide_eq_true (by omega)
      have t2 : decide (i < n) = true := decide_eq_true hlt
      have c0 : wr.cell? ⟨w.heap.size + 1, 0, none⟩ = some (.slice A i c) := hd.cell 0
      have m1 : i + 1 ≤ maxLen := by unfold maxLen; omega
      have m2 : (i + 1) * 16 ≤ 140737488355328 := by omega
      have f0 : wr.frozen? ⟨w.heap.size + 1, 0, none⟩ = false := hd.frozen 0
      have z0 : (⟨#[]⟩ : ByteArray).size ≤ 64 := by decide
      go_wp2_with fail
      go_region_law (first
          | (go_simp; go_at_call 20; refine (ref_fill _ ⟨#[]⟩ z0).mono ?_; rintro e w1 ⟨rfl, hc1⟩; have hk := hc1.held (v := .slice A i c) (p := ⟨w.heap.size + 1, 0, none⟩) ⟨c0, f0⟩ not_false; have k0 := hk.1; have k1 := hk.2; have k2 : w.heap.size + 1 < w1.heap.size := World.block_lt_of_cell? w1 _ k0; clear hk; simp only [])
          | (refine step_append_all rfl (.tmp 11) (.tmp 13) _ _ rfl 9 (.string ⟨#[]⟩) 1 16 rfl info_str rfl A i c rfl _ ((ho.drew.keep hc1 (fun _ _ => not_false)).alloc _) _ rfl 1 [strv (fill [])] ((Blk.new _ _ _).srcOf (e' := 9) rfl rfl (by simp [strv, Value.oneCell'])) m1 m2 ?_; intro A' c' w2 ho2 hc2 hb2; have hk := hc2.held (v := .slice A i c) (p := ⟨w.heap.size + 1, 0, none⟩) (((Chg.refl NoB w1).alloc _).held ⟨k0, k1⟩ not_false) (fun e => (HB.out _ e).2.1 rfl); have l0 := hk.1; have l1 := hk.2; clear hk))
      all_goals
        go_wp2
        go_roundw
        case rel => exact ⟨i + 1, by go_num, by omega, NewR.step hd hr hc q1 q2 q3 HB.out hc1 ho2 hc2 hb2⟩
        case measure => simp [intOf]; omega
    · have t1 : decide ((i : Int) < (n : Int)) = false := decide_eq_false (by omega)
      have t2 : decide (i < n) = false := decide_eq_false hlt
      obtain rfl : i = n := by omega
      obtain ⟨a0, a1, a2, a3, a4, a5⟩ := rd_cells hd
      obtain ⟨b0, b1, b2, b3, b4, b5⟩ := rd_cells hr
      obtain ⟨f0, f1, f2, f3, f4, f5⟩ := rd_free hr
      go_wp2
      have hR : Blk ((((((wr.setCell ⟨w.heap.size, 0, none⟩ (.slice A i c)).setCell ⟨w.heap.size, 1, none⟩ (.int .i64 (Dk.new i).cat)).setCell ⟨w.heap.size, 2, none⟩ (.int .i64 (Dk.new i).ctorn)).setCell ⟨w.heap.size, 3, none⟩ (.int .i64 (Dk.new i).since)).setCell ⟨w.heap.size, 4, none⟩ (.bool (Dk.new i).down)).setCell ⟨w.heap.size, 5, none⟩ (.int .i64 (Dk.new i).all)) w.heap.size (rdCells A i c (Dk.new i)) 33 :=
        (((((hr.set 0 _).set 1 _).set 2 _).set 3 _).set 4 _).set 5 _
      refine bodyPost_ret (results_cell_row (p := 2) (ty := 33) rfl _ _ w.heap.size _ _ _ _ rfl hR rfl rfl (by kernel_rfl)) rfl ⟨A, c, rfl, ?_, ?_, fun g hg => (HB.out g hg).1⟩
      · have k : ∀ {W : World} (o : Nat) (v : Value), Own W 9 1 A i c (strs (Dk.new i).secs) → Own (W.setCell ⟨w.heap.size, o, none⟩ v) 9 1 A i c (strs (Dk.new i).secs) := fun o v h => h.setOther _ _ (fun e => (HB.out _ e).2.2 rfl)
        exact k _ _ (k _ _ (k _ _ (k _ _ (k _ _ (k _ _ ho)))))
      · have k : ∀ {W : World} (o : Nat) (v : Value), Chg NoB w W → Chg NoB w (W.setCell ⟨w.heap.size, o, none⟩ v) := fun o v h => h.setCell _ _ (fun e => absurd e (Nat.lt_irrefl _))
        exact k _ _ (k _ _ (k _ _ (k _ _ (k _ _ (k _ _ hc)))))
end Go.Proofs.Ytjgkccmifomjnaa
