/- The law's walk: each round of calls answers as the document says. -/
import Derived.Test.YtjgkccmifomjnaaSecY
import Derived.Test.YtjgkccmifomjnaaSecU
import Derived.Deep.DeepCutAuto
import Derived.Deep.LoopGhost
import Derived.Deep.CutBlock
namespace Go.Proofs.Ytjgkccmifomjnaa
open Go.RowKit

set_option maxRecDepth 100000 in
set_option maxHeartbeats 1000000 in
theorem plays_easy (w : World) (A : Option Addr) (n c : Nat) (l : List Act) (size : Int) (h : ActsAt w A n l) (hn : n ≤ maxLen) (he : few l = false ∨ (300 < size ∧ size ≤ 4096)) :
    Calls Try.prog 3 #[.int .i64 size, .slice A n c] w fun e w' => e = .returned (.bool true) ∧ Chg NoB w w' := by
  by_cases hf : few l = false
  · have hF : ∀ W : World, ActsAt W A n l → Calls Try.prog 5 #[.slice A n c] W fun e w' => e = .returned (.bool false) ∧ W = w' := fun W hW => by
      have := few_any W A n c l hW hn
      rw [hf] at this; exact this
    clear he hf
    go_enter Try.func3, Try.ntmps3
    go_wp2_with (first
      | ((with_reducible (go_at_call 4; refine (awake_true _).mono ?_)); rintro e w1 ⟨rfl, hc1⟩; have hA1 := h.keep (hc1.below (Nat.le_refl _) (fun _ _ => not_false)))
      | ((with_reducible (go_at_call 5; refine (hF _ hA1).mono ?_)); rintro e w' ⟨rfl, rfl⟩))
    go_ret
    exact ⟨rfl, hc1⟩
  · have hf' : few l = true := by simpa using hf
    have hs := he.resolve_left hf
    have hF : ∀ W : World, ActsAt W A n l → Calls Try.prog 5 #[.slice A n c] W fun e w' => e = .returned (.bool true) ∧ W = w' := fun W hW => by
      have := few_any W A n c l hW hn
      rw [hf'] at this; exact this
    have s1 : decide (300 < size) = true := decide_eq_true hs.1
    have s2 : decide (size ≤ 4096) = true := decide_eq_true hs.2
    clear he hf hf' hs
    go_enter Try.func3, Try.ntmps3
    go_wp2_with (first
      | ((with_reducible (go_at_call 4; refine (awake_true _).mono ?_)); rintro e w1 ⟨rfl, hc1⟩; have hA1 := h.keep (hc1.below (Nat.le_refl _) (fun _ _ => not_false)))
      | ((with_reducible (go_at_call 5; refine (hF _ hA1).mono ?_)); rintro e w' ⟨rfl, rfl⟩))
    go_ret
    exact ⟨rfl, hc1⟩
set_option maxRecDepth 100000 in
set_option maxHeartbeats 1000000 in
theorem plays_out (w : World) (A : Option Addr) (n c : Nat) (l : List Act) (size : Int) (h : ActsAt w A n l) (hn : n ≤ maxLen) (hf : few l = true) (he : size < 1 ∨ 4096 < size) :
    Calls Try.prog 3 #[.int .i64 size, .slice A n c] w fun e w' => e = .returned (.bool true) ∧ Chg NoB w w' := by
  have hF : ∀ W : World, ActsAt W A n l → Calls Try.prog 5 #[.slice A n c] W fun e w' => e = .returned (.bool true) ∧ W = w' := fun W hW => by
    have := few_any W A n c l hW hn
    rw [hf] at this; exact this
  have hN : ∀ W : World, Calls Try.prog 6 #[.int .i64 size] W fun e w' => e = .returned (.tuple #[.pointer none, .int .i64 1]) ∧ W = w' := fun W => new_out W size he
  have tests : (decide (300 < size) = false ∧ decide (size < 1) = true) ∨ (decide (300 < size) = true ∧ decide (size ≤ 4096) = false ∧ decide (size < 1) = false ∧ decide (4096 < size) = true) := by
    rcases he with h | h
    · exact .inl ⟨decide_eq_false (by omega), decide_eq_true h⟩
    · exact .inr ⟨decide_eq_true (by omega), decide_eq_false (by omega), decide_eq_false (by omega), decide_eq_true h⟩
  clear he hf
  rcases tests with ⟨t1, t2⟩ | ⟨t1, t2, t3, t4⟩
  all_goals
    go_enter Try.func3, Try.ntmps3
    go_wp2_with (first
      | ((with_reducible (go_at_call 4; refine (awake_true _).mono ?_)); rintro e w1 ⟨rfl, hc1⟩; have hA1 := h.keep (hc1.below (Nat.le_refl _) (fun _ _ => not_false)))
      | ((with_reducible (go_at_call 5; refine (hF _ hA1).mono ?_)); rintro e w' ⟨rfl, rfl⟩)
      | ((with_reducible (go_at_call 6; refine (hN _).mono ?_)); rintro e w' ⟨rfl, rfl⟩))
    go_ret
    exact ⟨rfl, hc1⟩

/-- What holds at the head of each round. -/
structure LR (w0 : World) (size M i b D : Nat) (x : Dk) (A : Option Addr) (c : Nat) (wr : World) : Prop where
  disk : DiskAt wr b D x
  hm : Blk wr M (rdCells A size c x) 33
  ho : Own wr 9 1 A size c (strs x.secs)
  hc : Chg NoB w0 wr
  lb : w0.heap.size ≤ b
  lD : w0.heap.size ≤ D
  lM : w0.heap.size ≤ M
  bM : b ≠ M
  DM : D ≠ M
  hA : ∀ g, blkOf A = some g → w0.heap.size ≤ g ∧ g ≠ b ∧ g ≠ D ∧ g ≠ M
  sz : x.secs.length = size
  cat : 0 ≤ x.cat
  s0 : 0 ≤ x.since
  s1 : x.since ≤ (i : Int)

theorem LR.keep {w0 : World} {size M i b D : Nat} {x : Dk} {A : Option Addr} {c : Nat} {W W' : World} (h : LR w0 size M i b D x A c W) (hc : Chg NoB W W') : LR w0 size M i b D x A c W' :=
  ⟨h.disk.keep hc not_false not_false, h.hm.keep hc not_false, h.ho.keep hc (fun _ _ => not_false), h.hc.trans hc (fun _ _ e => e), h.lb, h.lD, h.lM, h.bM, h.DM, h.hA, h.sz, h.cat, h.s0, h.s1⟩
theorem LR.lts {w0 : World} {size M i b D : Nat} {x : Dk} {A : Option Addr} {c : Nat} {W : World} (h : LR w0 size M i b D x A c W) : b < W.heap.size ∧ D < W.heap.size ∧ M < W.heap.size ∧ w0.heap.size ≤ W.heap.size :=
  ⟨h.disk.lt.1, h.disk.lt.2, h.hm.lt, h.hc.size⟩
theorem LR.next {w0 : World} {size M i b D : Nat} {x : Dk} {A : Option Addr} {c : Nat} {W : World} (h : LR w0 size M i b D x A c W) : LR w0 size M (i + 1) b D x A c W :=
  ⟨h.disk, h.hm, h.ho, h.hc, h.lb, h.lD, h.lM, h.bM, h.DM, h.hA, h.sz, h.cat, h.s0, by have := h.s1; omega⟩
/-- What the disk does changes nothing of the document's. -/
theorem LR.disk' {w0 : World} {size M i b D : Nat} {x : Dk} {A : Option Addr} {c : Nat} {W W' : World} (h : LR w0 size M i b D x A c W) (hc : Chg (F2 b D) W W') :
    Blk W' M (rdCells A size c x) 33 ∧ Own W' 9 1 A size c (strs x.secs) ∧ Chg NoB w0 W' :=
  ⟨h.hm.keep hc (fun e => Or.elim e (fun e => h.bM e.symm) (fun e => h.DM e.symm)), h.ho.keep hc (fun g hg e => Or.elim e (fun e => (h.hA g hg).2.1 e) (fun e => (h.hA g hg).2.2.1 e)),
   h.hc.trans hc (fun k hk e => by have := h.lb; have := h.lD; rcases e with e | e <;> omega)⟩
theorem write_inv (x : Dk) (i : Int) (s : List UInt8) (h0 : 0 ≤ x.cat) (h1 : 0 ≤ x.since) (h2 : x.since < 1000000) :
    (x.write i s).1.secs.length = x.secs.length ∧ 0 ≤ (x.write i s).1.cat ∧ 0 ≤ (x.write i s).1.since ∧ (x.write i s).1.since ≤ x.since + 1 := by
  have hw : wrap64 (x.since + 1) = x.since + 1 := by unfold wrap64; omega
  unfold Dk.write
  split
  · exact ⟨rfl, h0, h1, by show x.since ≤ x.since + 1; omega⟩
  split
  · exact ⟨rfl, h0, h1, by show x.since ≤ x.since + 1; omega⟩
  split
  · exact ⟨rfl, h0, h1, by show x.since ≤ x.since + 1; omega⟩
  split
  · simp only [Dk.step, Dk.put, Dk.cutOff, List.length_set, hw]; exact ⟨trivial, by omega, by omega, by omega⟩
  · simp only [Dk.step, Dk.put, List.length_set, hw]; exact ⟨trivial, by omega, by omega, by omega⟩
/-- The document's write, in a round. -/
theorem rd_write (w0 : World) (size M i b D : Nat) (x : Dk) (A : Option Addr) (c : Nat) (W : World) (h : LR w0 size M i b D x A c W) (hi : i ≤ 200) (hs : size ≤ 300) (at_ : Int) (s : ByteArray) :
    Calls Try.prog 8 #[.agg #[.slice A size c, .int .i64 x.cat, .int .i64 x.ctorn, .int .i64 x.since, .bool x.down, .int .i64 x.all], .int .i64 at_, .string s] W fun e w' =>
      ∃ A1 c1, e = .returned (.tuple #[.agg #[.slice A1 size c1, .int .i64 (x.write at_ s.data.toList).1.cat, .int .i64 (x.write at_ s.data.toList).1.ctorn, .int .i64 (x.write at_ s.data.toList).1.since, .bool (x.write at_ s.data.toList).1.down, .int .i64 (x.write at_ s.data.toList).1.all], .int .i64 (x.write at_ s.data.toList).2]) ∧
        Own w' 9 1 A1 size c1 (strs (x.write at_ s.data.toList).1.secs) ∧ Chg NoB W w' ∧ (∀ g, blkOf A1 = some g → g < w'.heap.size ∧ w0.heap.size ≤ g ∧ g ≠ b ∧ g ≠ D ∧ g ≠ M) := by
  have h1 := h.s1
  refine (ref_write W A size c x at_ s h.ho h.sz (by omega) h.disk.len h.cat h.s0 (by omega)).mono ?_
  rintro e w' ⟨A1, c1, rfl, ho, hc, hA⟩
  refine ⟨A1, c1, rfl, ho, hc, fun g hg => ?_⟩
  obtain ⟨l1, l2, l3, l4⟩ := h.lts
  rcases (hA g hg).2 with e | e
  · exact ⟨(hA g hg).1, h.hA g e⟩
  · exact ⟨(hA g hg).1, by omega, by omega, by omega, by omega⟩
theorem rd_read (W : World) (size : Nat) (x : Dk) (A : Option Addr) (c : Nat) (ho : Own W 9 1 A size c (strs x.secs)) (hs : x.secs.length = size) (at_ : Int) :
    Calls Try.prog 11 #[.agg #[.slice A size c, .int .i64 x.cat, .int .i64 x.ctorn, .int .i64 x.since, .bool x.down, .int .i64 x.all], .int .i64 at_] W fun e w' =>
      e = .returned (.tuple #[.string (str (x.read at_).1), .int .i64 (x.read at_).2]) ∧ Chg NoB W w' := ref_read W A size c x at_ ho hs
theorem rd_arm (W : World) (size : Nat) (x : Dk) (A : Option Addr) (c : Nat) (at_ torn : Int) :
    Calls Try.prog 13 #[.agg #[.slice A size c, .int .i64 x.cat, .int .i64 x.ctorn, .int .i64 x.since, .bool x.down, .int .i64 x.all], .agg #[.int .i64 at_, .int .i64 torn]] W fun e w' =>
      e = .returned (.agg #[.slice A size c, .int .i64 (x.arm at_ torn).cat, .int .i64 (x.arm at_ torn).ctorn, .int .i64 (x.arm at_ torn).since, .bool (x.arm at_ torn).down, .int .i64 (x.arm at_ torn).all]) ∧ Chg NoB W w' := ref_arm W A size c x at_ torn
theorem rd_start (W : World) (size : Nat) (x : Dk) (A : Option Addr) (c : Nat) :
    Calls Try.prog 15 #[.agg #[.slice A size c, .int .i64 x.cat, .int .i64 x.ctorn, .int .i64 x.since, .bool x.down, .int .i64 x.all]] W fun e w' =>
      e = .returned (.agg #[.slice A size c, .int .i64 x.start.cat, .int .i64 x.start.ctorn, .int .i64 x.start.since, .bool x.start.down, .int .i64 x.start.all]) ∧ Chg NoB W w' := ref_start W A size c x
/-- The disk behind what was stored into the document's. -/
theorem LR.stored {w0 : World} {size M i b D : Nat} {x y : Dk} {A A1 : Option Addr} {c c1 : Nat} {W : World} (h : LR w0 size M i b D x A c W) (ho : Own W 9 1 A1 size c1 (strs y.secs)) (hA1 : ∀ g, blkOf A1 = some g → w0.heap.size ≤ g ∧ g ≠ b ∧ g ≠ D ∧ g ≠ M) :
    DiskAt (put6 W M A1 size c1 y) b D x ∧ Blk (put6 W M A1 size c1 y) M (rdCells A1 size c1 y) 33 ∧ Own (put6 W M A1 size c1 y) 9 1 A1 size c1 (strs y.secs) ∧ Chg NoB w0 (put6 W M A1 size c1 y) := by
  have hp : Chg (F1 M) W (put6 W M A1 size c1 y) := chg_put6 (Chg.refl (F1 M) W) F1.self A1 size c1 y
  exact ⟨h.disk.keep hp h.bM h.DM, blk_put6 h.hm A1 size c1 y, own_put6 ho (fun e => (hA1 M e).2.2.2 rfl) A1 size c1 y, h.hc.trans hp (fun k hk e => by have := h.lM; have e' : k = M := e; omega)⟩

theorem DiskAt.alloc {w : World} {b D : Nat} {x : Dk} (h : DiskAt w b D x) (o : Obj) : DiskAt (w.alloc o) b D x := h.keep ((Chg.refl NoB w).alloc o) not_false not_false
theorem DiskAt.drewN' {w : World} {b D : Nat} {x : Dk} (h : DiskAt w b D x) {n : Nat} : DiskAt (w.drewN n) b D x := by
  obtain ⟨cap, spare, k1, k2, hb, hD⟩ := h.ok
  exact ⟨h.ne, ⟨cap, spare, k1, k2, hb.drewN n, hD.drewN n⟩, h.len, h.size⟩
theorem disk_size' (w : World) (b D : Nat) (x : Dk) (size : Nat) (hs : x.secs.length = size) (h : DiskAt w b D x) :
    Calls Try.prog 19 #[.pointer (some ⟨b, 0, none⟩)] w fun e w' => e = .returned (.int .i64 (size : Int)) ∧ w' = w := by
  subst hs
  exact (disk_size w b D x h).mono (fun _ _ h => ⟨h.1, h.2.symm⟩)
/-- A round that leaves y on both sides. -/
theorem LR.mk' {w0 : World} {size M i b D : Nat} {x y : Dk} {A A1 : Option Addr} {c c1 : Nat} {W P W' : World} (h : LR w0 size M i b D x A c W)
    (hst : DiskAt P b D x ∧ Blk P M (rdCells A1 size c1 y) 33 ∧ Own P 9 1 A1 size c1 (strs y.secs) ∧ Chg NoB w0 P) (hd : DiskAt W' b D y) (hc : Chg (F2 b D) P W')
    (hA1 : ∀ g, blkOf A1 = some g → w0.heap.size ≤ g ∧ g ≠ b ∧ g ≠ D ∧ g ≠ M) (hy : y.secs.length = x.secs.length ∧ 0 ≤ y.cat ∧ 0 ≤ y.since ∧ y.since ≤ x.since + 1) : LR w0 size M (i + 1) b D y A1 c1 W' := by
  obtain ⟨_, k1, k2, k3⟩ := hst
  refine ⟨hd, k1.keep hc (fun e => Or.elim e (fun e => h.bM e.symm) (fun e => h.DM e.symm)), k2.keep hc (fun g hg e => Or.elim e (fun e => (hA1 g hg).2.1 e) (fun e => (hA1 g hg).2.2.1 e)), k3.trans hc (fun k hk e => ?_), h.lb, h.lD, h.lM, h.bM, h.DM, hA1, hy.1.trans h.sz, hy.2.1, hy.2.2.1, ?_⟩
  · have := h.lb; have := h.lD
    rcases e with e | e <;> omega
  · have := h.s1; have := hy.2.2.2
    omega

/-- A round in which both sides turn the cut, or the power. -/
theorem LR.both {w0 : World} {size M i b D : Nat} {x y : Dk} {A : Option Addr} {c : Nat} {W W5 W6 : World} (h : LR w0 size M i b D x A c W) (hd : DiskAt W5 b D y) (hc : Chg (F2 b D) W W5) (hc6 : Chg NoB W5 W6) (hy : y.secs = x.secs) (hy1 : 0 ≤ y.cat) (hy2 : y.since = 0) :
    LR w0 size M (i + 1) b D y A c (put6 W6 M A size c y) := by
  obtain ⟨k1, k2, k3⟩ := h.disk' hc
  have hp : Chg (F1 M) W6 (put6 W6 M A size c y) := chg_put6 (Chg.refl (F1 M) W6) F1.self A size c y
  refine ⟨(hd.keep hc6 not_false not_false).keep hp h.bM h.DM, blk_put6 (k1.keep hc6 not_false) A size c y, ?_, (k3.trans hc6 (fun _ _ e => e)).trans hp (fun k hk e => by have := h.lM; have e' : k = M := e; omega), h.lb, h.lD, h.lM, h.bM, h.DM, h.hA, by rw [hy]; exact h.sz, hy1, by omega, by omega⟩
  rw [hy]
  exact own_put6 (k2.keep hc6 (fun _ _ => not_false)) (fun e => (h.hA M e).2.2.2 rfl) A size c y
/-- A round that goes on with a copy. -/
theorem LR.copied {w0 : World} {size M i b D b' D' : Nat} {x : Dk} {A : Option Addr} {c : Nat} {W W5 W7 : World} (h : LR w0 size M i b D x A c W) (hb : W.heap.size ≤ b') (hD : W.heap.size ≤ D') (hd : DiskAt W5 b' D' x) (hc : Chg NoB W W5) (hc7 : Chg (F2 b D) W5 W7) :
    LR w0 size M (i + 1) b' D' x A c W7 := by
  obtain ⟨l1, l2, l3, l4⟩ := h.lts
  obtain ⟨k1, k2, k3⟩ := (h.keep hc).disk' hc7
  refine ⟨hd.keep hc7 (fun e => Or.elim e (fun e => by omega) (fun e => by omega)) (fun e => Or.elim e (fun e => by omega) (fun e => by omega)), k1, k2, k3, by omega, by omega, h.lM, by omega, by omega, fun g hg => ⟨(h.hA g hg).1, ?_, ?_, (h.hA g hg).2.2.2⟩, h.sz, h.cat, h.s0, by have := h.s1; omega⟩
  · have := h.ho.lt hg; omega
  · have := h.ho.lt hg; omega

set_option maxRecDepth 100000 in
set_option maxHeartbeats 1000000 in
theorem plays_main (w : World) (A : Option Addr) (n c : Nat) (l : List Act) (size : Nat) (h : ActsAt w A n l) (hn : n ≤ maxLen) (hf : few l = true) (h1 : 1 ≤ size) (h2 : size ≤ 300) :
    Calls Try.prog 3 #[.int .i64 (size : Int), .slice A n c] w fun e w' => e = .returned (.bool true) ∧ Chg NoB w w' := by
  have hF : ∀ W : World, ActsAt W A n l → Calls Try.prog 5 #[.slice A n c] W fun e w' => e = .returned (.bool true) ∧ W = w' := fun W hW => by
    have := few_any W A n c l hW hn
    rw [hf] at this; exact this
  have hN : ∀ W : World, Calls Try.prog 6 #[.int .i64 (size : Int)] W fun e w' => ∃ b D, e = .returned (.tuple #[.pointer (some ⟨b, 0, none⟩), .int .i64 0]) ∧ W.heap.size ≤ b ∧ W.heap.size ≤ D ∧ DiskAt w' b D (Dk.new size) ∧ Chg NoB W w' := fun W => disk_new W size h1 (by omega)
  have hR : ∀ W : World, Calls Try.prog 7 #[.int .i64 (size : Int)] W fun e w' => ∃ A c, e = .returned (.agg #[.slice A size c, .int .i64 0, .int .i64 0, .int .i64 0, .bool false, .int .i64 0]) ∧ Own w' 9 1 A size c (strs (Dk.new size).secs) ∧ Chg NoB W w' ∧ (∀ g, blkOf A = some g → W.heap.size ≤ g) := fun W => ref_new W size (by omega)
  have t1 : decide (300 < (size : Int)) = false := decide_eq_false (by omega)
  have t2 : decide ((size : Int) < 1) = false := decide_eq_false (by omega)
  have t3 : decide (4096 < (size : Int)) = false := decide_eq_false (by omega)
  have t4 : decide (300 < size) = false := decide_eq_false (by omega)
  have t5 : decide (4096 < size) = false := decide_eq_false (by omega)
  go_enter Try.func3, Try.ntmps3
  go_wp2_with (first
    | ((with_reducible (go_at_call 4; refine (awake_true _).mono ?_)); rintro e w1 ⟨rfl, hc1⟩; have hA1 := h.keep (hc1.below (Nat.le_refl _) (fun _ _ => not_false)))
    | ((with_reducible (go_at_call 5; refine (hF _ hA1).mono ?_)); rintro e w' ⟨rfl, rfl⟩)
    | ((with_reducible (go_at_call 6; refine (hN _).mono ?_)); rintro e w2 ⟨b, D, rfl, hb, hD, hd2, hc2⟩)
    | ((with_reducible (go_at_call 7; refine (hR _).mono ?_)); rintro e w3 ⟨A3, c3, rfl, ho3, hc3, hb3⟩))
  have hL0 : LR w size w3.heap.size 0 b D (Dk.new size) A3 c3 (w3.alloc (.cells #[.slice A3 size c3, .int .i64 0, .int .i64 0, .int .i64 0, .bool false, .int .i64 0] 33)) := by
    have e1 := hc1.size
    have e2 := hc2.size
    have e3 := hc3.size
    have d3 := hd2.keep hc3 not_false not_false
    have := d3.lt
    refine ⟨d3.keep ((Chg.refl NoB w3).alloc _) not_false not_false, Blk.new _ _ _, ho3.alloc _, (((hc1.trans hc2 (fun _ _ e => e)).trans hc3 (fun _ _ e => e)).alloc _), by omega, by omega, by omega, by omega, by omega, ?_, by simp [Dk.new], by simp [Dk.new], by simp [Dk.new], by simp [Dk.new]⟩
    intro g hg
    have g1 := hb3 g hg
    have g2 := ho3.lt hg
    have := hd2.lt
    exact ⟨by omega, by omega, by omega, by omega⟩
  generalize w3.heap.size = M at hL0 ⊢
  generalize World.alloc w3 _ = w4 at hL0 ⊢
  clear hb3 ho3 hc3 hd2 hb hD hc2 hc1 hA1 hF hN hR
  have hl200 : n ≤ 200 := by
    unfold few at hf
    have := (of_decide_eq_true hf).1
    rw [h.1] at this; exact this
  have HA := hid h
  clear h hf
  go_loopg [5, 8] n (fun kq v5 v8 wr => ∃ (i b D : Nat) (x : Dk) (A' : Option Addr) (c' : Nat), v8 = .int .i64 i ∧ i + kq = n ∧ v5 = .pointer (some ⟨b, 0, none⟩) ∧ LR w size M i b D x A' c' wr)
  case atStart => exact ⟨0, b, D, _, A3, c3, rfl, by omega, rfl, hL0⟩
  case round =>
    clear hL0
    obtain ⟨i, b, D, x, A', c', rfl, hi, rfl, hL⟩ := hrel
    cases gk with
    | zero =>
      obtain rfl : i = n := by omega
      have u1 : decide ((i : Int) < (i : Int)) = false := decide_eq_false (by omega)
      have hL' := hid hL
      have lL := hL.lts
      clear hL
      go_wp2_with ((with_reducible (go_at_call 14; refine (disk_start wr b D x hL'.out.disk).mono ?_)); rintro e w5 ⟨rfl, hd5, hc5⟩; obtain ⟨hm5, ho5, hq5⟩ := hL'.out.disk' hc5)
      have hm0 := (rd_cells hm5).1
      have hsz := hid (show x.start.secs.length = size from hL'.out.sz)
      have hst : Hid (x.start.down = false) := hid rfl
      obtain ⟨g, rfl, hg⟩ := ho5.addr (by omega)
      go_loop [17] (fun v => ∃ j : Nat, v = .int .i64 j ∧ j ≤ size) (fun v => size - (intOf v).toNat)
      case atStart => exact ⟨0, rfl, Nat.zero_le _⟩
      case round =>
        obtain ⟨j, rfl, hj⟩ := hrel
        by_cases hlt : j < size
        · have v1 : decide ((j : Int) < (size : Int)) = true := decide_eq_true (by omega)
          have v2 : decide (j < size) = true := decide_eq_true hlt
          have v3 : (j : Int) < (size : Int) := by omega
          have v4 : (0 : Int) ≤ (j : Int) := by omega
          have hjl : j < x.secs.length := by rw [hL'.out.sz]; exact hlt
          obtain ⟨s, hs⟩ : ∃ s, x.secs[j]? = some s := ⟨x.secs[j], List.getElem?_eq_getElem hjl⟩
          have hcell : w5.cell? ⟨g, j, none⟩ = some (.string (str s)) := ho5.cell rfl j _ (by rw [strs, List.getElem?_map, hs]; rfl)
          have hread : Hid (x.start.read (j : Int) = (s, 0)) := hid (by
            unfold Dk.read
            rw [if_neg (by rw [hst.out]; simp), if_neg (by rw [hsz.out]; omega)]
            have : x.start.secs.getD ((j : Int)).toNat [] = s := by
              show x.secs.getD _ _ = s
              rw [Int.toNat_natCast, List.getD_eq_getElem?_getD, hs]; rfl
            rw [this])
          have hcall : Calls Try.prog 10 #[.pointer (some ⟨b, 0, none⟩), .int .i64 (j : Int)] w5 fun e w' => e = .returned (.tuple #[.string (str s), .int .i64 0]) ∧ w5 = w' := by
            have := disk_read w5 b D x.start j hd5
            rw [hread.out] at this; exact this
          clear hs hjl
          go_wp2_with ((with_reducible (go_at_call 10; refine hcall.mono ?_)); rintro e w' ⟨rfl, rfl⟩)
          go_round
          case rel => exact ⟨j + 1, by go_num, by omega⟩
          case measure => simp [intOf]; omega
        · have v1 : decide ((j : Int) < (size : Int)) = false := decide_eq_false (by omega)
          have v2 : decide (j < size) = false := decide_eq_false hlt
          go_wp2
          go_ret
          exact ⟨rfl, hq5⟩
    | succ k =>
      have hin : i < n := by omega
      have u1 : decide ((i : Int) < (n : Int)) = true := decide_eq_true (by omega)
      have u2 : decide (i < n) = true := decide_eq_true hin
      obtain ⟨ab, ao, rfl, hab, hcells⟩ := (HA.out.keep (hL.hc.below (Nat.le_refl _) (fun _ _ => not_false))).2.2 (by omega)
      have hil : i < l.length := by rw [HA.out.1]; exact hin
      obtain ⟨a, ha⟩ : ∃ a, l[i]? = some a := ⟨l[i], List.getElem?_eq_getElem hil⟩
      obtain ⟨k0, k1, k2, k3, k4⟩ := hcells i a ha
      have HX := hid ha
      clear ha hcells hil
      go_upto_block 2 with fail
      have hL1 := hL.keep ((Chg.refl NoB wr).alloc (.cells #[.int .i64 a.kind, .int .i64 a.at_, .string a.data, .int .i64 a.cat, .int .i64 a.torn] 36))
      have hB := Blk.new wr #[.int .i64 a.kind, .int .i64 a.at_, .string a.data, .int .i64 a.cat, .int .i64 a.torn] 36
      have hl := hL.lts
      generalize hab2 : wr.heap.size = a2 at hB hl ⊢
      have aM : a2 ≠ M := by omega
      have aB : a2 ≠ b := by omega
      have aD : a2 ≠ D := by omega
      clear hab2
      generalize World.alloc wr _ = W at hL1 hB ⊢
      have HB := hid hB
      have HL := hid hL1
      clear hB hL1 hL k0 k1 k2 k3 k4 hab hl
      obtain ⟨kd, at_, data, ca, ct⟩ := a
      simp only at HB
      go_cut [5] (fun v5 wc => ∃ (b' D' : Nat) (x' : Dk) (A2 : Option Addr) (c2 : Nat), v5 = .pointer (some ⟨b', 0, none⟩) ∧ LR w size M (i + 1) b' D' x' A2 c2 wc)
      case first =>
        have p0 : W.cell? ⟨a2, 0, none⟩ = some (.int .i64 kd) := HB.out.cell 0
        have p1 : W.cell? ⟨a2, 1, none⟩ = some (.int .i64 at_) := HB.out.cell 1
        have p2 : W.cell? ⟨a2, 2, none⟩ = some (.string data) := HB.out.cell 2
        have p3 : W.cell? ⟨a2, 3, none⟩ = some (.int .i64 ca) := HB.out.cell 3
        have p4 : W.cell? ⟨a2, 4, none⟩ = some (.int .i64 ct) := HB.out.cell 4
        obtain ⟨m0, m1, m2, m3, m4, m5⟩ := rd_cells HL.out.hm
        obtain ⟨f0, f1, f2, f3, f4, f5⟩ := rd_free HL.out.hm
        by_cases h0 : kd = 0
        · subst h0
          go_wp2_with (first
            | ((with_reducible (go_at_call 8; refine (rd_write w size M i b D x A' c' W HL.out (by omega) h2 at_ data).mono ?_)); rintro e w5 ⟨A5, c5, rfl, ho5, hc5, hA5⟩; have hL5 := HL.out.keep hc5; have hB5 := HB.out.keep hc5 not_false; have q1 : w5.cell? ⟨a2, 1, none⟩ = some (.int .i64 at_) := hB5.cell 1; have q2 : w5.cell? ⟨a2, 2, none⟩ = some (.string data) := hB5.cell 2; obtain ⟨n0, n1, n2, n3, n4, n5⟩ := rd_cells hL5.hm; obtain ⟨g0, g1, g2, g3, g4, g5⟩ := rd_free hL5.hm; have lM5 := hL5.hm.lt; have lB5 := hB5.lt; have HL5 := hid hL5; have HST := hid (hL5.stored ho5 (fun g hg => (hA5 g hg).2)); clear hL5 hB5)
            | ((with_reducible (go_at_call 9; refine (disk_write _ b D x at_ data (DiskAt.alloc HST.out.1 _)).mono ?_)); rintro e w6 ⟨rfl, hd6, hc6⟩))
          go_meet
          exact ⟨b, D, _, A5, c5, rfl, HL5.out.mk' HST.out hd6 (((Chg.refl (F2 b D) _).alloc _).trans hc6 (fun _ _ e => e)) (fun g hg => (hA5 g hg).2) (write_inv x at_ _ HL5.out.cat HL5.out.s0 (by have := HL5.out.s1; omega))⟩
        by_cases h1 : kd = 1
        · subst h1
          have hl := HL.out.lts
          go_wp2_with (first
            | ((with_reducible (go_at_call 10; refine (disk_read W b D x at_ HL.out.disk).mono ?_)); rintro e w' ⟨rfl, rfl⟩)
            | ((with_reducible (go_at_call 11; refine (rd_read W size x A' c' HL.out.ho HL.out.sz at_).mono ?_)); rintro e w5 ⟨rfl, hc5⟩))
          go_meet
          exact ⟨b, D, x, A', c', rfl, (HL.out.keep hc5).next⟩
        by_cases h2 : kd = 2
        · subst h2
          go_wp2_with (first
            | ((with_reducible (go_at_call 12; refine (disk_arm W b D x ca ct HL.out.disk).mono ?_)); rintro e w5 ⟨rfl, hd5, hc5⟩; obtain ⟨hm5, ho5, hq5⟩ := HL.out.disk' hc5; have hB5 := HB.out.keep hc5 (fun e => Or.elim e aB aD); have q3 : w5.cell? ⟨a2, 3, none⟩ = some (.int .i64 ca) := hB5.cell 3; have q4 : w5.cell? ⟨a2, 4, none⟩ = some (.int .i64 ct) := hB5.cell 4; obtain ⟨n0, n1, n2, n3, n4, n5⟩ := rd_cells hm5)
            | ((with_reducible (go_at_call 13; refine (rd_arm _ size x A' c' ca ct).mono ?_)); rintro e w6 ⟨rfl, hc6⟩; have hm6 := hm5.keep hc6 not_false; obtain ⟨o0, o1, o2, o3, o4, o5⟩ := rd_cells hm6; obtain ⟨z0, z1, z2, z3, z4, z5⟩ := rd_free hm6))
          go_meet
          exact ⟨b, D, x.arm ca ct, A', c', rfl, HL.out.both hd5 hc5 hc6 rfl (by unfold Dk.arm; simp only; split <;> omega) rfl⟩
        by_cases h3 : kd = 3
        · subst h3
          go_wp2_with (first
            | ((with_reducible (go_at_call 14; refine (disk_start W b D x HL.out.disk).mono ?_)); rintro e w5 ⟨rfl, hd5, hc5⟩; obtain ⟨hm5, ho5, hq5⟩ := HL.out.disk' hc5; obtain ⟨n0, n1, n2, n3, n4, n5⟩ := rd_cells hm5)
            | ((with_reducible (go_at_call 15; refine (rd_start _ size x A' c').mono ?_)); rintro e w6 ⟨rfl, hc6⟩; have hm6 := hm5.keep hc6 not_false; obtain ⟨o0, o1, o2, o3, o4, o5⟩ := rd_cells hm6; obtain ⟨z0, z1, z2, z3, z4, z5⟩ := rd_free hm6))
          go_meet
          exact ⟨b, D, x.start, A', c', rfl, HL.out.both hd5 hc5 hc6 rfl HL.out.cat rfl⟩
        by_cases h4 : kd = 4
        · subst h4
          go_wp2_with (first
            | ((with_reducible (go_at_call 16; refine (copy_any W b D x HL.out.disk).mono ?_)); rintro e w5 ⟨b5, D5, rfl, hb5, hD5, hd5, hc5⟩; have HL5 := hid (HL.out.keep hc5))
            | ((with_reducible (go_at_call 14; refine (disk_start w5 b D x HL5.out.disk).mono ?_)); rintro e w6 ⟨rfl, hd6, hc6⟩)
            | ((with_reducible (go_at_call 9; refine (disk_write w6 b D x.start 0 ⟨#[111, 116, 104, 101, 114]⟩ hd6).mono ?_)); rintro e w7 ⟨rfl, hd7, hc7⟩))
          go_meet
          exact ⟨b5, D5, x, A', c', rfl, HL.out.copied hb5 hD5 hd5 hc5 (hc6.trans hc7 (fun _ _ e => e))⟩
        have e0 : (kd == 0) = false := by simpa using h0
        have e1 : (kd == 1) = false := by simpa using h1
        have e2 : (kd == 2) = false := by simpa using h2
        have e3 : (kd == 3) = false := by simpa using h3
        have e4 : (kd == 4) = false := by simpa using h4
        clear h0 h1 h2 h3 h4
        go_wp2
        go_meet
        exact ⟨b, D, x, A', c', rfl, HL.out.next⟩
      case rest =>
        obtain ⟨b', D', x', A2, c2, rfl, hR⟩ := hcut
        obtain ⟨m0, m1, m2, m3, m4, m5⟩ := rd_cells hR.hm
        have hR' := hid hR
        clear hR
        go_wp2_with fail
        go_quiet ((first
          | (go_at_call 17; exact Calls.quiet_of_same ((disk_down _ b' D' x' hR'.out.disk.drewN').mono (fun _ _ h => ⟨h.1, h.2.symm⟩)))
          | (go_at_call 18; exact Calls.quiet_of_same ((disk_writes _ b' D' x' hR'.out.disk.drewN').mono (fun _ _ h => ⟨h.1, h.2.symm⟩)))
          | (go_at_call 19; exact Calls.quiet_of_same (disk_size' _ b' D' x' size hR'.out.sz hR'.out.disk.drewN'))))
        go_wp2
        go_roundg k
        case measure => omega
        case rel => exact ⟨i + 1, b', D', x', A2, c2, by go_num, by omega, rfl, hR'.out.keep ((Chg.refl NoB _).drewN _)⟩

theorem plays_walk (size : Int) (A : Option Addr) (n c : Nat) (l : List Act) (w : World) (h : ActsAt w A n l) (hn : n ≤ maxLen) :
    Calls Try.prog 3 #[.int .i64 size, .slice A n c] w fun e w' => e = .returned (.bool true) ∧ Below w.heap.size w w' := by
  have fin : (Calls Try.prog 3 #[.int .i64 size, .slice A n c] w fun e w' => e = .returned (.bool true) ∧ Chg NoB w w') →
      Calls Try.prog 3 #[.int .i64 size, .slice A n c] w fun e w' => e = .returned (.bool true) ∧ Below w.heap.size w w' :=
    fun k => k.mono (fun _ _ h => ⟨h.1, h.2.below (Nat.le_refl _) (fun _ _ => not_false)⟩)
  refine fin ?_
  by_cases hf : few l = false
  · exact plays_easy w A n c l size h hn (.inl hf)
  · have hf' : few l = true := by simpa using hf
    by_cases h1 : 300 < size ∧ size ≤ 4096
    · exact plays_easy w A n c l size h hn (.inr h1)
    · by_cases h2 : size < 1 ∨ 4096 < size
      · exact plays_out w A n c l size h hn hf' h2
      · obtain ⟨k, rfl⟩ : ∃ k : Nat, size = (k : Int) := ⟨size.toNat, by omega⟩
        exact plays_main w A n c l k h hn hf' (by omega) (by omega)
end Go.Proofs.Ytjgkccmifomjnaa
