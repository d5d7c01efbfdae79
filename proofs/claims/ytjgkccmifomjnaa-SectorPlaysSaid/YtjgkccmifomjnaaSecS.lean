/- Contracts of the document's own sectors (its reference): what each call answers, by a walk. -/
import Derived.Test.YtjgkccmifomjnaaSecR
namespace Go.Proofs.Ytjgkccmifomjnaa
open Go.RowKit

/-- Six cells stored. -/
abbrev put6 (w : World) (r : Nat) (A : Option Addr) (n c : Nat) (x : Dk) : World :=
  (((((w.setCell ⟨r, 0, none⟩ (.slice A n c)).setCell ⟨r, 1, none⟩ (.int .i64 x.cat)).setCell ⟨r, 2, none⟩ (.int .i64 x.ctorn)).setCell ⟨r, 3, none⟩ (.int .i64 x.since)).setCell ⟨r, 4, none⟩ (.bool x.down)).setCell ⟨r, 5, none⟩ (.int .i64 x.all)
theorem blk_put6 {w : World} {r : Nat} {A0 : Option Addr} {n0 c0 : Nat} {x0 : Dk} {T : TypeId} (h : Blk w r (rdCells A0 n0 c0 x0) T) (A : Option Addr) (n c : Nat) (x : Dk) : Blk (put6 w r A n c x) r (rdCells A n c x) T :=
  (((((h.set 0 _).set 1 _).set 2 _).set 3 _).set 4 _).set 5 _
theorem own_put6 {w : World} {r : Nat} {e : TypeId} {size : Nat} {A0 : Option Addr} {n0 c0 : Nat} {xs : List Value} (h : Own w e size A0 n0 c0 xs) (hne : blkOf A0 ≠ some r) (A : Option Addr) (n c : Nat) (x : Dk) : Own (put6 w r A n c x) e size A0 n0 c0 xs := by
  have k : ∀ {W : World} (o : Nat) (v : Value), Own W e size A0 n0 c0 xs → Own (W.setCell ⟨r, o, none⟩ v) e size A0 n0 c0 xs := fun o v h => h.setOther _ _ hne
  exact k _ _ (k _ _ (k _ _ (k _ _ (k _ _ (k _ _ h)))))
theorem chg_put6 {F : Nat → Prop} {w0 w : World} (h : Chg F w0 w) {r : Nat} (hF : r < w0.heap.size → F r) (A : Option Addr) (n c : Nat) (x : Dk) : Chg F w0 (put6 w r A n c x) := by
  have k : ∀ {W : World} (o : Nat) (v : Value), Chg F w0 W → Chg F w0 (W.setCell ⟨r, o, none⟩ v) := fun o v h => h.setCell _ _ hF
  exact k _ _ (k _ _ (k _ _ (k _ _ (k _ _ (k _ _ h)))))

theorem res_put6 {fn : Func} (hres : fn.results = #[.cell 6 33, .tmp 7]) {tmps : Array Value} {W : World} {r : Nat} {cs : Array Value} {code : Value} (h6 : tmps.getD 6 undef = .pointer (some ⟨r, 0, none⟩)) (h7 : tmps.getD 7 undef = code)
    (hb : Blk W r cs 33) (hs : cs.size = 6) : (results fn tmps).run Try.prog W = .ok (.tuple #[.agg cs, code]) W := by
  have hl := run_loadVar_row (P := Try.prog) W r 33 33 cs (0, 0) _ hb rfl rfl (by rw [hs]; kernel_rfl)
  have h6' : tmps[6]?.getD undef = .pointer (some ⟨r, 0, none⟩) := by simpa using h6
  have h7' : tmps[7]?.getD undef = code := by simpa using h7
  simp [results, hres, h6', h7', asAddr, hl]

/-- What a call leaves of the document's disk. -/
def RefW (w : World) (A0 : Option Addr) (n : Nat) (y : Dk × Int) (e : Ending) (w' : World) : Prop :=
  ∃ A c, e = .returned (.tuple #[.agg (rdCells A n c y.1), .int .i64 y.2]) ∧ Own w' 9 1 A n c (strs y.1.secs) ∧ Chg NoB w w' ∧ (∀ g, blkOf A = some g → g < w'.heap.size ∧ (blkOf A0 = some g ∨ w.heap.size ≤ g))

theorem RefW.two {w : World} {A : Option Addr} {n c : Nat} {y : Dk × Int} (ho : Own w 9 1 A n c (strs y.1.secs)) (o1 o2 : Obj) : RefW w A n y (.returned (.tuple #[.agg (rdCells A n c y.1), .int .i64 y.2])) ((w.alloc o1).alloc o2) :=
  ⟨A, c, rfl, (ho.alloc _).alloc _, ((Chg.refl NoB w).alloc _).alloc _, fun _ hg => ⟨((ho.alloc _).alloc _).lt hg, .inl hg⟩⟩
set_option maxHeartbeats 400000 in
theorem refw_down (w : World) (A : Option Addr) (n c : Nat) (x : Dk) (i : Int) (s : ByteArray) (ho : Own w 9 1 A n c (strs x.secs)) (hd : x.down = true) :
    Calls Try.prog 8 #[.agg (rdCells A n c x), .int .i64 i, .string s] w (RefW w A n (x, 6)) := by
  obtain ⟨secs, cat, ctorn, since, down, all⟩ := x
  simp only at hd ho
  subst hd
  unfold rdCells
  simp only
  go_enter Try.func8, Try.ntmps8
  go_wp2
  refine bodyPost_ret (v := .tuple #[.agg (rdCells A n c ⟨secs, cat, ctorn, since, true, all⟩), .int .i64 6]) ?_ rfl ?_
  · exact res_put6 rfl rfl rfl (Blk.new2 _ _ _ _) rfl
  · exact RefW.two (y := (⟨secs, cat, ctorn, since, true, all⟩, 6)) ho _ _
set_option maxHeartbeats 400000 in
theorem refw_out (w : World) (A : Option Addr) (n c : Nat) (x : Dk) (i : Int) (s : ByteArray) (ho : Own w 9 1 A n c (strs x.secs)) (hd : x.down = false) (hi : i < 0 ∨ (n : Int) ≤ i) :
    Calls Try.prog 8 #[.agg (rdCells A n c x), .int .i64 i, .string s] w (RefW w A n (x, 1)) := by
  obtain ⟨secs, cat, ctorn, since, down, all⟩ := x
  simp only at hd ho
  subst hd
  unfold rdCells
  simp only
  by_cases h0 : i < 0
  · have hb : decide (i < 0) = true := decide_eq_true h0
    clear hi
    go_enter Try.func8, Try.ntmps8
    go_wp2
    refine bodyPost_ret (v := .tuple #[.agg (rdCells A n c ⟨secs, cat, ctorn, since, false, all⟩), .int .i64 1]) ?_ rfl ?_
    · exact res_put6 rfl rfl rfl (Blk.new2 _ _ _ _) rfl
    · exact RefW.two (y := (⟨secs, cat, ctorn, since, false, all⟩, 1)) ho _ _
  · have hb : decide (i < 0) = false := decide_eq_false h0
    have h1 : (n : Int) ≤ i := by omega
    have hb1 : decide ((n : Int) ≤ i) = true := decide_eq_true h1
    clear hi
    go_enter Try.func8, Try.ntmps8
    go_wp2
    refine bodyPost_ret (v := .tuple #[.agg (rdCells A n c ⟨secs, cat, ctorn, since, false, all⟩), .int .i64 1]) ?_ rfl ?_
    · exact res_put6 rfl rfl rfl (Blk.new2 _ _ _ _) rfl
    · exact RefW.two (y := (⟨secs, cat, ctorn, since, false, all⟩, 1)) ho _ _
set_option maxHeartbeats 400000 in
theorem refw_long (w : World) (A : Option Addr) (n c : Nat) (x : Dk) (i : Nat) (s : ByteArray) (ho : Own w 9 1 A n c (strs x.secs)) (hd : x.down = false) (hi : i < n) (hs : 64 < s.size) :
    Calls Try.prog 8 #[.agg (rdCells A n c x), .int .i64 (i : Int), .string s] w (RefW w A n (x, 3)) := by
  obtain ⟨secs, cat, ctorn, since, down, all⟩ := x
  simp only at hd ho
  subst hd
  unfold rdCells
  simp only
  have hb : decide ((i : Int) < 0) = false := decide_eq_false (by omega)
  have hb1 : decide ((n : Int) ≤ (i : Int)) = false := decide_eq_false (by omega)
  have hb2 : decide (n ≤ i) = false := decide_eq_false (by omega)
  have hs1 : decide (64 < s.size) = true := decide_eq_true hs
  go_enter Try.func8, Try.ntmps8
  go_wp2
  refine bodyPost_ret (v := .tuple #[.agg (rdCells A n c ⟨secs, cat, ctorn, since, false, all⟩), .int .i64 3]) ?_ rfl ?_
  · exact res_put6 rfl rfl rfl (Blk.new2 _ _ _ _) rfl
  · exact RefW.two (y := (⟨secs, cat, ctorn, since, false, all⟩, 3)) ho _ _

theorem mr_keep {w w2 : World} {A : Option Addr} {n c : Nat} {x y : Dk} {o3 : Obj} (hc : Chg (FA (some ⟨w.heap.size + 1 + 1, 0, none⟩)) (((w.alloc (.cells (rdCells A n c x) 33)).alloc (.cells (rdCells none 0 0 y) 33)).alloc o3) w2) :
    Blk w2 w.heap.size (rdCells A n c x) 33 ∧ Blk w2 (w.heap.size + 1) (rdCells none 0 0 y) 33 := by
  refine ⟨((((Blk.new w _ _).alloc _).alloc _)).keep hc ?_, ((Blk.new2 w _ _ _).alloc _).keep hc ?_⟩ <;>
  · intro e
    have : w.heap.size + 1 + 1 = _ := Option.some.inj e
    omega

/-- What is known where the sectors have been copied. -/
structure MR (w : World) (n : Nat) (l : List (List UInt8)) (x : Dk) (m r g : Nat) (c : Nat) (W : World) : Prop where
  hm : Blk W m (rdCells (some ⟨g, 0, none⟩) n c x) 33
  hr : Blk W r (rdCells none 0 0 dk0) 33
  ho : Own W 9 1 (some ⟨g, 0, none⟩) n c (strs l)
  hc : Chg NoB w W
  lm : w.heap.size ≤ m
  lr : w.heap.size ≤ r
  lg : w.heap.size ≤ g
  mr : m ≠ r
  gm : g ≠ m
  gr : g ≠ r
theorem MR.keep {w : World} {n : Nat} {l : List (List UInt8)} {x : Dk} {m r g c : Nat} {W W' : World} (h : MR w n l x m r g c W) (hc : Chg NoB W W') : MR w n l x m r g c W' :=
  ⟨h.hm.keep hc not_false, h.hr.keep hc not_false, h.ho.keep hc (fun _ _ => not_false), h.hc.trans hc (fun _ _ e => e), h.lm, h.lr, h.lg, h.mr, h.gm, h.gr⟩
theorem MR.start {w w2 : World} {A A' : Option Addr} {n c c' : Nat} {l : List (List UInt8)} {x : Dk} (hn : 0 < n)
    (hc : Chg (FA (some ⟨w.heap.size + 1 + 1, 0, none⟩)) (((w.alloc (.cells (rdCells A n c x) 33)).alloc (.cells (rdCells none 0 0 dk0) 33)).alloc (.cells #[] 9)) w2)
    (ho : Own w2 9 1 A' (0 + n) c' ([] ++ strs l)) (hb : blkOf A' = blkOf (some ⟨w.heap.size + 1 + 1, 0, none⟩) ∨ blkOf A' = some (((w.alloc (.cells (rdCells A n c x) 33)).alloc (.cells (rdCells none 0 0 dk0) 33)).alloc (.cells #[] 9)).heap.size) :
    ∃ g, A' = some ⟨g, 0, none⟩ ∧ MR w n l x w.heap.size (w.heap.size + 1) g c' (w2.setCell ⟨w.heap.size, 0, none⟩ (.slice A' n c')) := by
  simp only [Nat.zero_add, List.nil_append] at ho
  obtain ⟨g, rfl, hlt⟩ := ho.addr hn
  obtain ⟨hm, hr⟩ := mr_keep hc
  have hg : w.heap.size + 2 ≤ g := by
    rcases hb with e | e
    · have e' : g = w.heap.size + 1 + 1 := Option.some.inj e
      omega
    · have e' : g = _ := Option.some.inj e
      simp only [World.size_alloc] at e'
      omega
  refine ⟨g, rfl, hm.set 0 _, hr.setOther _ _ (show w.heap.size + 1 ≠ w.heap.size by omega), ho.setOther _ _ (fun e => by have e' : g = w.heap.size := Option.some.inj e; omega), ?_, Nat.le_refl _, by omega, by omega, by omega, by omega, by omega⟩
  refine (((((Chg.refl NoB w).alloc _).alloc _).alloc _).trans hc (fun k hk e => ?_)).setCell _ _ (fun e => absurd e (Nat.lt_irrefl _))
  have e' : w.heap.size + 1 + 1 = k := Option.some.inj e
  omega

theorem MR.put {w : World} {n : Nat} {l : List (List UInt8)} {x : Dk} {m r g c : Nat} {W : World} (h : MR w n l x m r g c W) (i : Nat) (s : List UInt8) : MR w n (l.set i s) x m r g c (W.setCell ⟨g, i, none⟩ (.string (str s))) := by
  refine ⟨h.hm.setOther _ _ (fun e => h.gm e.symm), h.hr.setOther _ _ (fun e => h.gr e.symm), ?_, h.hc.setCell _ _ (fun e => absurd e (Nat.not_lt.2 h.lg)), h.lm, h.lr, h.lg, h.mr, h.gm, h.gr⟩
  have := h.ho.set i (strv s)
  rw [strs, List.map_set]
  exact this
theorem MR.fin {w : World} {A0 : Option Addr} {n : Nat} {l : List (List UInt8)} {x : Dk} {m r g c : Nat} {W : World} (h : MR w n l x m r g c W) (code : Int) :
    RefW w A0 n ({ x with secs := l }, code) (.returned (.tuple #[.agg (rdCells (some ⟨g, 0, none⟩) n c x), .int .i64 code])) (put6 W r (some ⟨g, 0, none⟩) n c x) := by
  have ho := own_put6 h.ho (fun e => h.gr (Option.some.inj e)) (some ⟨g, 0, none⟩) n c x
  exact ⟨_, c, rfl, ho, chg_put6 h.hc (fun e => absurd e (Nat.not_lt.2 h.lr)) _ _ _ _, fun k hk => ⟨ho.lt hk, .inr (by have : g = k := Option.some.inj hk; have := h.lg; omega)⟩⟩

set_option maxRecDepth 100000 in
set_option maxHeartbeats 2000000 in
theorem refw_ok (w : World) (A : Option Addr) (n c : Nat) (x : Dk) (i : Nat) (s : ByteArray) (ho : Own w 9 1 A n c (strs x.secs)) (hlen : x.secs.length = n) (hn : n ≤ 4096) (hd : x.down = false) (hi : i < n) (hs : s.size ≤ 64) (hc : x.cat ≠ wrap64 (x.since + 1)) :
    Calls Try.prog 8 #[.agg (rdCells A n c x), .int .i64 (i : Int), .string s] w (RefW w A n (x.step.put i (fill s.data.toList), 0)) := by
  obtain ⟨secs, cat, ctorn, since, down, all⟩ := x
  simp only at hd ho hc hlen
  subst hd
  unfold rdCells
  simp only
  have hb : decide ((i : Int) < 0) = false := decide_eq_false (by omega)
  have hb1 : decide ((n : Int) ≤ (i : Int)) = false := decide_eq_false (by omega)
  have hb2 : decide (n ≤ i) = false := decide_eq_false (by omega)
  have hs1 : decide (64 < s.size) = false := decide_eq_false (by omega)
  have hcb : (cat == wrap64 (since + 1)) = false := by simpa using hc
  have m1 : 0 + n ≤ maxLen := by unfold maxLen; omega
  have m2 : (0 + n) * 16 ≤ 140737488355328 := by omega
  clear hc
  have hnew : Hid (∀ (o1 o2 : Obj), Own (((w.alloc o1).alloc o2).alloc (.cells #[] 9)) 9 1 (some ⟨w.heap.size + 1 + 1, 0, none⟩) 0 0 []) := hid (fun o1 o2 => by
    have := Blk.new ((w.alloc o1).alloc o2) #[] 9
    simp only [World.size_alloc] at this
    exact Own.of_blk this rfl (Nat.le_refl _) (Nat.zero_le _) rfl rfl)
  have hsrc : Hid (∀ (o1 o2 o3 : Obj), Src Try.prog 1 29 (.slice A n c) n (strs secs) (((w.alloc o1).alloc o2).alloc o3)) := hid (fun o1 o2 o3 => (((ho.alloc _).alloc _).alloc _).src' (e' := 9) rfl (strs_one _))
  go_enter Try.func8, Try.ntmps8
  have hn0 : 0 < n := by omega
  go_wp2_with ((with_reducible refine wpList_append_all rfl (.tmp 34) (.tmp 36) _ _ rfl 9 (.string ⟨#[]⟩) 1 16 rfl info_str rfl _ _ _ rfl [] (hnew.out _ _) (.slice A n c) rfl n (strs secs) (hsrc.out _ _ _) m1 m2 ?_); intro A' c' w2 ho2 hc2 hb2; obtain ⟨hm2, hr2⟩ := mr_keep (A := A) (n := n) (c := c) (x := ⟨secs, cat, ctorn, wrap64 (since + 1), false, wrap64 (all + 1)⟩) (y := dk0) hc2; have hk := (rd_cells hm2).1; have hf := hm2.frozen 0; have hcat := (rd_cells hm2).2.1; have hsin := (rd_cells hm2).2.2.2.1; obtain ⟨g, hg, hMR⟩ := MR.start (A := A) (n := n) (c := c) (x := ⟨secs, cat, ctorn, wrap64 (since + 1), false, wrap64 (all + 1)⟩) (l := secs) hn0 hc2 ho2 hb2; subst hg)
  all_goals
    clear hm2 hr2 hk hf hcat hsin hc2 hb2 ho2 hnew hsrc
    generalize World.setCell w2 _ _ = W at hMR ⊢
    clear hb hb1 hb2 hs1
  all_goals
    have hget : (strs secs)[i]? = some (strv (secs.getD i [])) := by
      rw [strs, List.getElem?_map, List.getD_eq_getElem?_getD, List.getElem?_eq_getElem (by omega)]; rfl
    have hgl := hid hget
    have k0 := (rd_cells hMR.hm).1
    have kc := hMR.ho.cell rfl i _ hget
    have kf : W.frozen? ⟨g, i, none⟩ = false := hMR.ho.frozen rfl i (by have := hMR.ho.cap.1; omega)
    have i1 : (i : Int) < (n : Int) := by omega
    have i0 : (0 : Int) ≤ (i : Int) := by omega
    clear hget hlen
  all_goals
    go_region_law (go_simp; go_at_call 20; refine (ref_fill _ s hs).mono ?_; rintro e w3 ⟨rfl, hc3⟩; have hM3 := (hMR.keep (Chg.refl NoB W).drew).keep hc3; have q0 := (rd_cells hM3.hm).1; have qc := hM3.ho.cell rfl i _ hgl.out; have qf : w3.frozen? ⟨g, i, none⟩ = false := hM3.ho.frozen rfl i (by have := hM3.ho.cap.1; omega); simp only [])
  all_goals
    have hM4 := hM3.put i (fill s.data.toList)
    clear q0 qc qf hM3 k0 kc kf hMR hc3
    generalize World.setCell w3 _ _ = W4 at hM4 ⊢
    obtain ⟨a0, a1, a2, a3, a4, a5⟩ := rd_cells hM4.hm
    obtain ⟨b0, b1, b2, b3, b4, b5⟩ := rd_cells hM4.hr
    obtain ⟨f0, f1, f2, f3, f4, f5⟩ := rd_free hM4.hr
    have hmr := hM4.mr
    go_wp2
    refine bodyPost_ret (res_put6 (code := .int .i64 0) rfl rfl rfl (blk_put6 hM4.hr (some ⟨g, 0, none⟩) n c' ⟨secs, cat, ctorn, wrap64 (since + 1), false, wrap64 (all + 1)⟩) rfl) rfl ?_
    exact hM4.fin 0
end Go.Proofs.Ytjgkccmifomjnaa
