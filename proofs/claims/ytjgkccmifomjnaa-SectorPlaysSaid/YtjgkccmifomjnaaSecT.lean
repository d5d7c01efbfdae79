/- Contracts of the document's own sectors (its reference): what each call answers, by a walk. -/
import Derived.Test.YtjgkccmifomjnaaSecS
import Derived.Deep.DeepCutAuto
namespace Go.Proofs.Ytjgkccmifomjnaa
open Go.RowKit

theorem str_extract (l : List UInt8) (a b : Nat) : (str l).extract a b = str ((l.drop a).take (b - a)) := by
  apply ByteArray.ext
  simp [str]
theorem str_append (l m : List UInt8) : str l ++ str m = str (l ++ m) := by
  apply ByteArray.ext
  simp [str]
theorem torn1 (l old : List UInt8) (h : old.length = 64) {k : Nat} (hk : k = 0) : (str old).extract 0 64 = str (l.take k ++ old.drop k) := by
  subst hk
  rw [str_extract]
  simp only [List.drop_zero, List.take_zero, List.nil_append]
  rw [List.take_of_length_le (by omega)]
theorem torn2 (l old : List UInt8) (h : old.length = 64) (hl : l.length = 64) {k : Nat} (hk : k = 64) : (str l).extract 0 64 ++ (str old).extract 64 64 = str (l.take k ++ old.drop k) := by
  subst hk
  rw [str_extract, str_extract, str_append]
  simp only [List.drop_zero]
  rw [List.take_of_length_le (by omega), List.drop_of_length_le (by omega), List.take_nil]
theorem torn2' (l old : List UInt8) (h : old.length = 64) (hl : l.length = 64) {k : Nat} (hk : k = 64) : (str l).extract 0 64 = str (l.take k ++ old.drop k) := by
  subst hk
  rw [str_extract]
  simp only [List.drop_zero]
  rw [List.take_of_length_le (by omega), List.drop_of_length_le (by omega), List.append_nil]
theorem torn3 (l old : List UInt8) (h : old.length = 64) {k : Nat} {t : Int} (ht : t = (k : Int)) : (str l).extract 0 t.toNat ++ (str old).extract t.toNat 64 = str (l.take k ++ old.drop k) := by
  subst ht
  rw [str_extract, str_extract, str_append, Int.toNat_natCast]
  simp only [List.drop_zero, Nat.sub_zero]
  rw [List.take_of_length_le (l := old.drop k) (by simp; omega)]
theorem MR.putS {w : World} {n : Nat} {l : List (List UInt8)} {x : Dk} {m r g c : Nat} {W : World} (h : MR w n l x m r g c W) (i : Nat) (s : List UInt8) (B : ByteArray) (e : B = str s) : MR w n (l.set i s) x m r g c (W.setCell ⟨g, i, none⟩ (.string B)) := by
  subst e; exact h.put i s

theorem MR.cut {w : World} {n : Nat} {l : List (List UInt8)} {x : Dk} {m r g c : Nat} {W : World} (h : MR w n l x m r g c W) : MR w n l x.cutOff m r g c (((W.setCell ⟨m, 1, none⟩ (.int .i64 0)).setCell ⟨m, 2, none⟩ (.int .i64 0)).setCell ⟨m, 4, none⟩ (.bool true)) := by
  have k : ∀ {V : World} (o : Nat) (v : Value), Chg NoB w V → Chg NoB w (V.setCell ⟨m, o, none⟩ v) := fun o v h' => h'.setCell _ _ (fun e => absurd e (Nat.not_lt.2 h.lm))
  have ko : ∀ {V : World} (o : Nat) (v : Value), Own V 9 1 (some ⟨g, 0, none⟩) n c (strs l) → Own (V.setCell ⟨m, o, none⟩ v) 9 1 (some ⟨g, 0, none⟩) n c (strs l) := fun o v h' => h'.setOther _ _ (fun e => h.gm (Option.some.inj e))
  have kr : ∀ {V : World} {cs : Array Value} {T : TypeId} (o : Nat) (v : Value), Blk V r cs T → Blk (V.setCell ⟨m, o, none⟩ v) r cs T := fun o v h' => h'.setOther _ _ (fun e => h.mr e.symm)
  exact ⟨((h.hm.set 1 _).set 2 _).set 4 _, kr _ _ (kr _ _ (kr _ _ h.hr)), ko _ _ (ko _ _ (ko _ _ h.ho)), k _ _ (k _ _ (k _ _ h.hc)), h.lm, h.lr, h.lg, h.mr, h.gm, h.gr⟩

set_option maxRecDepth 100000 in
set_option maxHeartbeats 12000000 in
theorem refw_torn (w : World) (A : Option Addr) (n c : Nat) (x : Dk) (i : Nat) (s : ByteArray) (ho : Own w 9 1 A n c (strs x.secs)) (hlen : x.secs.length = n) (hn : n ≤ 4096) (hd : x.down = false) (hi : i < n) (hs : s.size ≤ 64) (hc : x.cat = wrap64 (x.since + 1)) (hc1 : 1 ≤ x.cat) (k : Nat) (hk : (x.ctorn < 0 ∧ k = 0) ∨ (64 < x.ctorn ∧ k = 64) ∨ (0 ≤ x.ctorn ∧ x.ctorn ≤ 64 ∧ x.ctorn = (k : Int))) (old : List UInt8) (hold : x.secs[i]? = some old) (hol : old.length = 64) :
    Calls Try.prog 8 #[.agg (rdCells A n c x), .int .i64 (i : Int), .string s] w (RefW w A n ((x.step.put i ((fill s.data.toList).take k ++ old.drop k)).cutOff, 6)) := by
  obtain ⟨secs, cat, ctorn, since, down, all⟩ := x
  simp only at hd ho hc hlen hc1 hk hold
  have HLen := hid hlen
  have HOld := hid hold
  have HOl := hid hol
  clear hlen hold hol
  subst hd
  unfold rdCells
  simp only
  have hb : decide ((i : Int) < 0) = false := decide_eq_false (by omega)
  have hb1 : decide ((n : Int) ≤ (i : Int)) = false := decide_eq_false (by omega)
  have hb2 : decide (n ≤ i) = false := decide_eq_false (by omega)
  have hs1 : decide (64 < s.size) = false := decide_eq_false (by omega)
  have hcb : (cat == wrap64 (since + 1)) = true := by simpa using hc
  have m1 : 0 + n ≤ maxLen := by unfold maxLen; omega
  have m2 : (0 + n) * 16 ≤ 140737488355328 := by omega
  clear hc
  have hg1 : decide (1 ≤ cat) = true := decide_eq_true hc1
  have hnew : Hid (∀ (o1 o2 : Obj), Own (((w.alloc o1).alloc o2).alloc (.cells #[] 9)) 9 1 (some ⟨w.heap.size + 1 + 1, 0, none⟩) 0 0 []) := hid (fun o1 o2 => by
    have := Blk.new ((w.alloc o1).alloc o2) #[] 9
    simp only [World.size_alloc] at this
    exact Own.of_blk this rfl (Nat.le_refl _) (Nat.zero_le _) rfl rfl)
  have hsrc : Hid (∀ (o1 o2 o3 : Obj), Src Try.prog 1 29 (.slice A n c) n (strs secs) (((w.alloc o1).alloc o2).alloc o3)) := hid (fun o1 o2 o3 => (((ho.alloc _).alloc _).alloc _).src' (e' := 9) rfl (strs_one _))
  have hkk : k ≤ 64 := by omega
  have HK := hid hk
  have hc3 : (decide (ctorn < 0) = true ∧ k = 0) ∨ (decide (ctorn < 0) = false ∧ decide (64 < ctorn) = true ∧ k = 64) ∨ (decide (ctorn < 0) = false ∧ decide (64 < ctorn) = false ∧ ctorn = (k : Int)) := by
    rcases hk with ⟨h1, h2⟩ | ⟨h1, h2⟩ | ⟨h1, h2, h3⟩
    · exact .inl ⟨decide_eq_true h1, h2⟩
    · exact .inr (.inl ⟨decide_eq_false (by omega), decide_eq_true h1, h2⟩)
    · exact .inr (.inr ⟨decide_eq_false (by omega), decide_eq_false (by omega), h3⟩)
  clear hk
  rcases hc3 with ⟨k1, k3⟩ | ⟨k1, k2, k3⟩ | ⟨k1, k2, k3⟩
  all_goals
    have HK3 := hid k3
    clear k3
    go_enter Try.func8, Try.ntmps8
    have hn0 : 0 < n := by omega
    go_wp2_with ((with_reducible refine wpList_append_all rfl (.tmp 34) (.tmp 36) _ _ rfl 9 (.string ⟨#[]⟩) 1 16 rfl info_str rfl _ _ _ rfl [] (hnew.out _ _) (.slice A n c) rfl n (strs secs) (hsrc.out _ _ _) m1 m2 ?_); intro A' c' w2 ho2 hc2 hb2; obtain ⟨hm2, hr2⟩ := mr_keep (A := A) (n := n) (c := c) (x := ⟨secs, cat, ctorn, wrap64 (since + 1), false, wrap64 (all + 1)⟩) (y := dk0) hc2; have hk := (rd_cells hm2).1; have hf := hm2.frozen 0; have hcat := (rd_cells hm2).2.1; have htor := (rd_cells hm2).2.2.1; have hsin := (rd_cells hm2).2.2.2.1; obtain ⟨g, hg, hMR⟩ := MR.start (A := A) (n := n) (c := c) (x := ⟨secs, cat, ctorn, wrap64 (since + 1), false, wrap64 (all + 1)⟩) (l := secs) hn0 hc2 ho2 hb2; subst hg)
  all_goals
    clear hm2 hr2 hk hf hcat htor hsin hc2 hb2 ho2 hnew hsrc
    generalize World.setCell w2 _ _ = W at hMR ⊢
    clear hb hb1 hb2 hs1 hg1
    have hget : (strs secs)[i]? = some (strv old) := by
      rw [strs, List.getElem?_map, HOld.out]; rfl
    have hgl := hid hget
    have k0 := (rd_cells hMR.hm).1
    have kc : W.cell? ⟨g, i, none⟩ = some (.string (str old)) := hMR.ho.cell rfl i _ hget
    have kf : W.frozen? ⟨g, i, none⟩ = false := hMR.ho.frozen rfl i (by have := hMR.ho.cap.1; omega)
    have i1 : (i : Int) < (n : Int) := by omega
    have i0 : (0 : Int) ≤ (i : Int) := by omega
    have hs2 : s.data.toList.length ≤ 64 := by rw [Array.length_toList]; exact hs
    have z1 : (str (fill s.data.toList)).size = 64 := by rw [str_size, fill_len _ hs2]
    have z2 : (str old).size = 64 := by rw [str_size, HOl.out]
    have HFl := hid (fill_len _ hs2)
    clear hget hs2
    try have z3 : ctorn ≤ 64 := by have := of_decide_eq_false k2; omega
    try have z4 : 0 ≤ ctorn := by have := of_decide_eq_false k1; omega
    try have z5 : ¬ (9223372036854775807 < min ctorn.toNat 64 + (64 - ctorn.toNat)) := by omega
  all_goals
    go_cut [] (fun wc => MR w n (secs.set i ((fill s.data.toList).take k ++ old.drop k)) ⟨secs, cat, ctorn, wrap64 (since + 1), false, wrap64 (all + 1)⟩ w.heap.size (w.heap.size + 1) g c' wc)
    case first =>
      go_region_law (go_simp; go_at_call 20; refine (ref_fill _ s hs).mono ?_; rintro e w3 ⟨rfl, hc3⟩; have hM3 := (hMR.keep (Chg.refl NoB W).drew).keep hc3; have q0 := (rd_cells hM3.hm).1; have qc : w3.cell? ⟨g, i, none⟩ = some (.string (str old)) := hM3.ho.cell rfl i _ hgl.out; have qf : w3.frozen? ⟨g, i, none⟩ = false := hM3.ho.frozen rfl i (by have := hM3.ho.cap.1; omega); simp only [])
      all_goals
        go_wp2_with fail
        go_meet
        refine hM3.putS i _ _ ?_
        first
          | exact torn1 _ _ HOl.out HK3.out
          | exact torn2' _ _ HOl.out HFl.out HK3.out
          | exact torn2 _ _ HOl.out HFl.out HK3.out
          | exact torn3 _ _ HOl.out HK3.out
    case rest =>
      have hM4 := hcut
      obtain ⟨a0, a1, a2, a3, a4, a5⟩ := rd_cells hM4.hm
      obtain ⟨b0, b1, b2, b3, b4, b5⟩ := rd_cells hM4.hr
      obtain ⟨f0, f1, f2, f3, f4, f5⟩ := rd_free hM4.hr
      obtain ⟨g0, g1, g2, g3, g4, g5⟩ := rd_free hM4.hm
      have hmr := hM4.mr
      have hM5 := hM4.cut
      go_wp2
      refine bodyPost_ret (res_put6 (code := .int .i64 6) rfl rfl rfl (blk_put6 hM5.hr (some ⟨g, 0, none⟩) n c' ⟨secs, 0, 0, wrap64 (since + 1), true, wrap64 (all + 1)⟩) rfl) rfl ?_
      exact hM5.fin 6
end Go.Proofs.Ytjgkccmifomjnaa
