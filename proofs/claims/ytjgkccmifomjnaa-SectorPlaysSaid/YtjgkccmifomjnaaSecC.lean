/- Contracts of package sector: what each call answers and leaves, by a walk. -/
import Derived.Test.YtjgkccmifomjnaaSecB
namespace Go.Proofs.Ytjgkccmifomjnaa
open Go.RowKit

theorem flat_part : ∀ (l : List (List UInt8)) (i : Nat) (m : List UInt8), (∀ s ∈ l, s.length = 64) → i < l.length → m.length ≤ 64 → splice l.flatten (i * 64) m = (l.set i (m ++ (l.getD i []).drop m.length)).flatten := by
  intro l i m h hi hm
  have hg := flat_get l i h hi
  have hlen : (l.getD i []).length = 64 := h _ (by rw [List.getD_eq_getElem?_getD, List.getElem?_eq_getElem hi]; exact List.getElem_mem hi)
  have hL := flat_len l h
  rw [← flat_set l i _ h hi (by rw [List.length_append, List.length_drop, hlen]; omega), ← hg]
  simp only [splice, List.append_assoc]
  congr 1
  congr 1
  have e1 : (List.length (m ++ List.drop m.length (List.take 64 (List.drop (i * 64) l.flatten)))) = 64 := by rw [List.length_append, List.length_drop, hg, hlen]; omega
  rw [e1]
  apply List.ext_getElem?
  intro j
  simp only [List.getElem?_drop, List.getElem?_append, List.length_drop, List.length_take, List.getElem?_take]
  by_cases hj : j < 64 - m.length
  · rw [if_pos (by omega), if_pos (by omega)]; congr 1; omega
  · rw [if_neg (by omega)]; congr 1; omega

set_option maxHeartbeats 1000000 in
theorem write_torn (w : World) (b D : Nat) (x : Dk) (i : Nat) (s : ByteArray) (h : DiskAt w b D x) (hd : x.down = false) (hi : i < x.secs.length) (hs : s.size ≤ 64) (hc : x.cat = wrap64 (x.since + 1)) :
    Calls Try.prog 9 #[.pointer (some ⟨b, 0, none⟩), .int .i64 (i : Int), .string s] w fun e w' => e = .returned (.int .i64 6) ∧
      DiskAt w' b D ((x.step.put i ((fill s.data.toList).take (tornN x.ctorn) ++ (x.secs.getD i []).drop (tornN x.ctorn))).cutOff) ∧ Chg (F2 b D) w w' := by
  obtain ⟨cap, spare, h1, h2, hb, hD⟩ := h.ok
  have hne := h.ne
  have hl := h.blen
  have hsz0 := h.size.2
  have hp := place_in w b x D _ cap i hb (by omega) (by omega) hd (by omega)
  have hs1 : decide (64 < s.size) = false := decide_eq_false (by omega)
  have hcb : (x.cat == wrap64 (x.since + 1)) = true := by simpa using hc
  have H1 := hid h1
  have HL := hid hl
  clear hl h1 hc
  go_enter Try.func9, Try.ntmps9
  go_wp2_with (first
    | (go_at_call 21; refine hp.mono ?_; rintro e w' ⟨rfl, rfl⟩)
    | (go_at_call 22; refine (add_any _ _ x _ _ _ hb).mono ?_; rintro e w1 ⟨rfl, hb1, hc1⟩; have c3 := hb1.cell 3; have f3 := hb1.frozen 3; have c3' : w1.cell? ⟨b, 3, none⟩ = some (.int .i64 x.since) := c3; clear c3)
    | (with_reducible refine wpList_make_u8 rfl _ _ 50 5 rfl rfl info_u8 64 (by omega) _ rfl rfl rfl ?_; intro w2 g hg hG hc2)
    | (with_reducible refine wpList_copy_str rfl (.tmp 36) (.tmp 37) _ _ rfl _ rfl size_u8 _ _ _ _ s rfl rfl _ _ hG (by omega) (by simp [u8s_length, zeros_length]; omega) ?_; intro w3 hG3 hc3))
  have hne' : D ≠ b := fun e => hne e.symm
  have hb2 := hb1.set 3 (.int .i64 (wrap64 (x.since + 1)))
  have hD1 := hD.keep hc1 hne'
  have hD2 := hD1.setOther ⟨b, 3, none⟩ (.int .i64 (wrap64 (x.since + 1))) hne'
  have gb : b ≠ g := by have := hb2.lt; omega
  have gD : D ≠ g := by have := hD2.lt; omega
  have hb3 : Blk w3 b (dkCells D x.bytes.length cap x.step) 57 := (hb2.keep hc2 not_false).keep hc3 gb
  have hD3 := (hD2.keep hc2 not_false).keep hc3 gD
  have hC : Chg (F2 b D) w w3 := ((((Chg.refl (F2 b D) w).trans hc1 (fun _ _ h => .inl h)).setCell ⟨b, 3, none⟩ (.int .i64 (wrap64 (x.since + 1))) (fun _ => .inl rfl)).trans hc2 (fun _ _ h => h.elim)).trans hc3 (fun k hk e => by
    have e' : k = g := e
    have := hc1.size
    simp only [World.size_setCell] at hg
    omega)
  clear hp hc1 hc2 hc3 hD1 hD2 hb1 hb2 hG hD
  have hl64 : s.data.toList.length ≤ 64 := by rw [Array.length_toList]; exact hs
  have hG4 : Blk w3 g (u8s (fill s.data.toList)).toArray 5 := by
    rw [u8s_splice, fill_splice] at hG3; exact hG3
  clear hG3
  have c1 : w3.cell? ⟨b, 1, none⟩ = some (.int .i64 x.cat) := hb3.cell 1
  have c3 : w3.cell? ⟨b, 3, none⟩ = some (.int .i64 (wrap64 (x.since + 1))) := hb3.cell 3
  have c2 : w3.cell? ⟨b, 2, none⟩ = some (.int .i64 x.ctorn) := hb3.cell 2
  clear f3 c3'
  go_quiet (fail)
  obtain ⟨k, hk⟩ : ∃ k, k = tornN x.ctorn := ⟨_, rfl⟩
  have hk64 : k ≤ 64 := by rw [hk]; unfold tornN; omega
  have hlen4 : (fill s.data.toList).length = 64 := fill_len _ hl64
  obtain ⟨m, hm⟩ : ∃ m, m = (fill s.data.toList).take k := ⟨_, rfl⟩
  have hml : m.length = k := by rw [hm, List.length_take, hlen4]; omega
  have e2 : splice (u8s x.bytes ++ spare) (i * 64) (u8s m) = u8s ((x.step.put i (m ++ (x.secs.getD i []).drop k)).cutOff).bytes ++ spare := by
    have hL := HL.out
    rw [splice_append _ _ _ _ (by simp only [u8s_length, hml]; omega), u8s_splice]
    congr 2
    exact flat_part x.secs i m h.len hi (by omega) |>.trans (by rw [hml]; rfl)
  have hnew : (m ++ (x.secs.getD i []).drop k).length = 64 := by
    have := h.len (x.secs.getD i []) (by
      rw [List.getD_eq_getElem?_getD, List.getElem?_eq_getElem hi]; exact List.getElem_mem hi)
    simp only [List.length_append, List.length_drop, hml, this]; omega
  have hfin : ∀ w' : World, Blk w' b (dkCells D x.bytes.length cap x.step.cutOff) 57 → Blk w' D (splice (u8s x.bytes ++ spare) (i * 64) (u8s m)).toArray 5 → DiskAt w' b D ((x.step.put i ((fill s.data.toList).take (tornN x.ctorn) ++ (x.secs.getD i []).drop (tornN x.ctorn))).cutOff) := by
    intro w' k1 k2
    rw [e2] at k2
    have el : ((x.step.put i (m ++ (x.secs.getD i []).drop k)).cutOff).bytes.length = x.bytes.length := by
      have h4 := congrArg List.length e2
      have hL := HL.out
      rw [splice_len _ _ _ (by simp only [List.length_append, u8s_length, hml]; omega)] at h4
      simp only [List.length_append, u8s_length] at h4
      omega
    have hH := H1.out
    rw [← hk, ← hm]
    refine ⟨hne, ⟨cap, spare, by omega, h2, by rw [el]; exact k1, k2⟩, ?_, by simpa [Dk.step, Dk.put, Dk.cutOff] using h.size⟩
    intro y hy
    simp only [Dk.put, Dk.cutOff] at hy
    rcases List.mem_or_eq_of_mem_set hy with h5 | h5
    · exact h.len y h5
    · rw [h5]; exact hnew
  clear e2 hnew
  have HFIN := hid hfin
  clear hfin
  have S1 : Hid ((u8s m).length = Nat.min (max 0 (min x.ctorn 64)).toNat 64) := hid (by
    rw [u8s_length, hml, hk]; unfold tornN; exact (Nat.min_eq_left (by omega)).symm)
  have S2 : Hid (i * 64 + (u8s m).length ≤ (u8s x.bytes ++ spare).length) := hid (by have hL := HL.out; simp only [List.length_append, u8s_length, hml]; omega)
  have S3 : Hid (∀ (n : Nat) (j : Nat) (v : Value), (u8s m)[j]? = some v → (w3.drewN n).cell? ((⟨g, 0, none⟩ : Addr).add j) = some v) := hid (fun n j v hv => (hG4.drewN n).src j v (by
    rw [hm] at hv
    simp only [u8s, List.map_take] at hv
    have hj : j < k := by
      have := (List.getElem?_eq_some_iff.1 hv).1
      simp at this; omega
    rw [List.getElem?_take_of_lt hj] at hv; exact hv))
  clear hlen4 hl64 hml hm hk
  go_wp2_with ((with_reducible refine wpList_copy_cells rfl (.tmp 49) (.tmp 58) _ _ rfl _ rfl size_u8 _ _ _ _ _ _ _ rfl rfl _ _ (hD3.drewN _) (u8s m) S1.out (S3.out _) S2.out (u8s_one _) ?_); intro w4 hD4 hc4; have hb4 := (hb3.drewN nq).keep hc4 hne; have d1 : w4.cell? ⟨b, 1, none⟩ = some (.int .i64 x.cat) := hb4.cell 1; have d2 : w4.cell? ⟨b, 2, none⟩ = some (.int .i64 x.ctorn) := hb4.cell 2; have d4 : w4.cell? ⟨b, 4, none⟩ = some (.bool x.down) := hb4.cell 4; have g1 := hb4.frozen 1; have g2 := hb4.frozen 2; have g4 := hb4.frozen 4)
  go_ret
  refine ⟨rfl, HFIN.out _ (((hb4.set 1 _).set 2 _).set 4 _) (((hD4.setOther _ _ hne').setOther _ _ hne').setOther _ _ hne'), ?_⟩
  exact ((((hC.drewN _).trans hc4 (fun _ _ h => .inr h)).setCell _ _ (fun _ => .inl rfl)).setCell _ _ (fun _ => .inl rfl)).setCell _ _ (fun _ => .inl rfl)
end Go.Proofs.Ytjgkccmifomjnaa
