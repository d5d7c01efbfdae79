/- Contracts of package sector: what each call answers and leaves, by a walk. -/
import Derived.Test.YtjgkccmifomjnaaSecC
import Derived.Deep.RegionHeld3
import Derived.Deep.AppendLies
namespace Go.Proofs.Ytjgkccmifomjnaa
open Go.RowKit

set_option maxRecDepth 100000 in
set_option maxHeartbeats 1000000 in
theorem copy_any (w : World) (b D : Nat) (x : Dk) (h : DiskAt w b D x) :
    Calls Try.prog 16 #[.pointer (some ⟨b, 0, none⟩)] w fun e w' => ∃ b' D', e = .returned (.pointer (some ⟨b', 0, none⟩)) ∧ w.heap.size ≤ b' ∧ w.heap.size ≤ D' ∧
      DiskAt w' b' D' x ∧ Chg NoB w w' := by
  obtain ⟨cap, spare, h1, h2, hb, hD⟩ := h.ok
  have hne := h.ne
  have hl := h.blen
  have hsz := h.size
  obtain ⟨i0, hi0, hz0, hz1, hz2⟩ := info_parts info_u8
  have lb := hb.lt
  have lD := hD.lt
  have c0 : w.cell? ⟨b, 0, none⟩ = some (.slice (some ⟨D, 0, none⟩) x.bytes.length cap) := hb.cell 0
  have c1 : w.cell? ⟨b, 1, none⟩ = some (.int .i64 x.cat) := hb.cell 1
  have c2 : w.cell? ⟨b, 2, none⟩ = some (.int .i64 x.ctorn) := hb.cell 2
  have c3 : w.cell? ⟨b, 3, none⟩ = some (.int .i64 x.since) := hb.cell 3
  have c4 : w.cell? ⟨b, 4, none⟩ = some (.bool x.down) := hb.cell 4
  obtain ⟨N, hN⟩ : ∃ N, N = x.bytes.length := ⟨_, rfl⟩
  rw [← hN] at c0
  have HN := hid hN
  have HL := hid hl
  have H1 := hid h1
  clear hN hl h1
  have hnews : Hid (∀ (W : World), Blk W D (u8s x.bytes ++ spare).toArray 5 → ∀ j u, (u8s x.bytes)[j]? = some u → W.cell? ((⟨D, 0, none⟩ : Addr).add j) = some u) := hid (fun W hW j u hu => hW.src j u (by
    rw [List.getElem?_append_left (List.getElem?_eq_some_iff.1 hu).1]; exact hu))
  have hlen : Hid ((u8s x.bytes).length = N * 1) := hid (by rw [u8s_length, HN.out]; omega)
  have hN0 : 0 < N := by have := HN.out; have := HL.out; omega
  have hN1 : N ≤ 262144 := by have := HN.out; have := HL.out; omega
  have hown : Hid ((w.alloc (.cells #[] 5)).drew.ownsRow 0 5 1 (.slice (some ⟨w.heap.size, 0, none⟩) 0 0) 0 []) := hid ((World.ownsRow_made (base := 0) (e := 5) (size := 1) w #[] 0 (Nat.zero_le _) (Nat.zero_le _) (by simp)).drew)
  have hmL : N ≤ maxLen := by unfold maxLen; omega
  have hDd : Blk (w.alloc (.cells #[] 5)).drew D (u8s x.bytes ++ spare).toArray 5 := hD.alloc _
  go_enter Try.func16, Try.ntmps16
  go_wp2_with fail
  go_region_held3 (fun w' => w'.cell? ⟨b, 0, none⟩ = some (.slice (some ⟨D, 0, none⟩) N cap) ∧ w'.cell? ⟨b, 1, none⟩ = some (.int .i64 x.cat) ∧ w'.cell? ⟨b, 2, none⟩ = some (.int .i64 x.ctorn) ∧
      w'.cell? ⟨b, 3, none⟩ = some (.int .i64 x.since) ∧ w'.cell? ⟨b, 4, none⟩ = some (.bool x.down))
    (first
      | go_keep
      | (go_split_ands
         refine ⟨?_, ?_, ?_, ?_, ?_⟩ <;> (rw [hgrow.cell_far _ (by simp; omega) (by simp [Value.ownBlock]; omega)]; assumption)))
    ((refine step_append_lies _ (by rfl) _ _ _ (by rfl) 0 5 i0 _ 1 1 Try.underlying50 hi0 hz0 hz1 hz2 rfl (by omega) (.slice (some ⟨w.heap.size, 0, none⟩) 0 0) 0 [] (by rfl) hown.out
        ⟨D, 0, none⟩ N cap (u8s x.bytes) (by rfl) hlen.out (hnews.out _ hDd) (u8s_one _)
        hN0 (by omega) (by omega) (Nat.zero_le _) (w.heap.size + 1) (by simp) ?_; intro gg cap' w1 hown1 hgrow hat hlt))
  have hb0 := ((hb.alloc (.cells #[] 5)).drew).keep (Chg.of_grown hgrow (F := fun k => k = w.heap.size) (fun k e _ => by simpa [Value.ownBlock] using e.symm)) (by omega)
  have hCh : Chg NoB w w1 := (((Chg.refl NoB w).alloc (.cells #[] 5)).drew).trans (Chg.of_grown hgrow (F := fun k => k = w.heap.size) (fun k e _ => by simpa [Value.ownBlock] using e.symm)) (fun k hk e => by have e' : k = w.heap.size := e; omega)
  have hgg : w.heap.size ≤ gg := by
    rcases hat with e | e
    · have e' : w.heap.size = gg := by simpa [Value.ownBlock] using e
      omega
    · omega
  simp only [Nat.zero_add, List.nil_append] at hown1
  have hsz1 : w.heap.size ≤ w1.heap.size := hCh.size
  clear hat hgrow hnews hlen hown hDd
  generalize hW : w1.alloc _ = w2
  have hB2 : Blk w2 w1.heap.size (dkCells gg N cap' { x with all := 0 }) 57 := hW ▸ Blk.new w1 _ _
  have hb2 : Blk w2 b (dkCells D x.bytes.length cap x) 57 := hW ▸ hb0.alloc _
  have hC2 : Chg NoB w w2 := hW ▸ hCh.alloc _
  have hO2 : w2.ownsRow 0 5 1 (.slice (some ⟨gg, 0, none⟩) N cap') N (u8s x.bytes) := hW ▸ hown1.alloc _
  have hlt2 : gg < w1.heap.size := hlt
  clear hW hlt
  generalize w1.heap.size = b2 at hB2 hsz1 hlt2 ⊢
  go_wp2_with fail
  go_region_with (first
    | (go_at_call 24; refine (load_any _ _ x _ _ _ hb2.drew).mono ?_; rintro e w' ⟨rfl, rfl⟩)
    | (go_at_call 23; refine (store_any _ _ { x with all := 0 } _ _ _ _ hB2.drew).mono ?_; rintro e w3 ⟨rfl, hB3, hC3⟩))
  go_wp2
  go_ret
  have hne2 : b2 ≠ gg := by omega
  obtain ⟨g', cap2, cur, e0, _, e1, e2, e3, e4, e5⟩ := (show _ ∨ _ from hO2.2).resolve_left (fun h => absurd h.2 (by omega))
  obtain ⟨rfl, rfl⟩ : gg = g' ∧ cap' = cap2 := by
    injection e0 with f1 f2 f3
    injection f1 with f1
    injection f1 with f1
    exact ⟨f1, f3⟩
  have hBg : Blk w2 gg cur 5 := e1
  have ecur : cur = (u8s x.bytes ++ cur.toList.drop N).toArray := by
    rw [Nat.mul_one] at e5
    apply Array.toList_inj.1
    show _ = u8s x.bytes ++ cur.toList.drop N
    rw [← e5, List.take_append_drop]
  have hNN := HN.out
  refine ⟨b2, gg, rfl, hsz1, hgg, ⟨hne2, ⟨cap', cur.toList.drop N, ?_, e3, ?_, ?_⟩, h.len, h.size⟩, ?_⟩
  · have q : cur.toList.length = cap' * 1 := Array.length_toList.trans e4
    rw [List.length_drop, q, ← hNN]; omega
  · rw [← hNN]; exact hB3
  · rw [← ecur]; exact hBg.drew.keep hC3 (fun e => hne2 e.symm)
  · exact hC2.drew.trans hC3 (fun k hk e => by have e' : k = b2 := e; omega)
end Go.Proofs.Ytjgkccmifomjnaa
