/- header.Parse: the walk. -/
import Derived.Test.YtkphllolghlmeaaDoorHdS
namespace Go.Proofs.YtkphllolghlmeaaDoor
open Go.RowKit

theorem info_fld : (Tryd.prog.info? 38).map (fun i => (i.zero, i.size, i.bytes)) = some (some (.agg #[.string ⟨#[]⟩, .string ⟨#[]⟩]), 2, 32) := by kernel_rfl
theorem fldsC_append (a b : List Fld) : fldsC (a ++ b) = fldsC a ++ fldsC b := by simp [fldsC]
/-- What Parse answers. -/
def ParseOut (s : ByteArray) (w : World) (e : Ending) (w' : World) : Prop :=
  ∃ A c, e = .returned (.tuple #[.slice A (parseL s.data.toList).length c, .string (str (parseR s.data.toList)), .int .i64 (parseE s.data.toList)]) ∧ Own w' 38 2 A (parseL s.data.toList).length c (fldsC (parseL s.data.toList)) ∧ Chg NoB w w'
theorem ParseOut.bad {s : ByteArray} {w w' : World} {e : Ending} {k : Nat} (h : parseE s.data.toList = k ∧ parseL s.data.toList = [] ∧ parseR s.data.toList = []) (he : e = .returned (.tuple #[.slice none 0 0, .string ⟨#[]⟩, .int .i64 (k : Int)])) (hc : Chg NoB w w') : ParseOut s w e w' := by
  obtain ⟨h1, h2, h3⟩ := h
  refine ⟨none, 0, ?_, ?_, hc⟩
  · rw [h1, h2, h3, he]; rfl
  · rw [h2]; exact Own.nil _ _ _
theorem ok_split {w : List UInt8} (h : okF w = true) : (nameOf w).length < w.length ∧ right (fldOf w) = true := by
  unfold okF at h
  rw [Bool.and_eq_true, decide_eq_true_eq] at h
  exact h
set_option maxRecDepth 100000 in
set_option maxHeartbeats 16000000 in
theorem hd_parse (w : World) (s : ByteArray) (hs : s.size ≤ 1000000) (hm : ML w) :
    Calls Tryd.prog 13 #[.string s] w (ParseOut s w) := by
  have HM := hid hm
  have hcut := hd_cut w s hs hm
  clear hm
  cases hsc : scan [] s.data.toList with
  | none =>
    have hcut2 : Calls Tryd.prog 26 #[.string s] w fun e w' => e = .returned (.tuple #[.slice none 0 0, .string ⟨#[]⟩, .bool false]) ∧ Chg NoB w w' := hcut.mono fun e w' h => by
      obtain ⟨h1 | ⟨L, rest, A, c, h1, _⟩, h2⟩ := h
      · exact ⟨h1.2, h2⟩
      · rw [hsc] at h1; cases h1
    have HP := hid (parse_none hsc)
    clear hcut hsc
    go_enter Tryd.func13, Tryd.ntmps13
    go_wp2_with ((with_reducible (go_at_call 26; refine hcut2.mono ?_)); rintro e w1 ⟨rfl, hc1⟩)
    go_ret3
    exact ParseOut.bad HP.out rfl hc1
  | some p =>
    obtain ⟨ls, rest⟩ := p
    obtain ⟨n, hn⟩ : ∃ n, n = ls.length := ⟨_, rfl⟩
    have hcut2 : Calls Tryd.prog 26 #[.string s] w fun e w' => ∃ A c, e = .returned (.tuple #[.slice A n c, .string (str rest), .bool true]) ∧ Own w' 9 1 A n c (strsC ls) ∧ Chg NoB w w' := hcut.mono fun e w' h => by
      obtain ⟨h1 | ⟨L, rest, A, c, h1, h3, h4⟩, h2⟩ := h
      · rw [hsc] at h1; cases h1.1
      · rw [hsc] at h1
        simp only [Option.some.injEq, Prod.mk.injEq] at h1
        obtain ⟨rfl, rfl⟩ := h1
        rw [← hn] at h3 h4
        exact ⟨A, c, h3, h4, h2⟩
    have hlen := scan_len _ _ _ _ hsc
    rw [len_data, List.length_nil] at hlen
    have hn6 : n ≤ 1000000 := by omega
    have hsum : (ls.map List.length).sum ≤ 1000000 := by omega
    have HSC := hid hsc
    have HNE := hid (scan_ne _ _ _ _ hsc)
    have HN := hid hn
    have HSUM := hid hsum
    have HLL : Hid (∀ l ∈ ls, l.length ≤ 1000000) := hid (fun l hl => Nat.le_trans (len_le_sum hl) HSUM.out)
    clear hcut hsc hn hlen hsum
    go_enter Tryd.func13, Tryd.ntmps13
    go_wp2_with ((with_reducible (go_at_call 26; refine hcut2.mono ?_)); rintro e w1 ⟨A, c, rfl, ho1, hc1⟩; have HO := hid ho1; have HC := hid hc1; clear ho1 hc1 hcut2)
    go_loop [31] (fun v => ∃ i : Nat, v = .int .i64 i ∧ i ≤ n ∧ Hid (TillL (fun l => !long1 l) ls i)) (fun v => n - (intOf v).toNat)
    case atStart => exact ⟨0, rfl, by omega, hid (TillL.zero _ _)⟩
    case round =>
      obtain ⟨i, rfl, hi, HT⟩ := hrel
      by_cases hlt : i < n
      · have t1 : decide ((i : Int) < (n : Int)) = true := decide_eq_true (by omega)
        have t2 : decide (i < n) = true := decide_eq_true hlt
        have i0 : (0 : Int) ≤ (i : Int) := by omega
        have i1 : (i : Int) < (n : Int) := by omega
        obtain ⟨g, rfl, _⟩ := HO.out.addr (by omega)
        obtain ⟨l, hl⟩ : ∃ l, ls[i]? = some l := ⟨_, List.getElem?_eq_getElem (by rw [← HN.out]; exact hlt)⟩
        have kc : w1.cell? ⟨g, i, none⟩ = some (.string (str l)) := HO.out.cell rfl i _ (strsC_get hl)
        have hll := HLL.out l (List.mem_of_getElem? hl)
        have HL := hid hl
        have HSS := hid (str_size l)
        have hsb : (str l).size ≤ 1000000 := by rw [str_size]; exact hll
        clear hl
        cases h998 : long1 l
        · have hq : ¬ 998 < l.length := of_decide_eq_false h998
          have u3 : decide (998 < ((str l).size : Int)) = false := decide_eq_false (by rw [HSS.out]; omega)
          have u4 : decide (998 < (str l).size) = false := decide_eq_false (by rw [HSS.out]; omega)
          clear hq
          go_wp2
          go_round
          case rel => exact ⟨i + 1, by go_num, by omega, hid (HT.out.succ HL.out (by rw [h998]; rfl))⟩
          case measure => simp [intOf]; omega
        · have hq : 998 < l.length := of_decide_eq_true h998
          have u3 : decide (998 < ((str l).size : Int)) = true := decide_eq_true (by rw [HSS.out]; omega)
          have u4 : decide (998 < (str l).size) = true := decide_eq_true (by rw [HSS.out]; omega)
          have HP := hid (parse_long HSC.out (any_is_l HL.out h998))
          clear hq
          go_wp2
          go_ret3
          exact ParseOut.bad HP.out rfl HC.out
      · have t1 : decide ((i : Int) < (n : Int)) = false := decide_eq_false (by omega)
        have t2 : decide (i < n) = false := decide_eq_false hlt
        have HLG := hid (any_none (HT.out.all (by rw [← HN.out]; omega)))
        have hw1 := HC.out.size
        obtain ⟨BB, hBB⟩ : ∃ BB, BB = w1.heap.size := ⟨_, rfl⟩
        have HBB : Hid (BB = w1.heap.size ∧ w.heap.size ≤ BB) := hid ⟨hBB, by omega⟩
        clear hw1 hBB HT
        go_wp2
        clear t1 t2 hlt hi
        go_loopg [8, 41] n (fun gk v8 v wr => ∃ (i m cW : Nat) (AW : Option Addr) (W : List (List UInt8)), v8 = .slice AW m cW ∧ v = .int .i64 i ∧ i + gk = n ∧ m ≤ i ∧ Hid (m = W.length) ∧ Hid (GrpI ls W i) ∧ Hid (Own wr 9 1 AW m cW (strsC W)) ∧ Hid (∀ k, blkOf AW = some k → BB ≤ k) ∧ Hid (Chg NoB w1 wr))
        case atStart => exact ⟨0, 0, 0, none, [], rfl, rfl, by omega, Nat.le_refl _, hid rfl, hid (GrpI.zero ls), hid (Own.nil _ _ _), hid (fun k h => by cases h), hid (Chg.refl _ _)⟩
        case round =>
          obtain ⟨i, m, cW, AW, W, rfl, rfl, hi, hmi, HMW, HG, HOW, HBW, HC1⟩ := hrel
          by_cases hlt : i < n
          · have t1 : decide ((i : Int) < (n : Int)) = true := decide_eq_true (by omega)
            have t2 : decide (i < n) = true := decide_eq_true hlt
            have i0 : (0 : Int) ≤ (i : Int) := by omega
            have i1 : (i : Int) < (n : Int) := by omega
            obtain ⟨g, rfl, _⟩ := HO.out.addr (by omega)
            obtain ⟨l, hl⟩ : ∃ l, ls[i]? = some l := ⟨_, List.getElem?_eq_getElem (by rw [← HN.out]; exact hlt)⟩
            have kc : wr.cell? ⟨g, i, none⟩ = some (.string (str l)) := HC1.out.cell (HO.out.cell rfl i _ (strsC_get hl)) not_false
            have hll := HLL.out l (List.mem_of_getElem? hl)
            have hne := HNE.out l (List.mem_of_getElem? hl)
            have HL := hid hl
            have hs1 : 1 ≤ (str l).size := by rw [str_size]; exact List.length_pos_iff.2 hne
            have hsb : (str l).size ≤ 1000000 := by rw [str_size]; exact hll
            have hbl := fun W => blank_call W l
            have HBL := hid hbl
            clear hl hne hbl
            cases hb : blankHead l
            · have m1 : m + 1 ≤ maxLen := by unfold maxLen; omega
              have m2 : (m + 1) * 16 ≤ 140737488355328 := by omega
              go_wp2_with (first
                | ((with_reducible (go_at_call 27; refine (HBL.out _).mono ?_)); rintro e w2 ⟨rfl, hc2⟩; rw [hb]; have HOW2 := hid (HOW.out.keep hc2 (fun _ _ => not_false)); have HC2 := hid (HC1.out.trans hc2 (fun _ _ h => h)); have kc2 := hc2.cell kc not_false; clear hc2)
                | ((with_reducible refine wpList_append_all rfl (.tmp 49) (.tmp 51) 48 48 rfl 9 (.string ⟨#[]⟩) 1 16 rfl info_str rfl AW m cW rfl _ (HOW2.out.alloc _) (.slice (some ⟨w2.heap.size, 0, none⟩) 1 1) rfl 1 [.string (str l)] ((Blk.new _ _ _).srcOf (e' := 9) rfl rfl (by simp [Value.oneCell'])) m1 m2 ?_); intro A' c' w3 ho3 hc3 hb3; have HO3 := hid ho3; have HC3 := hid hc3; have HB3 := hid hb3; clear ho3 hc3 hb3))
              go_roundg (gk - 1)
              case measure => omega
              case rel =>
                refine ⟨i + 1, m + 1, c', A', W ++ [l], rfl, by go_num, by omega, by omega, hid (by rw [List.length_append, ← HMW.out]; rfl), hid (HG.out.cut HL.out hb), hid ?_, hid ?_, hid ?_⟩
                · rw [strsC_append]; exact HO3.out
                · intro k hk
                  have h1 := (HC2.out.alloc (.cells #[.string (str l)] 9)).size
                  have := HBB.out.1
                  rcases HB3.out with e | e
                  · exact HBW.out k (by rw [← e]; exact hk)
                  · rw [e] at hk; injection hk with hk; omega
                · exact ((HC2.out.alloc _).trans HC3.out (fun k hk e => by have := HBW.out k e; have := HBB.out.1; omega))
            · by_cases h0 : i = 0
              · subst h0
                have HP := hid (parse_first HSC.out HLG.out (HG.out.first HL.out hb))
                go_wp2_with (first
                  | ((with_reducible (go_at_call 27; refine (HBL.out _).mono ?_)); rintro e w2 ⟨rfl, hc2⟩; rw [hb]; have HC2 := hid (HC1.out.trans hc2 (fun _ _ h => h)); clear hc2))
                go_ret3
                exact ParseOut.bad HP.out rfl (HC.out.trans HC2.out (fun _ _ h => h))
              · have t4 : ((i : Int) == 0) = false := by rw [beq_eq_false_iff_ne]; omega
                obtain ⟨d, c0, hW, hG2, hc0⟩ := HG.out.join h0 HL.out hb
                have hm1 : m = d.length + 1 := by rw [HMW.out, hW]; simp
                obtain ⟨g2, rfl, _⟩ := HOW.out.addr (by omega)
                have hHO := HOW.out
                rw [hW] at hHO
                have k0 : wr.cell? ⟨g2, m - 1, none⟩ = some (.string (str c0)) := hHO.cell rfl (m - 1) _ (strsC_get (by rw [hm1]; simp))
                have k1 : wr.frozen? ⟨g2, m - 1, none⟩ = false := hHO.frozen rfl (m - 1) (by have := hHO.cap.1; omega)
                have j0 : (0 : Int) ≤ (m : Int) - 1 := by omega
                have j1 : (m : Int) - 1 < (m : Int) := by omega
                have hsc : (str c0).size ≤ 1000000 := by rw [str_size]; exact Nat.le_trans hc0 HSUM.out
                have HHO := hid hHO
                have HM1 := hid hm1
                have HG2 := hid hG2
                have hmle : m ≤ 1000000 := by omega
                clear hHO hm1 hW h0 hc0 hG2
                go_wp2_with (first
                  | ((with_reducible (go_at_call 27; refine (HBL.out _).mono ?_)); rintro e w2 ⟨rfl, hc2⟩; rw [hb]; have HOW2 := hid (HHO.out.keep hc2 (fun _ _ => not_false)); have HC2 := hid (HC1.out.trans hc2 (fun _ _ h => h)); have kc2 := hc2.cell kc not_false; have q := hc2.held ⟨k0, k1⟩ not_false; obtain ⟨q0, q1⟩ := q; clear hc2))
                go_roundg (gk - 1)
                case measure => omega
                case rel =>
                  refine ⟨i + 1, m, cW, _, d ++ [c0 ++ l], rfl, by go_num, by omega, by omega, hid (by rw [HM1.out]; simp), HG2, hid ?_, HBW, hid ?_⟩
                  · have := HOW2.out.set (m - 1) (.string (str (c0 ++ l)))
                    rw [show m - 1 = d.length by have := HM1.out; omega, strsC_last] at this
                    rw [str_add, show m - 1 = d.length by have := HM1.out; omega]
                    exact this
                  · exact HC2.out.setCell _ _ (fun h => absurd (show g2 < w1.heap.size from h) (by have := HBW.out g2 rfl; have := HBB.out.1; omega))
          · have t1 : decide ((i : Int) < (n : Int)) = false := decide_eq_false (by omega)
            have t2 : decide (i < n) = false := decide_eq_false hlt
            have HG3 := hid (HG.out.done (by rw [← HN.out]; omega))
            have HOW1 : Hid (Own wr 9 1 AW m cW (strsC (groups ls))) := hid (by rw [← HG3.out.1]; exact HOW.out)
            have HM1 : Hid (m = (groups ls).length) := hid (by rw [← HG3.out.1]; exact HMW.out)
            have HCW := hid (HC.out.trans HC1.out (fun _ _ h => h))
            obtain ⟨BC, hBC⟩ : ∃ BC, BC = wr.heap.size := ⟨_, rfl⟩
            have hwr := HCW.out.size
            have HBC : Hid (BC = wr.heap.size ∧ w.heap.size ≤ BC) := hid ⟨hBC, by omega⟩
            have HGL : Hid (∀ g ∈ groups ls, g.length ≤ 1000000) := hid (fun g hg => Nat.le_trans (groups_len hg) HSUM.out)
            have hm6 : m ≤ 1000000 := by omega
            have HLT : Hid (∀ k, blkOf AW = some k → k < wr.heap.size) := hid (fun k hk => HOW1.out.lt hk)
            clear hBC hwr HG HMW HOW
            go_wp2
            clear t1 t2 hlt hi hmi
            obtain ⟨wo, rfl⟩ : ∃ wo : World, wo = wr := ⟨_, rfl⟩
            go_loopg [14, 73] m (fun gk v14 v wr => ∃ (i cO : Nat) (AO : Option Addr), v14 = .slice AO i cO ∧ v = .int .i64 i ∧ i + gk = m ∧ Hid (TillL okF (groups ls) i) ∧ Hid (Own wr 38 2 AO i cO (fldsC (((groups ls).take i).map fldOf))) ∧ Hid (∀ k, blkOf AO = some k → BC ≤ k) ∧ Hid (Chg NoB wo wr))
            case atStart => exact ⟨0, 0, none, rfl, rfl, by omega, hid (TillL.zero _ _), hid (Own.nil _ _ _), hid (fun k h => by cases h), hid (Chg.refl _ _)⟩
            case round =>
              obtain ⟨i, cO, AO, rfl, rfl, hi, HT, HOO, HBO, HC2⟩ := hrel
              by_cases hlt : i < m
              · have t1 : decide ((i : Int) < (m : Int)) = true := decide_eq_true (by omega)
                have t2 : decide (i < m) = true := decide_eq_true hlt
                have i0 : (0 : Int) ≤ (i : Int) := by omega
                have i1 : (i : Int) < (m : Int) := by omega
                obtain ⟨g, rfl, _⟩ := HOW1.out.addr (by omega)
                obtain ⟨l, hl⟩ : ∃ l, (groups ls)[i]? = some l := ⟨_, List.getElem?_eq_getElem (by rw [← HM1.out]; exact hlt)⟩
                have kc : wr.cell? ⟨g, i, none⟩ = some (.string (str l)) := HC2.out.cell (HOW1.out.cell rfl i _ (strsC_get hl)) not_false
                have hll := HGL.out l (List.mem_of_getElem? hl)
                have HL := hid hl
                have hcall := cut_call wr (str l) ⟨#[58]⟩ (by rw [str_size]; exact hll) (HM.out.keep (HCW.out.trans HC2.out (fun _ _ h => h)) not_false)
                rw [str_toList, show (ByteArray.mk #[58]).data.toList = [58] from rfl] at hcall
                clear hl
                by_cases hc : (nameOf l).length < l.length
                · rw [cut58_hit hc] at hcall
                  have hbl := fun W => trim_call W (l.drop ((nameOf l).length + 1)) (by rw [List.length_drop]; omega)
                  have HBL : Hid (∀ W, Calls Tryd.prog 29 #[.string (str (l.drop ((nameOf l).length + 1))), .string ⟨#[32, 9]⟩] W fun e w' => e = .returned (.string (fldOf l).body) ∧ Chg NoB W w') := hid hbl
                  have HCALL : Hid (Calls Tryd.prog 28 #[.string (str l), .string ⟨#[58]⟩] wr fun e w' => e = .returned (.tuple #[.string (fldOf l).name, .string (str (l.drop ((nameOf l).length + 1))), .bool true]) ∧ Chg NoB wr w') := hid hcall
                  have hnl := (nameOf_at l).2.2.2
                  have hfn : (fldOf l).name.size ≤ 1000000 := by show (str _).size ≤ _; rw [str_size]; omega
                  have hfb : (fldOf l).body.size ≤ 1000000 := by show (str _).size ≤ _; rw [str_size]; exact Nat.le_trans (trimS_len _ _) (by rw [List.length_drop]; omega)
                  have HRT : Hid (∀ W, Calls Tryd.prog 17 #[.agg #[.string (fldOf l).name, .string (fldOf l).body]] W fun e w' => e = .returned (.bool (right (fldOf l))) ∧ Chg NoB W w') := hid (fun W => hd_right W (fldOf l) (le_max hfn) (le_max hfb))
                  have HOKL : Hid (okF l = right (fldOf l)) := hid (by unfold okF; rw [decide_eq_true hc, Bool.true_and])
                  clear hcall hbl hnl hc
                  obtain ⟨x, hx⟩ : ∃ x, x = fldOf l := ⟨_, rfl⟩
                  rw [← hx] at HBL HCALL HRT HOKL hfn hfb
                  have HFX := hid hx
                  clear hx
                  cases hr : right x
                  · have HP := hid (parse_form HSC.out HLG.out (all_not_l HL.out (HOKL.out.trans hr)))
                    go_wp2_with (first
                      | ((with_reducible (go_at_call 28; refine HCALL.out.mono ?_)); rintro e w2 ⟨rfl, hc2⟩; have HC3 := hid (HC2.out.trans hc2 (fun _ _ h => h)); clear hc2)
                      | ((with_reducible (go_at_call 29; refine (HBL.out _).mono ?_)); rintro e w3 ⟨rfl, hc3⟩; have HC4 := hid (HC3.out.trans hc3 (fun _ _ h => h)); clear hc3)
                      | ((with_reducible (go_at_call 17; refine (HRT.out _).mono ?_)); rintro e w4 ⟨rfl, hc4⟩; rw [hr]; have HC5 := hid ((HC4.out.alloc _).trans hc4 (fun _ _ h => h)); clear hc4))
                    go_ret3
                    exact ParseOut.bad HP.out rfl (HCW.out.trans HC5.out (fun _ _ h => h))
                  · have m1 : i + 1 ≤ maxLen := by unfold maxLen; omega
                    have m2 : (i + 1) * 32 ≤ 140737488355328 := by omega
                    go_wp2_with (first
                      | ((with_reducible (go_at_call 28; refine HCALL.out.mono ?_)); rintro e w2 ⟨rfl, hc2⟩; have HC3 := hid (HC2.out.trans hc2 (fun _ _ h => h)); have HOO3 := hid (HOO.out.keep hc2 (fun _ _ => not_false)); clear hc2)
                      | ((with_reducible (go_at_call 29; refine (HBL.out _).mono ?_)); rintro e w3 ⟨rfl, hc3⟩; have HC4 := hid (HC3.out.trans hc3 (fun _ _ h => h)); have HOO4 := hid (HOO3.out.keep hc3 (fun _ _ => not_false)); clear hc3)
                      | ((with_reducible (go_at_call 17; refine (HRT.out _).mono ?_)); rintro e w4 ⟨rfl, hc4⟩; rw [hr]; have HC5 := hid ((HC4.out.alloc _).trans hc4 (fun _ _ h => h)); have HOO5 := hid ((HOO4.out.alloc _).keep hc4 (fun _ _ => not_false)); have hbk := (Blk.new w3 #[.string x.name, .string x.body] 38).keep hc4 not_false; have q0 := hbk.cell 0; have q1 := hbk.cell 1; simp only [List.getElem?_toArray, List.getElem?_cons_succ, List.getElem?_cons_zero] at q0 q1; clear hc4 hbk)
                      | ((with_reducible refine wpList_append_all rfl (.tmp 94) (.tmp 96) 22 22 rfl 38 (.agg #[.string ⟨#[]⟩, .string ⟨#[]⟩]) 2 32 rfl info_fld rfl AO i cO rfl _ (HOO5.out.alloc _) (.slice (some ⟨w4.heap.size, 0, none⟩) 1 1) rfl 1 [.string x.name, .string x.body] ((Blk.new _ _ _).srcOf (e' := 38) rfl rfl (by simp [Value.oneCell'])) m1 m2 ?_); intro A' c' w5 ho5 hc5 hb5; have HO5 := hid ho5; have HC6 := hid hc5; have HB6 := hid hb5; clear ho5 hc5 hb5))
                    go_roundg (gk - 1)
                    case measure => omega
                    case rel =>
                      refine ⟨i + 1, c', A', rfl, by go_num, by omega, hid (HT.out.succ HL.out (HOKL.out.trans hr)), hid ?_, hid ?_, hid ?_⟩
                      · have := HO5.out
                        rw [List.take_add_one, HL.out, List.map_append, fldsC_append]
                        simp only [Option.toList_some, List.map_cons, List.map_nil]
                        rw [← show x = fldOf l from HFX.out]
                        exact this
                      · intro k hk
                        have h1 := (HC5.out.alloc (.cells #[.string x.name, .string x.body] 38)).size
                        have := HBC.out.1
                        rcases HB6.out with e | e
                        · exact HBO.out k (by rw [← e]; exact hk)
                        · rw [e] at hk; injection hk with hk; omega
                      · exact ((HC5.out.alloc _).trans HC6.out (fun k hk e => by have := HBO.out k e; have := HBC.out.1; omega))
                · rw [cut58_miss hc] at hcall
                  have HP := hid (parse_form HSC.out HLG.out (all_not_l HL.out (show okF l = false by unfold okF; rw [decide_eq_false hc]; rfl)))
                  have HBL : Hid (∀ W, Calls Tryd.prog 29 #[.string ⟨#[]⟩, .string ⟨#[32, 9]⟩] W fun e w' => e = .returned (.string ⟨#[]⟩) ∧ Chg NoB W w') := hid (fun W => trim_call W [] (by simp))
                  have HCALL : Hid (Calls Tryd.prog 28 #[.string (str l), .string ⟨#[58]⟩] wr fun e w' => e = .returned (.tuple #[.string (str l), .string ⟨#[]⟩, .bool false]) ∧ Chg NoB wr w') := hid hcall
                  clear hcall hc
                  go_wp2_with (first
                    | ((with_reducible (go_at_call 28; refine HCALL.out.mono ?_)); rintro e w2 ⟨rfl, hc2⟩; have HC3 := hid (HC2.out.trans hc2 (fun _ _ h => h)); clear hc2)
                    | ((with_reducible (go_at_call 29; refine (HBL.out _).mono ?_)); rintro e w3 ⟨rfl, hc3⟩; have HC4 := hid (HC3.out.trans hc3 (fun _ _ h => h)); clear hc3))
                  go_ret3
                  exact ParseOut.bad HP.out rfl ((HCW.out.trans HC4.out (fun _ _ h => h)).alloc _)
              · have t1 : decide ((i : Int) < (m : Int)) = false := decide_eq_false (by omega)
                have t2 : decide (i < m) = false := decide_eq_false hlt
                obtain rfl : i = m := by omega
                have HOK := hid (HT.out.all (by rw [← HM1.out]; exact Nat.le_refl _))
                have HTK : Hid ((groups ls).take i = groups ls) := hid (List.take_of_length_le (by rw [← HM1.out]; exact Nat.le_refl _))
                by_cases h64 : 64 < i
                · have t4 : decide (64 < (i : Int)) = true := decide_eq_true (by omega)
                  have HP := hid (parse_many HSC.out HLG.out HG3.out.2 HOK.out (by rw [← HM1.out]; exact h64))
                  go_wp2
                  go_ret3
                  exact ParseOut.bad HP.out rfl (HCW.out.trans HC2.out (fun _ _ h => h))
                · have t4 : decide (64 < (i : Int)) = false := decide_eq_false (by omega)
                  have HP := hid (parse_ok HSC.out HLG.out HG3.out.2 HOK.out (by rw [← HM1.out]; exact h64))
                  go_wp2
                  go_ret3
                  obtain ⟨p1, p2, p3⟩ := HP.out
                  refine ⟨AO, cO, ?_, ?_, HCW.out.trans HC2.out (fun _ _ h => h)⟩
                  · rw [p1, p2, p3, List.length_map, ← HM1.out]; rfl
                  · rw [p2, List.length_map, ← HM1.out]
                    have := HOO.out
                    rw [HTK.out] at this
                    exact this
end Go.Proofs.YtkphllolghlmeaaDoor
