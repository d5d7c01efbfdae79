/- header.Print: the walk. -/
import Derived.Test.YtkphllolghlmeaaDoorHdO
namespace Go.Proofs.YtkphllolghlmeaaDoor
open Go.RowKit

theorem tillShort_any {l : List Fld} (h : l.all (fun x => !longF x) = true) : l.any longF = false := by
  rw [List.any_eq_false]
  intro x hx
  have := List.all_eq_true.1 h x hx
  simpa using this
theorem take_foldS {l : List Fld} {i : Nat} {x : Fld} (hx : l[i]? = some x) : (l.take (i + 1)).flatMap foldS = (l.take i).flatMap foldS ++ foldS x := by
  rw [List.take_add_one, hx]; simp
set_option maxRecDepth 100000 in
set_option maxHeartbeats 16000000 in
theorem hd_print (w : World) (A : Option Addr) (n c : Nat) (l : List Fld) (h : FldsAt w A n l) (hn : n ≤ 1000000) (hl : Sized l) (hm : ML w) :
    Calls Tryd.prog 11 #[.slice A n c] w fun e w' => e = .returned (.tuple #[.string (str (printS l)), .int .i64 (printE l)]) ∧ Chg NoB w w' := by
  have HA := hid h
  have hlen := hid h.1
  have HM := hid hm
  clear h hm
  go_enter Tryd.func11, Tryd.ntmps11
  go_wp2
  go_loopg [13] n (fun gk v wr => ∃ i : Nat, v = .int .i64 i ∧ i + gk = n ∧ Hid (TillF right l i) ∧ Hid (Chg NoB w wr))
  case atStart => exact ⟨0, rfl, by omega, hid (TillF.zero _ _), hid (Chg.refl NoB w)⟩
  case round =>
    obtain ⟨i, rfl, h1, HN, HQ⟩ := hrel
    by_cases hlt : i < n
    · have t1 : decide ((i : Int) < (n : Int)) = true := decide_eq_true (by omega)
      have t2 : decide (i < n) = true := decide_eq_true hlt
      have i0 : (0 : Int) ≤ (i : Int) := by omega
      have i1 : (i : Int) < (n : Int) := by omega
      obtain ⟨b, o, x, rfl, hb, hx, k0, k1⟩ := (HA.out.keep HQ.out).get hlt
      have hz := hl.at hx
      have HX := hid hx
      clear hx
      cases hr : right x
      · have HE := hid (printE_form (all_not_f HX.out hr))
        go_wp2_with ((with_reducible (go_at_call 17; refine (hd_right _ x (le_max hz.1) (le_max hz.2)).mono ?_)); rintro e w1 ⟨rfl, hc1⟩; rw [hr])
        go_ret2
        exact ⟨by rw [HE.out, printS_bad HE.out (by decide)]; rfl, (HQ.out.alloc _).trans hc1 (fun _ _ h => h)⟩
      · go_wp2_with ((with_reducible (go_at_call 17; refine (hd_right _ x (le_max hz.1) (le_max hz.2)).mono ?_)); rintro e w1 ⟨rfl, hc1⟩; rw [hr])
        go_roundg (gk - 1)
        case measure => omega
        case rel => exact ⟨i + 1, by go_num, by omega, hid (HN.out.succ HX.out hr), hid ((HQ.out.alloc _).trans hc1 (fun _ _ h => h))⟩
    · have t1 : decide ((i : Int) < (n : Int)) = false := decide_eq_false (by omega)
      have t2 : decide (i < n) = false := decide_eq_false hlt
      have HR := hid (HN.out.all (by rw [hlen.out]; omega))
      by_cases h64 : 64 < n
      · have t3 : decide (64 < (n : Int)) = true := decide_eq_true (by omega)
        have HE := hid (printE_many HR.out (by rw [hlen.out]; exact h64))
        go_wp2
        go_ret2
        exact ⟨by rw [HE.out, printS_bad HE.out (by decide)]; rfl, HQ.out⟩
      · have t3 : decide (64 < (n : Int)) = false := decide_eq_false (by omega)
        have h64n : n ≤ 64 := by omega
        have HB := hid (Lib.IsBuilderF.of (Lib.fresh_isBuilder 47 5 wr))
        have HQ0 : Hid (Chg NoB w (wr.alloc (.cells #[.pointer none, .slice none 0 0] 47))) := hid (HQ.out.alloc _)
        have hbw : wr.heap.size ≤ (wr.alloc (.cells #[.pointer none, .slice none 0 0] 47)).heap.size := by simp
        have HBW := hid hbw
        have HWW := hid HQ.out.size
        clear hbw HN HQ
        go_wp2
        generalize wr.heap.size = B at HB HBW HWW ⊢
        clear t1 t2 hlt h1
        go_loopg [26] n (fun gk v wq => ∃ i : Nat, v = .int .i64 i ∧ i + gk = n ∧ B ≤ wq.heap.size ∧ Hid (Lib.IsBuilderF 47 5 B B (Lib.byteCells ((l.take i).flatMap foldS)) wq) ∧ Hid (TillF (fun x => !longF x) l i) ∧ Hid (Chg NoB w wq))
        case atStart => exact ⟨0, rfl, by omega, HBW.out, HB, hid (TillF.zero _ _), HQ0⟩
        case round =>
          clear HB HQ0 HBW
          obtain ⟨i, rfl, h1, hBw, HB, HN, HQ⟩ := hrel
          by_cases hlt : i < n
          · have t1 : decide ((i : Int) < (n : Int)) = true := decide_eq_true (by omega)
            have t2 : decide (i < n) = true := decide_eq_true hlt
            have i0 : (0 : Int) ≤ (i : Int) := by omega
            have i1 : (i : Int) < (n : Int) := by omega
            obtain ⟨b, o, x, rfl, hb, hx, k0, k1⟩ := (HA.out.keep HQ.out).get hlt
            have hz := hl.at hx
            have HX := hid hx
            clear hx
            have HM1 := hid (HM.out.keep (HQ.out.alloc (.cells #[.string x.name, .string x.body] 38)) not_false)
            have HB1 := hid (bld_keep HB.out ((Chg.refl NoB _).alloc (.cells #[.string x.name, .string x.body] 38)))
            have HQ1 := hid (HQ.out.alloc (.cells #[.string x.name, .string x.body] 38))
            have hpre : ((l.take i).flatMap foldS).length ≤ 256000384 := by
              have := flat_len (l.take i) (fun y hy => hl y (List.mem_of_mem_take hy))
              have h2 : (l.take i).length ≤ i := List.length_take_le _ _
              omega
            obtain ⟨pre, hpr⟩ : ∃ pre, pre = (l.take i).flatMap foldS := ⟨_, rfl⟩
            rw [← hpr] at HB1 hpre
            have HPR := hid hpr
            clear hpr HB
            obtain ⟨m, hmm⟩ : ∃ m, m = (linesF x).length := ⟨_, rfl⟩
            have hF : ∀ W : World, ML W → Calls Tryd.prog 22 #[.agg #[.string x.name, .string x.body]] W fun e w' => ∃ A c, e = .returned (.slice A m c) ∧ Own w' 9 1 A m c (strsC (linesF x)) ∧ Chg NoB W w' := fun W hW => by
              rw [hmm]; exact hd_folded W x hz.1 hz.2 hW
            have hm6 : m ≤ 4000006 := by
              have h1 := part_len (x := x) m hz
              have h2 : ∀ ls : List (List UInt8), ls.length ≤ (ls.flatMap crlf).length := by
                intro ls
                induction ls with
                | nil => simp
                | cons a r ih => simp [crlf] at ih ⊢; omega
              have h3 := h2 ((linesF x).take m)
              rw [List.length_take] at h3
              omega
            have hm1 : 0 < m := by
              rw [hmm]; unfold linesF
              split <;> simp
            have HMM := hid hmm
            clear hmm
            obtain ⟨go, rfl⟩ : ∃ go : Nat, go = gk := ⟨_, rfl⟩
            go_wp2_with ((with_reducible (go_at_call 22; refine (hF _ HM1.out).mono ?_)); rintro e w1 ⟨A1, c1, rfl, hO1, hc1⟩; have HO1 := hid hO1; have HB2 := hid (bld_keep HB1.out hc1); have HQ2 := hid (HQ1.out.trans hc1 (fun _ _ h => h)); have hBw1 : B ≤ w1.heap.size := Nat.le_trans hBw (Nat.le_trans (by simp) hc1.size); clear hO1 hc1 HB1 HQ1 HM1)
            obtain ⟨S, rfl, hSlt⟩ := HO1.out.addr hm1
            clear hSlt
            go_loopg [33] m (fun gk v wq => ∃ j : Nat, v = .int .i64 j ∧ j + gk = m ∧ B ≤ wq.heap.size ∧ Hid (Lib.IsBuilderF 47 5 B B (Lib.byteCells (pre ++ ((linesF x).take j).flatMap crlf)) wq) ∧ Hid (ShortTill (linesF x) j) ∧ Hid (Own wq 9 1 (some ⟨S, 0, none⟩) m c1 (strsC (linesF x))) ∧ Hid (Chg NoB w wq))
            case atStart => exact ⟨0, rfl, by omega, hBw1, hid (by simpa using HB2.out), hid (Nat.zero_le _), HO1, HQ2⟩
            case round =>
              clear HB2 HO1 HQ2
              obtain ⟨j, rfl, hj, hBw2, HB2, HS, HO, HQ2⟩ := hrel
              by_cases hjt : j < m
              · have u1 : decide ((j : Int) < (m : Int)) = true := decide_eq_true (by omega)
                have u2 : decide (j < m) = true := decide_eq_true hjt
                have j0 : (0 : Int) ≤ (j : Int) := by omega
                have j1 : (j : Int) < (m : Int) := by omega
                obtain ⟨ln, hln⟩ : ∃ ln, (linesF x)[j]? = some ln := ⟨_, List.getElem?_eq_getElem (by rw [← HMM.out]; exact hjt)⟩
                have kc : wr.cell? ⟨S, j, none⟩ = some (.string (str ln)) := HO.out.cell rfl j _ (strsC_get hln)
                have hll := line_len hln hz
                have HLN := hid hln
                clear hln
                have hss : (str ln).size = ln.length := str_size ln
                have HSS := hid hss
                have hsb : (str ln).size ≤ 4000006 := by omega
                have hadd : (str ln ++ ⟨#[13, 10]⟩).size = (str ln).size + 2 := ByteArray.size_append
                clear hss
                by_cases h998 : 998 < ln.length
                · have u3 : decide (998 < ((str ln).size : Int)) = true := decide_eq_true (by rw [HSS.out]; omega)
                  have u4 : decide (998 < (str ln).size) = true := decide_eq_true (by rw [HSS.out]; omega)
                  have HE := hid (printE_long HR.out (by rw [hlen.out]; omega) (any_is_f HX.out (longF_at HLN.out h998)))
                  go_wp2
                  go_ret2
                  exact ⟨by rw [HE.out, printS_bad HE.out (by decide)]; rfl, HQ2.out⟩
                · have u3 : decide (998 < ((str ln).size : Int)) = false := decide_eq_false (by rw [HSS.out]; omega)
                  have u4 : decide (998 < (str ln).size) = false := decide_eq_false (by rw [HSS.out]; omega)
                  have hp := part_len (x := x) j hz
                  have hW : ∀ s : ByteArray, s.size ≤ 4000008 → Calls Tryd.prog 23 #[.pointer (some ⟨B, 0, none⟩), .string s] wr fun e w' => e = .returned (.tuple #[.int .i64 s.size, .nilIface]) ∧ Lib.IsBuilderF 47 5 B B (Lib.byteCells (pre ++ ((linesF x).take j).flatMap crlf) ++ Lib.strCells s) w' ∧ Chg (GeX B S) wr w' := fun s hs => by
                    rcases HO.out.2 with ⟨h1, _⟩ | ⟨g, cur, fz, hA, hg, _⟩
                    · cases h1
                    · obtain rfl : S = g := by injection hA with hA; injection hA
                      exact writeString2 B B S _ s wr 9 cur fz HB2.out (by rw [Lib.byteCells_length, List.length_append]; omega) hBw2 hg (by decide)
                  have HW := hid hW
                  clear hW hp
                  go_wp2_with ((with_reducible (go_at_call 23; refine (HW.out _ ?hsz).mono ?_)))
                  case hsz => rw [hadd]; omega
                  rintro e w2 ⟨rfl, hB3, hC3⟩
                  have HB3 := hid hB3
                  have HC3 := hid hC3
                  clear hB3 hC3
                  go_wp2
                  go_roundg (gk - 1)
                  case measure => omega
                  case rel =>
                    refine ⟨j + 1, by go_num, by omega, Nat.le_trans hBw2 HC3.out.size, hid ?_, hid (HS.out.succ HLN.out h998), hid (HO.out.keep HC3.out (fun k hk e => e.2 (by simpa [blkOf] using hk.symm))), hid (HQ2.out.trans HC3.out (fun k hk e => by have := e.1; have := HWW.out; omega))⟩
                    rw [crlf_flat_succ HLN.out, ← List.append_assoc, byteCells_append]
                    have := HB3.out
                    rw [strCells_eq, show (str ln ++ ⟨#[13, 10]⟩).data.toList = ln ++ [13, 10] by rw [show (str ln ++ ⟨#[13, 10]⟩ : ByteArray) = str (ln ++ [13, 10]) from str_add _ _, str_toList]] at this
                    exact this
              · have u1 : decide ((j : Int) < (m : Int)) = false := decide_eq_false (by omega)
                have u2 : decide (j < m) = false := decide_eq_false hjt
                have HF := hid (HS.out.done (by rw [← HMM.out]; omega))
                go_wp2
                go_roundg (go - 1)
                case measure => omega
                case rel =>
                  refine ⟨i + 1, by go_num, by omega, hBw2, hid ?_, hid (HN.out.succ HX.out (by rw [HF.out]; rfl)), HQ2⟩
                  rw [take_foldS HX.out, ← HPR.out]
                  have := HB2.out
                  rw [foldS_done (by rw [← HMM.out]; omega)] at this
                  exact this
          · have t1 : decide ((i : Int) < (n : Int)) = false := decide_eq_false (by omega)
            have t2 : decide (i < n) = false := decide_eq_false hlt
            have hE : printE l = 0 := printE_ok HR.out (by rw [hlen.out]; omega) (tillShort_any (HN.out.all (by rw [hlen.out]; omega)))
            have HE := hid hE
            have HP := hid (printS_ok hE)
            have hpre : ((l.take i).flatMap foldS).length ≤ 256000384 := by
              have := flat_len (l.take i) (fun y hy => hl y (List.mem_of_mem_take hy))
              have h2 : (l.take i).length ≤ i := List.length_take_le _ _
              omega
            have hadd : (str ((l.take i).flatMap foldS) ++ ⟨#[13, 10]⟩).size = (str ((l.take i).flatMap foldS)).size + 2 := ByteArray.size_append
            have hsb : (str ((l.take i).flatMap foldS)).size ≤ 256000384 := by rw [str_size]; exact hpre
            have hStr : Calls Tryd.prog 24 #[.pointer (some ⟨B, 0, none⟩)] wr fun e w' => e = .returned (.string (str ((l.take i).flatMap foldS))) ∧ Chg NoB w w' :=
              (Tryd.Builder_String_any_f B B _ wr HB.out hBw).mono fun e w' ⟨h1, _, h2⟩ => ⟨h1, HQ.out.trans (G := Ge B) ⟨h2.os, h2.tape, h2.output, h2.size, fun k hk hn => h2.block k (by unfold Ge at hn; omega)⟩ (fun k hk e => by have : B ≤ k := e; have := HWW.out; omega)⟩
            have HT : Hid ((l.take i).flatMap foldS = l.flatMap foldS) := hid (by rw [List.take_of_length_le (by rw [hlen.out]; omega)])
            clear hE
            go_wp2_with ((with_reducible (go_at_call 24; refine hStr.mono ?_)); rintro e w1 ⟨rfl, hc1⟩)
            go_ret2
            refine ⟨?_, hc1⟩
            rw [HE.out, HP.out, ← HT.out, ← str_add]; rfl
end Go.Proofs.YtkphllolghlmeaaDoor
